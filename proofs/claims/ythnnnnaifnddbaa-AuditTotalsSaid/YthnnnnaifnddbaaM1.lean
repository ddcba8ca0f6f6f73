/- Sizes, depths and totals of trees: plain. -/
import Derived.Test.YthnnnnaifnddbaaE18
set_option linter.unusedVariables false
set_option linter.unusedSimpArgs false
namespace Go.Proofs.Ythnnnnaifnddbaa

def mx : List Nat → Nat
  | [] => 0
  | x :: l => max x (mx l)
theorem mx_append (a b : List Nat) : mx (a ++ b) = max (mx a) (mx b) := by
  induction a with
  | nil => simp [mx]
  | cons x a ih => simp only [List.cons_append, mx, ih]; omega
theorem mx_le {l : List Nat} {n : Nat} (h : ∀ x ∈ l, x ≤ n) : mx l ≤ n := by
  induction l with
  | nil => simp [mx]
  | cons x l ih =>
    have h1 := h x (by simp)
    have h2 := ih fun y hy => h y (by simp [hy])
    simp only [mx]; omega
theorem le_mx {l : List Nat} {x : Nat} (h : x ∈ l) : x ≤ mx l := by
  induction l with
  | nil => simp at h
  | cons y l ih =>
    simp only [mx]
    rcases List.mem_cons.1 h with rfl | h
    · omega
    · have := ih h; omega
theorem take_succ_map {α β : Type} (l : List α) (f : α → β) (i : Nat) (h : i < l.length) : (l.take (i + 1)).map f = (l.take i).map f ++ [f l[i]] := by
  rw [List.take_succ_eq_append_getElem h, List.map_append]; rfl
theorem sum_take_succ {α : Type} (l : List α) (f : α → Nat) (i : Nat) (h : i < l.length) : ((l.take (i + 1)).map f).sum = ((l.take i).map f).sum + f l[i] := by
  rw [take_succ_map l f i h, List.sum_append]; simp
theorem mx_take_succ {α : Type} (l : List α) (f : α → Nat) (i : Nat) (h : i < l.length) : mx ((l.take (i + 1)).map f) = max (mx ((l.take i).map f)) (f l[i]) := by
  rw [take_succ_map l f i h, mx_append]; simp [mx]
theorem all_take_succ {α : Type} (l : List α) (f : α → Bool) (i : Nat) (h : i < l.length) : (l.take (i + 1)).all f = ((l.take i).all f && f l[i]) := by
  rw [List.take_succ_eq_append_getElem h, List.all_append]; simp
theorem sum_take_le {α : Type} (l : List α) (f : α → Nat) (i : Nat) : ((l.take i).map f).sum ≤ (l.map f).sum := by
  conv => rhs; rw [← List.take_append_drop i l, List.map_append, List.sum_append]
  omega
theorem mem_sum_le {l : List Nat} {x : Nat} (h : x ∈ l) : x ≤ l.sum := by
  induction l with
  | nil => simp at h
  | cons y l ih =>
    rcases List.mem_cons.1 h with rfl | h
    · simp
    · have := ih h; simp only [List.sum_cons]; omega

theorem foldl_take_succ {α β : Type} (l : List α) (f : β → α → β) (a : β) (i : Nat) (h : i < l.length) : (l.take (i + 1)).foldl f a = f ((l.take i).foldl f a) l[i] := by
  rw [List.take_succ_eq_append_getElem h, List.foldl_append]; rfl

def Ty.size (t : Ty) : Nat := 1 + (t.kids.attach.map fun ⟨k, h⟩ => k.size).sum
termination_by SizeOf.sizeOf t
decreasing_by exact Ty.kid_lt h
theorem Ty.size_eq (t : Ty) : t.size = 1 + (t.kids.map Ty.size).sum := by
  rw [Ty.size]; simp
def Ty.depth (t : Ty) : Nat := mx (t.kids.attach.map fun ⟨k, h⟩ => k.depth) + 1
termination_by SizeOf.sizeOf t
decreasing_by exact Ty.kid_lt h
theorem Ty.depth_eq (t : Ty) : t.depth = mx (t.kids.map Ty.depth) + 1 := by
  rw [Ty.depth]; simp
def Pr.size (t : Pr) : Nat := 1 + (t.kids.attach.map fun ⟨k, h⟩ => k.size).sum
termination_by SizeOf.sizeOf t
decreasing_by exact Pr.kid_lt h
theorem Pr.size_eq (t : Pr) : t.size = 1 + (t.kids.map Pr.size).sum := by
  rw [Pr.size]; simp
def Pr.depth (t : Pr) : Nat := mx (t.kids.attach.map fun ⟨k, h⟩ => k.depth) + 1
termination_by SizeOf.sizeOf t
decreasing_by exact Pr.kid_lt h
theorem Pr.depth_eq (t : Pr) : t.depth = mx (t.kids.map Pr.depth) + 1 := by
  rw [Pr.depth]; simp

/-- What holds of every type whose kids it holds of. -/
theorem Ty.ind {p : Ty → Prop} (h : ∀ t : Ty, (∀ k ∈ t.kids, p k) → p t) (t : Ty) : p t := h t fun k hk => Ty.ind h k
termination_by SizeOf.sizeOf t
decreasing_by exact Ty.kid_lt hk
theorem Pr.ind {p : Pr → Prop} (h : ∀ t : Pr, (∀ k ∈ t.kids, p k) → p t) (t : Pr) : p t := h t fun k hk => Pr.ind h k
termination_by SizeOf.sizeOf t
decreasing_by exact Pr.kid_lt hk

theorem Ty.size_pos (t : Ty) : 0 < t.size := by rw [Ty.size_eq]; omega
theorem Pr.size_pos (t : Pr) : 0 < t.size := by rw [Pr.size_eq]; omega
theorem Ty.kid_size {t k : Ty} (h : k ∈ t.kids) : k.size < t.size := by
  have := mem_sum_le (List.mem_map_of_mem (f := Ty.size) h)
  rw [t.size_eq]; omega
theorem Pr.kid_size {t k : Pr} (h : k ∈ t.kids) : k.size < t.size := by
  have := mem_sum_le (List.mem_map_of_mem (f := Pr.size) h)
  rw [t.size_eq]; omega
theorem Ty.depth_le (t : Ty) : t.depth ≤ t.size := by
  induction t using Ty.ind with
  | _ t ih =>
    rw [Ty.depth_eq]
    have : mx (t.kids.map Ty.depth) ≤ t.size - 1 := mx_le fun x hx => by
      obtain ⟨k, hk, rfl⟩ := List.mem_map.1 hx
      have := ih k hk
      have := Ty.kid_size hk
      omega
    have := t.size_pos
    omega
theorem Pr.depth_le (t : Pr) : t.depth ≤ t.size := by
  induction t using Pr.ind with
  | _ t ih =>
    rw [Pr.depth_eq]
    have : mx (t.kids.map Pr.depth) ≤ t.size - 1 := mx_le fun x hx => by
      obtain ⟨k, hk, rfl⟩ := List.mem_map.1 hx
      have := ih k hk
      have := Pr.kid_size hk
      omega
    have := t.size_pos
    omega
theorem Ty.kids_len (t : Ty) : t.kids.length < t.size := by
  rw [Ty.size_eq]
  have : t.kids.length ≤ (t.kids.map Ty.size).sum := by
    induction t.kids with
    | nil => simp
    | cons k ks ih => have := k.size_pos; simp; omega
  omega
theorem Pr.kids_len (t : Pr) : t.kids.length < t.size := by
  rw [Pr.size_eq]
  have : t.kids.length ≤ (t.kids.map Pr.size).sum := by
    induction t.kids with
    | nil => simp
    | cons k ks ih => have := k.size_pos; simp; omega
  omega

/-- What is left of m behind s; -1 if it does not do, or there was a fault. -/
def bud (c : Bool) (m s : Nat) : Int := if c = true ∧ s ≤ m then ((m - s : Nat) : Int) else -1
theorem bud_nonneg {c : Bool} {m s : Nat} : 0 ≤ bud c m s ↔ c = true ∧ s ≤ m := by unfold bud; split <;> simp_all <;> omega
theorem bud_eq {c : Bool} {m s : Nat} (h : 0 ≤ bud c m s) : bud c m s = ((m - s : Nat) : Int) := by unfold bud; rw [if_pos (bud_nonneg.1 h)]
theorem bud_step {c c' : Bool} {m s s' : Nat} (h : 0 ≤ bud c m s) : bud c' (m - s) s' = bud (c && c') m (s + s') := by
  have := bud_nonneg.1 h
  unfold bud
  by_cases h1 : c' = true ∧ s' ≤ m - s
  · rw [if_pos h1, if_pos ⟨by simp [this.1, h1.1], by omega⟩]; congr 1; omega
  · rw [if_neg h1, if_neg]
    rintro ⟨h2, h3⟩
    simp [this.1] at h2
    exact h1 ⟨h2, by omega⟩
theorem bud_neg {c : Bool} {m s : Nat} (h : ¬ 0 ≤ bud c m s) : bud c m s = -1 := by unfold bud at h ⊢; split <;> simp_all <;> omega
theorem bud_lt (c : Bool) (m s : Nat) : bud c m s ≤ m ∧ -1 ≤ bud c m s := by unfold bud; split <;> omega

def Ty.few (t : Ty) (m : Nat) : Bool := decide (t.size ≤ m) && decide (t.depth ≤ 150)
def Pr.fewT (p : Pr) : Bool := p.t.few 300 && p.kids.attach.all fun ⟨k, h⟩ => k.fewT
termination_by SizeOf.sizeOf p
decreasing_by exact Pr.kid_lt h
theorem Pr.fewT_eq (p : Pr) : p.fewT = (p.t.few 300 && p.kids.all Pr.fewT) := by
  rw [Pr.fewT]
  congr 1
  rw [Bool.eq_iff_iff]
  simp
def Pr.few (p : Pr) (m : Nat) : Bool := decide (0 ≤ bud p.fewT m p.size) && decide (p.depth ≤ 150)
theorem Pr.few_iff {p : Pr} {m : Nat} : p.few m = true ↔ p.fewT = true ∧ p.size ≤ m ∧ p.depth ≤ 150 := by
  simp only [Pr.few, Bool.and_eq_true, decide_eq_true_eq, bud_nonneg]
  exact and_assoc

/-- Totals of nodes. -/
structure Tot where
  pre : Nat
  news : Nat
  calls : Nat
  thr : Nat
def Tot.enc (t : Tot) : List Dat := [dI t.pre, dI t.news, dI t.calls, dI t.thr]
def Tot.add (a b : Tot) : Tot := ⟨a.pre + b.pre, a.news + b.news, a.calls + b.calls, a.thr + b.thr⟩
def Pr.isPre (p : Pr) : Bool := decide (2 ≤ p.kind) && decide (p.kind ≤ 5)
def Pr.nodeT (p : Pr) : Tot := if p.isPre then ⟨1, 0, 0, 1⟩ else if p.kind = 6 then ⟨0, 1, 0, 0⟩ else if p.kind = 8 then ⟨0, 0, 1, 1⟩ else ⟨0, 0, 0, 0⟩
def Tot.behind (b : Bool) (t : Tot) : Tot := if b then { t with thr := 0 } else t
def Pr.tot (p : Pr) : Tot := (p.kids.attach.map fun ⟨k, h⟩ => k.tot).foldl (fun a t => a.add (t.behind p.isPre)) p.nodeT
termination_by SizeOf.sizeOf p
decreasing_by exact Pr.kid_lt h
theorem Pr.tot_eq (p : Pr) : p.tot = p.kids.foldl (fun a k => a.add (k.tot.behind p.isPre)) p.nodeT := by
  rw [Pr.tot]
  rw [List.foldl_map]
  exact List.foldl_attach (l := p.kids) (f := fun a (k : Pr) => a.add (k.tot.behind p.isPre)) (b := p.nodeT)
def Tot.max (t : Tot) (n : Nat) : Prop := t.pre + t.news + t.calls ≤ n ∧ t.thr ≤ t.pre + t.calls
theorem Pr.nodeT_max (p : Pr) : p.nodeT.max 1 := by
  unfold Pr.nodeT Tot.max
  split
  · simp
  · split
    · simp
    · split <;> simp
theorem Tot.add_max {a b : Tot} {m n : Nat} (ha : a.max m) (hb : b.max n) (q : Bool) : (a.add (b.behind q)).max (m + n) := by
  unfold Tot.max Tot.add Tot.behind at *
  cases q <;> simp <;> omega
theorem foldl_max (q : Bool) : ∀ (ks : List Pr) (a : Tot) (m : Nat), a.max m → (∀ k ∈ ks, k.tot.max k.size) → (ks.foldl (fun a k => a.add (k.tot.behind q)) a).max (m + (ks.map Pr.size).sum)
  | [], a, m, ha, _ => by simpa using ha
  | k :: ks, a, m, ha, hk => by
    have h1 := Tot.add_max ha (hk k (by simp)) q
    have h2 := foldl_max q ks _ _ h1 fun k' h' => hk k' (by simp [h'])
    simpa [Nat.add_assoc] using h2
theorem Pr.tot_max (p : Pr) : p.tot.max p.size := by
  induction p using Pr.ind with
  | _ p ih =>
    rw [Pr.tot_eq, Pr.size_eq]
    exact foldl_max _ _ _ _ p.nodeT_max ih
def Pr.totN (p : Pr) (i : Nat) : Tot := (p.kids.take i).foldl (fun a k => a.add (k.tot.behind p.isPre)) p.nodeT
theorem Pr.totN_max (p : Pr) (i : Nat) : (p.totN i).max (1 + ((p.kids.take i).map Pr.size).sum) := foldl_max _ _ _ _ p.nodeT_max fun k _ => k.tot_max
theorem Tot.max_le {t : Tot} {n : Nat} (h : t.max n) : t.pre ≤ n ∧ t.news ≤ n ∧ t.calls ≤ n ∧ t.thr ≤ n := by unfold Tot.max at h; omega
theorem imax (a b : Nat) : (if (b : Int) > (a : Int) then (b : Int) else (a : Int)) = ((max a b : Nat) : Int) := by split <;> omega
theorem imax' (a b : Nat) : (if (a : Int) < (b : Int) then (b : Int) else (a : Int)) = ((max a b : Nat) : Int) := by split <;> omega
end Go.Proofs.Ythnnnnaifnddbaa
