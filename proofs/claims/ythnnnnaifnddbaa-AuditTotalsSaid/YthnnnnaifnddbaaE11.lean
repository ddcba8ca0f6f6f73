/- A region that draws its order: the order of the text serves for all. -/
import Derived.Test.YthnnnnaifnddbaaE10
import Derived.Orders
set_option linter.unusedVariables false
set_option linter.unusedSimpArgs false
namespace Go.Proofs.Ythnnnnaifnddbaa
open Go.RowKit (Below)

/-- Operation i is named among what operation j waits for. -/
def bf (all : Array Oper) (i j : Nat) : Bool := match all[j]? with
  | some o => o.after.toList.any fun e => Region.binds .any e && e.on == i
  | none => false
/-- The temporaries that an operation reads, asks or writes. -/
def namesOf (all : Array Oper) (o : Oper) : List Nat :=
  o.dst.toList ++ (o.op.operands.toList.filterMap fun | .tmp t => some t | _ => none) ++ (match o.guard with | some (j, _) => (dstOf all j).toList | none => [])
/-- Whoever names a temporary that another writes is ordered with it; an operation waits for earlier ones alone. -/
def drawOk (all : Array Oper) : Bool :=
  (all.toList.zipIdx.all fun x => x.1.after.toList.all fun e => !Region.binds .any e || decide (e.on < x.2)) &&
  all.toList.zipIdx.all fun y => all.toList.zipIdx.all fun x => if x.2 < y.2 then
    ((x.1.dst.toList.any fun d => (namesOf all y.1).contains d) || (y.1.dst.toList.any fun d => (namesOf all x.1).contains d)) → bf all x.2 y.2 else true

/-- One operation, its guard heeded, whose outcome is known. -/
def gstep (K : Kn) (all : Array Oper) (o : Oper) (tm : Nat → TV) (H : List Ob) (v : TV) (H' : List Ob) : Prop :=
  match o.guard with
  | none => stepW K tm H o fun v' H'' => v' = v ∧ H'' = H'
  | some (j, b) => match dstOf all j with
    | none => False
    | some t => match tm t with
      | .c (.d (.b x)) => (x = b → stepW K tm H o fun v' H'' => v' = v ∧ H'' = H') ∧ (x = !b → v = .c .any ∧ H' = H)
      | _ => False

/-- The run in the text's order, told step by step. -/
structure Tr (K : Kn) (all : Array Oper) where
  st : Nat → St
  v : Nat → TV
  eff : Nat → Bool
  rd : Nat → List Nat
  put : ∀ i o, all[i]? = some o → ∀ t, (st (i + 1)).tm t = if o.dst = some t then v i else (st i).tm t
  nt : ∀ i o, all[i]? = some o → (st (i + 1)).nt = (st i).nt
  keep : ∀ i o, all[i]? = some o → eff i = false → (st (i + 1)).H = (st i).H
  rstep : ∀ i o, all[i]? = some o → eff i = false → ∀ tm' H', (∀ t ∈ namesOf all o, tm' t = (st i).tm t) → (∀ r ∈ rd i, H'[r]? = (st i).H[r]?) → gstep K all o tm' H' (v i) H'
  estep : ∀ i o, all[i]? = some o → eff i = true → ∀ tm', (∀ t ∈ namesOf all o, tm' t = (st i).tm t) → gstep K all o tm' (st i).H (v i) (st (i + 1)).H
  hist : ∀ i o, all[i]? = some o → eff i = false → ∀ e, e < i → eff e = true → bf all e i = false → ∀ r ∈ rd i, (st e).H[r]? = (st i).H[r]?
  tot : ∀ i o, all[i]? = some o → eff i = true → ∀ e, e < i → eff e = true → bf all e i = true
  pend : ∀ i o, all[i]? = some o → eff i = true → ∀ j, j < i → eff j = false → bf all j i = false → ∀ r ∈ rd j, (st (i + 1)).H[r]? = (st i).H[r]?

section
variable {K : Kn} {all : Array Oper}

/-- What the temporaries hold when the listed operations have run. -/
def tmU (T : Tr K all) (L : Array Bool) : Nat → Nat → TV
  | 0, t => (T.st 0).tm t
  | i + 1, t => if L.getD i false = true ∧ (all[i]?).bind (·.dst) = some t then T.v i else tmU T L i t

/-- The listed operations are closed under what they wait for. -/
def Dn (all : Array Oper) (L : Array Bool) : Prop := ∀ j o, all[j]? = some o → L.getD j false = true → ∀ e ∈ o.after, Region.binds .any e = true → L.getD e.on false = true

theorem Dn.bf {L : Array Bool} (h : Dn all L) {i j : Nat} (hb : bf all i j = true) (hj : L.getD j false = true) : L.getD i false = true := by
  unfold Go.Proofs.Ythnnnnaifnddbaa.bf at hb
  split at hb
  · rename_i o ho
    rw [List.any_eq_true] at hb
    obtain ⟨e, he, h1⟩ := hb
    simp only [Bool.and_eq_true, beq_iff_eq] at h1
    rw [← h1.2]
    exact h j o ho hj e (by simpa using he) h1.1
  · cases hb

theorem ready_bf {L : Array Bool} {i j : Nat} (hj : j ∈ Region.ready .any all L) (hb : bf all i j = true) : L.getD i false = true := by
  obtain ⟨_, o, ho, h1⟩ := mem_ready.1 hj
  unfold bf at hb
  rw [ho] at hb
  simp only [List.any_eq_true] at hb
  obtain ⟨e, he, h2⟩ := hb
  simp only [Bool.and_eq_true, beq_iff_eq] at h2
  rw [← h2.2]
  exact h1 e (by simpa using he) h2.1

theorem zipIdx_mem {α : Type} {l : List α} {i : Nat} {x : α} (h : l[i]? = some x) : (x, i) ∈ l.zipIdx := by
  rw [List.mem_zipIdx_iff_getElem?]; exact h

theorem drawOk_conflict (h : drawOk all = true) {i j : Nat} {oi oj : Oper} (hi : all[i]? = some oi) (hj : all[j]? = some oj) (hij : i < j) {t : Nat}
    (hc : (oi.dst = some t ∧ t ∈ namesOf all oj) ∨ (oj.dst = some t ∧ t ∈ namesOf all oi)) : bf all i j = true := by
  unfold drawOk at h
  simp only [Bool.and_eq_true, List.all_eq_true] at h
  have h1 := h.2 (oj, j) (zipIdx_mem (by simpa using hj)) (oi, i) (zipIdx_mem (by simpa using hi))
  simp only [hij, if_true, decide_eq_true_eq] at h1
  apply h1
  rcases hc with ⟨hd, hn⟩ | ⟨hd, hn⟩
  · simp [hd, hn]
  · simp [hd, hn]

theorem drawOk_lt (h : drawOk all = true) {j : Nat} {oj : Oper} (hj : all[j]? = some oj) : ∀ e ∈ oj.after, Region.binds .any e = true → e.on < j := by
  unfold drawOk at h
  simp only [Bool.and_eq_true, List.all_eq_true] at h
  have h1 := h.1 (oj, j) (zipIdx_mem (by simpa using hj))
  intro e he hb
  simpa [hb] using h1 e (by simpa using he)

theorem dst_names {o : Oper} {t : Nat} (h : o.dst = some t) : t ∈ namesOf all o := by simp [namesOf, h]

theorem tmU_text (T : Tr K all) (hok : drawOk all = true) {L : Array Bool} (hD : Dn all L) {i : Nat} {o : Oper} (ho : all[i]? = some o) (hi : i ∈ Region.ready .any all L) {t : Nat} (ht : t ∈ namesOf all o) :
    ∀ n, i ≤ n → n ≤ all.size → tmU T L n t = (T.st i).tm t := by
  have hil : L.getD i false = false := by
    have := (mem_ready.1 hi).1
    cases h : L.getD i false with
    | false => rfl
    | true =>
      rw [Array.getD_eq_getD_getElem?] at this h
      cases h2 : L[i]? <;> simp [h2] at this h
      simp [h] at this
  have below : ∀ k, k ≤ i → tmU T L k t = (T.st k).tm t := by
    intro k
    induction k with
    | zero => intro _; rfl
    | succ k ih =>
      intro hk
      obtain ⟨ok, hok'⟩ : ∃ ok, all[k]? = some ok := by
        have : i < all.size := (Array.getElem?_eq_some_iff.1 ho).1
        exact ⟨all[k], by simp [show k < all.size by omega]⟩
      simp only [tmU, hok', Option.bind_some]
      rw [T.put k ok hok' t]
      by_cases hd : ok.dst = some t
      · have := ready_bf hi (drawOk_conflict hok hok' ho (by omega) (.inl ⟨hd, ht⟩))
        rw [if_pos ⟨this, hd⟩, if_pos hd]
      · rw [if_neg (by simp [hd]), if_neg hd]
        exact ih (by omega)
  intro n
  induction n with
  | zero => intro h1 _; (obtain rfl : i = 0 := (by omega)); exact below 0 (Nat.le_refl _)
  | succ n ih =>
    intro h1 h2
    by_cases e : i = n + 1
    · subst e; exact below _ (Nat.le_refl _)
    · obtain ⟨on, hon⟩ : ∃ on, all[n]? = some on := ⟨all[n], by simp [show n < all.size by omega]⟩
      simp only [tmU, hon, Option.bind_some]
      rw [if_neg, ih (by omega) (by omega)]
      rintro ⟨hl, hd⟩
      by_cases e2 : i = n
      · subst e2; rw [hil] at hl; cases hl
      · have := hD.bf (drawOk_conflict hok ho hon (by omega) (.inr ⟨hd, ht⟩)) hl
        rw [hil] at this; cases this

theorem tmU_put (T : Tr K all) (hok : drawOk all = true) {L : Array Bool} (hD : Dn all L) {i : Nat} {o : Oper} (ho : all[i]? = some o) (hil : L.getD i false = false) (hiL : i < L.size) (t : Nat) :
    ∀ n, n ≤ all.size → tmU T (L.setIfInBounds i true) n t = if i < n ∧ o.dst = some t then T.v i else tmU T L n t := by
  intro n
  induction n with
  | zero => intro _; simp [tmU]
  | succ n ih =>
    intro h2
    obtain ⟨on, hon⟩ : ∃ on, all[n]? = some on := ⟨all[n], by simp [show n < all.size by omega]⟩
    simp only [tmU, hon, Option.bind_some]
    by_cases e : i = n
    · subst e
      rw [ho] at hon; cases hon
      have h3 : (L.setIfInBounds i true).getD i false = true := by
        rw [Array.getD_eq_getD_getElem?]; simp [hiL]
      rw [h3, hil, ih (by omega)]
      by_cases hd : o.dst = some t
      · simp [hd]
      · simp [hd]
    · have h3 : (L.setIfInBounds i true).getD n false = L.getD n false := getD_set_ne _ e
      rw [h3, ih (by omega)]
      by_cases hd : i < n + 1 ∧ o.dst = some t
      · have hc : ¬ (L.getD n false = true ∧ on.dst = some t) := by
          rintro ⟨hl, hd2⟩
          have := hD.bf (drawOk_conflict hok ho hon (by omega) (.inl ⟨hd.2, dst_names hd2⟩)) hl
          rw [hil] at this; cases this
        have hd2 : i < n ∧ o.dst = some t := ⟨by omega, hd.2⟩
        rw [if_neg hc, if_pos hd, if_pos hd2]
      · have hd2 : ¬ (i < n ∧ o.dst = some t) := fun h => hd ⟨by omega, h.2⟩
        rw [if_neg hd, if_neg hd2]

/-- What stands when the listed operations have run. -/
def Inv (K : Kn) (B : Bs) (T : Tr K all) (L : Array Bool) (a : Act) (w : World) : Prop :=
  ∃ m, m ≤ all.size ∧ (∀ e, e < m → T.eff e = true → L.getD e false = true) ∧ (∀ e, m ≤ e → e < all.size → T.eff e = true → L.getD e false = false) ∧ (m = all.size ∨ T.eff m = true) ∧
    SimE K B a w { tm := tmU T L all.size, H := (T.st m).H, nt := (T.st 0).nt }

theorem next_eff (T : Tr K all) : ∀ d i, i + d = all.size → ∃ m, i ≤ m ∧ m ≤ all.size ∧ (m = all.size ∨ T.eff m = true) ∧ ∀ e, i ≤ e → e < m → T.eff e = false
  | 0, i, h => ⟨i, Nat.le_refl _, by omega, .inl (by omega), fun e h1 h2 => by omega⟩
  | d + 1, i, h => by
    by_cases he : T.eff i = true
    · exact ⟨i, Nat.le_refl _, by omega, .inr he, fun e h1 h2 => by omega⟩
    · obtain ⟨m, h1, h2, h3, h4⟩ := next_eff T d (i + 1) (by omega)
      refine ⟨m, by omega, h2, h3, fun e h5 h6 => ?_⟩
      by_cases e : e = i
      · subst e; simpa using he
      · exact h4 _ (by omega) h6

theorem keep_run (T : Tr K all) {i m : Nat} (hm : m ≤ all.size) (h : ∀ e, i ≤ e → e < m → T.eff e = false) : ∀ k, i ≤ k → k ≤ m → (T.st k).H = (T.st i).H := by
  intro k
  induction k with
  | zero => intro h1 _; (obtain rfl : i = 0 := (by omega)); rfl
  | succ k ih =>
    intro h1 h2
    by_cases e : i = k + 1
    · subst e; rfl
    · obtain ⟨o, ho⟩ : ∃ o, all[k]? = some o := ⟨all[k], by simp [show k < all.size by omega]⟩
      rw [T.keep k o ho (h k (by omega) (by omega)), ih (by omega) (by omega)]

theorem inv_step {B : Bs} (T : Tr K all) (hok : drawOk all = true) (hdst : dstOk (T.st 0).nt all = true) {L : Array Bool} (hL : L.size = all.size) (hD : Dn all L) {i : Nat} (hi : i ∈ Region.ready .any all L) {a : Act} {w : World}
    (h : Inv K B T L a w) {E : Exit → Act → World → Prop} {next : Act → World → Prop} (hn : ∀ a' w', Inv K B T (L.setIfInBounds i true) a' w' → next a' w') : wpOp K.P all E i next a w := by
  obtain ⟨hil0, o, ho, hpre⟩ := mem_ready.1 hi
  have hin : i < all.size := (Array.getElem?_eq_some_iff.1 ho).1
  have hil : L.getD i false = false := by
    rw [Array.getD_eq_getD_getElem?] at hil0 ⊢
    simp [hL ▸ hin] at hil0 ⊢
    exact hil0
  obtain ⟨m, hm, hb, ha, hme, hs⟩ := h
  have hnames : ∀ t ∈ namesOf all o, tmU T L all.size t = (T.st i).tm t := fun t ht => tmU_text T hok hD ho hi ht _ (Nat.le_of_lt hin) (Nat.le_refl _)
  -- the step over ideal states
  obtain ⟨H', hg, m', hm', hb', ha', hme', hH'⟩ : ∃ H', gstep K all o (tmU T L all.size) (T.st m).H (T.v i) H' ∧ ∃ m', m' ≤ all.size ∧ (∀ e, e < m' → T.eff e = true → (L.setIfInBounds i true).getD e false = true) ∧
      (∀ e, m' ≤ e → e < all.size → T.eff e = true → (L.setIfInBounds i true).getD e false = false) ∧ (m' = all.size ∨ T.eff m' = true) ∧ H' = (T.st m').H := by
    by_cases he : T.eff i = true
    · have him : i = m := by
        rcases Nat.lt_trichotomy i m with h | h | h
        · have := hb i h he; rw [hil] at this; cases this
        · exact h
        · have hm2 : T.eff m = true := by rcases hme with h2 | h2; omega; exact h2
          have := ready_bf hi (T.tot i o ho he m h hm2)
          rw [ha m (Nat.le_refl _) (by omega) hm2] at this; cases this
      subst him
      obtain ⟨m', h1, h2, h3, h4⟩ := next_eff T (all.size - (i + 1)) (i + 1) (by omega)
      refine ⟨(T.st (i + 1)).H, T.estep i o ho he _ hnames, m', h2, fun e h5 h6 => ?_, fun e h5 h6 h7 => ?_, h3, (keep_run T h2 h4 m' h1 (Nat.le_refl _)).symm⟩
      · by_cases e1 : i = e
        · subst e1; rw [Array.getD_eq_getD_getElem?]; simp [hL ▸ hin]
        · rw [getD_set_ne _ e1]
          by_cases e2 : e < i
          · exact hb e e2 h6
          · rw [h4 e (by omega) h5] at h6; cases h6
      · rw [getD_set_ne _ (by omega)]
        exact ha e (by omega) h6 h7
    · have he : T.eff i = false := by simpa using he
      refine ⟨(T.st m).H, T.rstep i o ho he _ _ hnames fun r hr => ?_, m, hm, fun e h5 h6 => ?_, fun e h5 h6 h7 => ?_, hme, rfl⟩
      · by_cases him : i ≤ m
        · have : ∀ k, i ≤ k → k ≤ m → (T.st k).H[r]? = (T.st i).H[r]? := by
            intro k
            induction k with
            | zero => intro h1 _; (obtain rfl : i = 0 := (by omega)); rfl
            | succ k ih =>
              intro h1 h2
              by_cases e : i = k + 1
              · subst e; rfl
              · obtain ⟨ok, hok'⟩ : ∃ o, all[k]? = some o := ⟨all[k], by simp [show k < all.size by omega]⟩
                rw [← ih (by omega) (by omega)]
                by_cases hek : T.eff k = true
                · have hik : i < k := by
                    rcases Nat.lt_or_ge i k with h | h
                    · exact h
                    · obtain rfl : i = k := by omega
                      rw [he] at hek; cases hek
                  refine T.pend k ok hok' hek i hik he ?_ r hr
                  cases hbf : bf all i k with
                  | false => rfl
                  | true =>
                    have := hD.bf hbf (hb k (by omega) hek)
                    rw [hil] at this; cases this
                · rw [T.keep k ok hok' (by simpa using hek)]
          exact this m him (Nat.le_refl _)
        · have hm2 : T.eff m = true := by rcases hme with h2 | h2; omega; exact h2
          refine T.hist i o ho he m (by omega) hm2 ?_ r hr
          cases hbf : bf all m i with
          | false => rfl
          | true =>
            have := ready_bf hi hbf
            rw [ha m (Nat.le_refl _) (by omega) hm2] at this; cases this
      · exact getD_set_true (hb e h5 h6)
      · have : i ≠ e := fun h => by subst h; rw [he] at h7; cases h7
        rw [getD_set_ne _ this]
        exact ha e h5 h6 h7
  have hds : ∀ k, o.dst = some k → k < (T.st 0).nt := fun k hk => by
    have := Array.all_eq_true_iff_forall_mem.1 hdst o (Array.mem_of_getElem? ho)
    simp only [hk] at this
    simpa using this
  have fin : ∀ a' w', SimE K B a' w' (({ tm := tmU T L all.size, H := H', nt := (T.st 0).nt } : St).put o.dst (T.v i)) → next a' w' := by
    intro a' w' hs'
    refine hn a' w' ⟨m', hm', hb', ha', hme', ?_⟩
    have : (({ tm := tmU T L all.size, H := H', nt := (T.st 0).nt } : St).put o.dst (T.v i)) = { tm := tmU T (L.setIfInBounds i true) all.size, H := (T.st m').H, nt := (T.st 0).nt } := by
      have h1 : (({ tm := tmU T L all.size, H := H', nt := (T.st 0).nt } : St).put o.dst (T.v i)).tm = tmU T (L.setIfInBounds i true) all.size := by
        funext t
        rw [put_tm, tmU_put T hok hD ho hil (by omega) t _ (Nat.le_refl _)]
        by_cases hd : o.dst = some t
        · simp [hd, hin]
        · simp [hd]
      have h2 := put_H ({ tm := tmU T L all.size, H := H', nt := (T.st 0).nt } : St) o.dst (T.v i)
      have h3 := put_nt ({ tm := tmU T L all.size, H := H', nt := (T.st 0).nt } : St) o.dst (T.v i)
      generalize (({ tm := tmU T L all.size, H := H', nt := (T.st 0).nt } : St).put o.dst (T.v i)) = q at h1 h2 h3
      cases q
      simp only at h1 h2 h3
      subst h1 h2 h3
      rw [hH']
    rw [this] at hs'
    exact hs'
  obtain ⟨Z, β, hs⟩ := hs
  unfold wpOp
  rw [ho]
  simp only
  unfold gstep at hg
  split at hg
  · rename_i hgd
    rw [if_pos (by simp [Region.wanted, hgd])]
    refine .inl (stepW_sound hs hg hds fun v' H'' a' w' ⟨h1, h2⟩ hs' => ?_)
    subst h1 h2
    exact fin a' w' hs'
  · rename_i j b hgd
    split at hg
    · exact hg.elim
    · rename_i t ht
      split at hg
      · rename_i x hx
        have hy := yielded_of hs ht hx
        by_cases e : x = b
        · rw [if_pos (by simp [Region.wanted, hgd, hy, e])]
          refine .inl (stepW_sound hs (hg.1 e) hds fun v' H'' a' w' ⟨h1, h2⟩ hs' => ?_)
          subst h1 h2
          exact fin a' w' hs'
        · rw [if_neg (by simp [Region.wanted, hgd, hy, e])]
          obtain ⟨h1, h2⟩ := hg.2 (by cases x <;> cases b <;> simp_all)
          refine fin _ _ ⟨Z, β, ?_⟩
          rw [h1, h2]
          exact hs.put hs.mem (Ext.refl _ _ _ _) (.c _ _ (.any _)) hds
      · exact hg.elim

theorem ready_empty (hok : drawOk all = true) {L : Array Bool} (hL : L.size = all.size) (hr : Region.ready .any all L = []) : ∀ i, i < all.size → L.getD i false = true := by
  intro i
  induction i using Nat.strongRecOn with
  | _ i ih =>
    intro hi
    cases h : L.getD i false with
    | true => rfl
    | false =>
      have : i ∈ Region.ready .any all L := by
        refine mem_ready.2 ⟨?_, all[i], by simp [hi], fun e he hb => ?_⟩
        · rw [Array.getD_eq_getD_getElem?] at h ⊢
          simp [hL ▸ hi] at h ⊢
          exact h
        · have := drawOk_lt hok (j := i) (oj := all[i]) (by simp [hi]) e he hb
          exact ih _ this (by omega)
      rw [hr] at this; cases this

theorem Dn.set {L : Array Bool} (hD : Dn all L) (hL : L.size = all.size) {i : Nat} (hi : i ∈ Region.ready .any all L) : Dn all (L.setIfInBounds i true) := by
  obtain ⟨_, o, ho, hpre⟩ := mem_ready.1 hi
  intro j oj hj hl e he hb
  by_cases h : i = j
  · subst h
    rw [ho] at hj; cases hj
    exact getD_set_true (hpre e he hb)
  · rw [getD_set_ne _ h] at hl
    exact getD_set_true (hD j oj hj hl e he hb)

/-- How many are not listed yet. -/
def openN (L : Array Bool) : Nat := L.toList.countP fun b => !b
theorem countP_set : ∀ (l : List Bool) (i : Nat), l[i]? = some false → (l.set i true).countP (fun b => !b) + 1 = l.countP (fun b => !b)
  | [], i, h => by simp at h
  | b :: l, 0, h => by simp at h; subst h; simp
  | b :: l, i + 1, h => by
    have := countP_set l i (by simpa using h)
    cases b <;> simp <;> omega

theorem wpAny_tr {B : Bs} (T : Tr K all) (hok : drawOk all = true) (hdst : dstOk (T.st 0).nt all = true) {E : Exit → Act → World → Prop}
    (hE : ∀ a w, SimE K B a w (T.st all.size) → E .normal a w) : ∀ (fuel : Nat) (L : Array Bool) (a : Act) (w : World), L.size = all.size → openN L ≤ fuel → Dn all L → Inv K B T L a w →
    wpAny K.P .any all E fuel L a w := by
  have done : ∀ (L : Array Bool) (a : Act) (w : World), L.size = all.size → Region.ready .any all L = [] → Inv K B T L a w → E .normal a w := by
    intro L a w hL hr hI
    have hall := ready_empty hok hL hr
    obtain ⟨m, hm, hb, ha, hme, hs⟩ := hI
    have hm2 : m = all.size := by
      rcases hme with h | h
      · exact h
      · rcases Nat.lt_or_ge m all.size with h2 | h2
        · have := ha m (Nat.le_refl _) h2 h
          rw [hall m h2] at this; cases this
        · omega
    subst hm2
    have htm : ∀ k, k ≤ all.size → tmU T L k = (T.st k).tm := by
      intro k
      induction k with
      | zero => intro _; rfl
      | succ k ih =>
        intro hk
        obtain ⟨o, ho⟩ : ∃ o, all[k]? = some o := ⟨all[k], by simp [show k < all.size by omega]⟩
        funext t
        simp only [tmU, ho, Option.bind_some, hall k (by omega), true_and, T.put k o ho t, ih (by omega)]
    have hnt : ∀ k, k ≤ all.size → (T.st k).nt = (T.st 0).nt := by
      intro k
      induction k with
      | zero => intro _; rfl
      | succ k ih =>
        intro hk
        obtain ⟨o, ho⟩ : ∃ o, all[k]? = some o := ⟨all[k], by simp [show k < all.size by omega]⟩
        rw [T.nt k o ho, ih (by omega)]
    apply hE
    rw [htm _ (Nat.le_refl _), ← hnt _ (Nat.le_refl _)] at hs
    exact hs
  intro fuel
  induction fuel with
  | zero =>
    intro L a w hL hN hD hI
    have hr : Region.ready .any all L = [] := by
      rw [List.eq_nil_iff_forall_not_mem]
      intro i hi
      obtain ⟨h1, o, ho, _⟩ := mem_ready.1 hi
      have hin : i < L.size := hL ▸ (Array.getElem?_eq_some_iff.1 ho).1
      have h2 : L.toList[i]? = some false := by
        rw [Array.getD_eq_getD_getElem?] at h1
        simp [hin] at h1 ⊢
        exact h1
      have := countP_set L.toList i h2
      unfold openN at hN
      omega
    exact ⟨hr, done L a w hL hr hI⟩
  | succ fuel ih =>
    intro L a w hL hN hD hI
    refine ⟨fun hr => done L a w hL hr hI, fun i hi => inv_step T hok hdst hL hD hi hI fun a' w' hI' => ih _ a' w' (by simpa using hL) ?_ (hD.set hL hi) hI'⟩
    obtain ⟨h1, o, ho, _⟩ := mem_ready.1 hi
    have hin : i < L.size := hL ▸ (Array.getElem?_eq_some_iff.1 ho).1
    have h2 : L.toList[i]? = some false := by
      rw [Array.getD_eq_getD_getElem?] at h1
      simp [hin] at h1 ⊢
      exact h1
    have := countP_set L.toList i h2
    unfold openN at hN ⊢
    simp only [Array.toList_setIfInBounds]
    omega

theorem SimE.drew {B : Bs} {a : Act} {w : World} {s : St} (h : SimE K B a w s) : SimE K B a w.drew s := by
  obtain ⟨Z, β, hs⟩ := h
  have := hs.mem.drew
  exact ⟨Z, β, this.1, hs.nt, hs.df, fun i => (hs.tm i).ext this.2, hs.ext.trans this.2⟩

theorem can_region_tr {H1 : List Ob} {s : St} {Φ : Exit → St → Prop} {id : Nat} (T : Tr K all) (hm : K.P.follows .mixedOrders = true) (hok : drawOk all = true) (hs0 : T.st 0 = s) (hdst : dstOk s.nt all = true)
    (h : Φ .normal (T.st all.size)) : Can K H1 (.region id all true) s Φ := by
  intro B hB a w hs
  subst hs0
  refine wp_region_any hm ?_
  have hrep : ∀ i, (Array.replicate all.size false).getD i false = false := fun i => by rw [Array.getD_eq_getD_getElem?]; simp [Array.getElem?_replicate]; split <;> rfl
  refine wpAny_tr T hok hdst (fun a w hs => ⟨_, h, hs⟩) _ _ _ _ (by simp) (by unfold openN; exact Nat.le_trans List.countP_le_length (by simp)) (fun j o _ hl => absurd hl (by rw [hrep]; simp)) ?_
  obtain ⟨m, h1, h2, h3, h4⟩ := next_eff T all.size 0 (by omega)
  refine ⟨m, h2, fun e h5 h6 => ?_, fun e _ _ _ => hrep e, h3, ?_⟩
  · rw [h4 e (by omega) h5] at h6; cases h6
  · have htm : ∀ k, tmU T (Array.replicate all.size false) k = (T.st 0).tm := by
      intro k
      induction k with
      | zero => rfl
      | succ k ih => funext t; simp only [tmU, hrep, ih]; simp
    rw [htm, keep_run T h2 h4 m (by omega) (Nat.le_refl _)]
    exact hs.drew
end
end Go.Proofs.Ythnnnnaifnddbaa
