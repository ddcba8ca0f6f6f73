/- The ideal values and objects, and how the machine's memory stands for them. -/
import Derived.WalkKit
import Derived.Below
set_option linter.unusedVariables false
set_option linter.unusedSimpArgs false
namespace Go.Proofs.Ythnnnnaifnddbaa
open Go.RowKit (Below)

/-- Plain data: it leads to no memory that may change. -/
inductive Dat where
  | b (x : Bool)
  | i (k : IntKind) (n : Int)
  | s (x : ByteArray)
  | l (es : List (List Dat))
  | m (ks vs : List Dat)

/-- What one cell holds. -/
inductive CV where
  | d (x : Dat)
  | ref (k off : Nat)
  | ep (cs : List Dat) (off : Nat)
  | rp (k n i off : Nat)
  | vs (k n : Nat)
  | fl (es : List (List Dat))
  | nil
  | fn (f : FuncId) (cap : List CV)
  | mp (k : Nat)
  | k (v : Value)
  | any

/-- What a temporary holds. -/
inductive TV where
  | c (x : CV)
  | g (xs : List CV)
  | t (xs : List TV)

/-- Objects: variables, rows that are appended to, maps. -/
inductive Ob where
  | none
  | box (ty : TypeId) (cs : List CV)
  | row (ty : TypeId) (es : List (List Dat)) (fz : Bool)
  | mp (es : List (Dat × TV)) (fz : Bool)

abbrev Zs := Nat → Nat → Prop
abbrev Bl := Nat → Option (Nat × Nat)

def isBox (H : List Ob) (k : Nat) : Prop := ∃ ty cs, H[k]? = some (.box ty cs)
def isRow (H : List Ob) (k : Nat) : Prop := ∃ ty es fz, H[k]? = some (.row ty es fz)
def isMap (H : List Ob) (k : Nat) : Prop := ∃ es fz, H[k]? = some (.mp es fz)
def live (H : List Ob) (k : Nat) : Prop := ∃ o, H[k]? = some o ∧ o ≠ .none
def szOf (P : Program) (t : TypeId) : Nat := ((P.info? t).map (·.size)).getD 0

inductive RelD (w : World) (Z : Zs) : Dat → Value → Prop
  | b (x : Bool) : RelD w Z (.b x) (.bool x)
  | i (k : IntKind) (n : Int) : RelD w Z (.i k n) (.int k n)
  | s (x : ByteArray) (h : x.size ≤ 140737488355328) : RelD w Z (.s x) (.string x)
  | l (es : List (List Dat)) (A : Option Addr) (c sz : Nat) (g : Nat → Nat → Value)
      (hn : es.length ≤ 140737488355328) (hc : es.length ≤ c)
      (hsz : ∀ (i : Nat) e, es[i]? = some e → e.length = sz)
      (hA : es ≠ [] → ∃ ad, A = some ad)
      (hcell : ∀ ad, A = some ad → ∀ i, i < es.length → ∀ j, j < sz →
        w.cell? (ad.add (i * sz + j)) = some (g i j) ∧ Z (ad.add (i * sz + j)).block (ad.add (i * sz + j)).off)
      (hrel : ∀ (i : Nat) e, es[i]? = some e → ∀ (j : Nat) d, e[j]? = some d → RelD w Z d (g i j)) :
      RelD w Z (.l es) (.slice A es.length c)
  | m (ks vs : List Dat) (b : Nat) (ents : Array MapEntry) (clock : Nat) (fk fv : Nat → Value)
      (hl : vs.length = ks.length) (hs : ents.size = ks.length) (hh : w.heap[b]? = some (.map ents clock)) (hz : Z b 0)
      (he : ∀ (i : Nat) e, ents[i]? = some e → e.key = fk i ∧ e.val = fv i)
      (hk : ∀ (i : Nat) d, ks[i]? = some d → RelD w Z d (fk i)) (hv : ∀ (i : Nat) d, vs[i]? = some d → RelD w Z d (fv i)) :
      RelD w Z (.m ks vs) (.map (some b))

/-- From an address on, the cells read as these data. -/
def ReadsD (w : World) (Z : Zs) (ad : Addr) (cs : List Dat) : Prop :=
  ∀ (j : Nat) d, cs[j]? = some d → ∃ v, w.cell? (ad.add j) = some v ∧ Z (ad.add j).block (ad.add j).off ∧ RelD w Z d v

inductive RelC (P : Program) (w : World) (Z : Zs) (β : Bl) (H : List Ob) : CV → Value → Prop
  | d (x : Dat) (v : Value) (h : RelD w Z x v) : RelC P w Z β H (.d x) v
  | ref (k off b c : Nat) (hk : isBox H k) (hb : β k = some (b, c)) : RelC P w Z β H (.ref k off) (.pointer (some ⟨b, off, none⟩))
  | ep (cs : List Dat) (off : Nat) (ad : Addr) (h : ReadsD w Z ad cs) : RelC P w Z β H (.ep cs off) (.pointer (some (ad.add off)))
  | rp (k n i off : Nat) (A : Option Addr) (ty : TypeId) (es : List (List Dat)) (fz : Bool) (hk : H[k]? = some (.row ty es fz)) (hn : n ≤ es.length)
      (h : es.length = n → ∃ b c, β k = some (b, c) ∧ A = some ⟨b, i * szOf P ty + off, none⟩) : RelC P w Z β H (.rp k n i off) (.pointer A)
  | vs (k n : Nat) (A : Option Addr) (l c : Nat) (ty : TypeId) (es : List (List Dat)) (fz : Bool) (hk : H[k]? = some (.row ty es fz)) (hn : n ≤ es.length)
      (h : es.length = n → (β k = none ∧ l = 0 ∧ c = 0) ∨ ∃ b, β k = some (b, c) ∧ A = some ⟨b, 0, none⟩ ∧ l = n) : RelC P w Z β H (.vs k n) (.slice A l c)
  | fl (es : List (List Dat)) (A : Option Addr) (h : RelD w Z (.l es) (.slice A es.length es.length)) : RelC P w Z β H (.fl es) (.slice A es.length es.length)
  | nil : RelC P w Z β H .nil (.slice none 0 0)
  | fn (f : FuncId) (cap : List CV) (vs : List Value) (hl : cap.length = vs.length)
      (h : ∀ (i : Nat) c v, cap[i]? = some c → vs[i]? = some v → RelC P w Z β H c v) : RelC P w Z β H (.fn f cap) (.func (.func f) #[] vs.toArray)
  | mp (k b c : Nat) (hk : isMap H k) (hb : β k = some (b, c)) : RelC P w Z β H (.mp k) (.map (some b))
  | k (v : Value) : RelC P w Z β H (.k v) v
  | any (v : Value) : RelC P w Z β H .any v

/-- Cells, one by one. -/
def RelCs (P : Program) (w : World) (Z : Zs) (β : Bl) (H : List Ob) (cs : List CV) (vs : List Value) : Prop :=
  cs.length = vs.length ∧ ∀ (i : Nat) c v, cs[i]? = some c → vs[i]? = some v → RelC P w Z β H c v

inductive RelT (P : Program) (w : World) (Z : Zs) (β : Bl) (H : List Ob) : TV → Value → Prop
  | c (x : CV) (v : Value) (h : RelC P w Z β H x v) : RelT P w Z β H (.c x) v
  | g (xs : List CV) (vs : List Value) (h : RelCs P w Z β H xs vs) : RelT P w Z β H (.g xs) (.agg vs.toArray)
  | t (xs : List TV) (vs : List Value) (hl : xs.length = vs.length)
      (h : ∀ (i : Nat) c v, xs[i]? = some c → vs[i]? = some v → RelT P w Z β H c v) : RelT P w Z β H (.t xs) (.tuple vs.toArray)

/-- How memory stands for an object. -/
def ObR (P : Program) (w : World) (Z : Zs) (β : Bl) (H : List Ob) (k : Nat) : Ob → Prop
  | .none => True
  | .box ty cs => ∃ b c vs, β k = some (b, c) ∧ w.heap[b]? = some (.cells vs.toArray ty (0, 0)) ∧ RelCs P w Z β H cs vs ∧ ∀ o, ¬ Z b o
  | .row ty es fz => (∀ (i : Nat) e, es[i]? = some e → e.length = szOf P ty) ∧ es.length ≤ 140737488355328 ∧ (β k = none → es = []) ∧
      ∀ b c, β k = some (b, c) → ∃ vs : List Value, w.heap[b]? = some (.cells vs.toArray ty (0, 0)) ∧ vs.length = c * szOf P ty ∧ es.length ≤ c ∧ c ≤ 9223372036854775807 ∧
        (∀ (i : Nat) e, es[i]? = some e → ∀ (j : Nat) d, e[j]? = some d → ∃ v, vs[i * szOf P ty + j]? = some v ∧ RelD w Z d v) ∧
        ∀ o, Z b o → fz = true ∧ o < es.length * szOf P ty
  | .mp es fz => ∃ b c ents clock, β k = some (b, c) ∧ w.heap[b]? = some (.map ents clock) ∧ ents.size = es.length ∧
      (∀ (i : Nat) x e, es[i]? = some x → ents[i]? = some e → RelD w Z x.1 e.key ∧ RelT P w Z β H x.2 e.val) ∧ ∀ o, Z b o → fz = true

/-- What stays as it is: the program, the world in which all began, and below which block nothing turns; the package's variables that are known. -/
structure Gl where
  P : Program
  w0 : World
  B0 : Nat
  gv : Nat → Option (List Dat)
  Z0 : Zs

structure Mem (G : Gl) (w : World) (Z : Zs) (β : Bl) (H : List Ob) : Prop where
  below : Below G.B0 G.w0 w
  b0 : G.B0 ≤ w.heap.size
  obj : ∀ (k : Nat) o, H[k]? = some o → ObR G.P w Z β H k o
  pos : ∀ k b c, live H k → β k = some (b, c) → G.B0 ≤ b ∧ b < w.heap.size
  inj : ∀ k k' b c c', live H k → live H k' → β k = some (b, c) → β k' = some (b, c') → k = k'
  zlt : ∀ b o, Z b o → b < w.heap.size
  zb : ∀ b o, Z b o → G.B0 ≤ b ∨ G.Z0 b o
  gl : ∀ g cs, G.gv g = some cs → ReadsD w Z ⟨g, 0, none⟩ cs

/-- What stands stays. -/
structure Ext (w : World) (Z : Zs) (β : Bl) (H : List Ob) (w' : World) (Z' : Zs) (β' : Bl) (H' : List Ob) : Prop where
  len : H.length ≤ H'.length
  z : ∀ b o, Z b o → Z' b o ∧ w'.cell? ⟨b, o, none⟩ = w.cell? ⟨b, o, none⟩ ∧ ∀ ents clock, w.heap[b]? = some (.map ents clock) → w'.heap[b]? = some (.map ents clock)
  box : ∀ k, isBox H k → isBox H' k ∧ β' k = β k
  map : ∀ k, isMap H k → isMap H' k ∧ β' k = β k
  row : ∀ k ty es fz, H[k]? = some (.row ty es fz) → ∃ es' fz', H'[k]? = some (.row ty es' fz') ∧ es.length ≤ es'.length ∧ (es'.length = es.length → β' k = β k)

theorem Ext.refl (w : World) (Z : Zs) (β : Bl) (H : List Ob) : Ext w Z β H w Z β H :=
  ⟨Nat.le_refl _, fun _ _ h => ⟨h, rfl, fun _ _ h => h⟩, fun _ h => ⟨h, rfl⟩, fun _ h => ⟨h, rfl⟩, fun _ _ es fz h => ⟨es, fz, h, Nat.le_refl _, fun _ => rfl⟩⟩

theorem Ext.trans {w w' w'' : World} {Z Z' Z'' : Zs} {β β' β'' : Bl} {H H' H'' : List Ob} (h : Ext w Z β H w' Z' β' H') (g : Ext w' Z' β' H' w'' Z'' β'' H'') :
    Ext w Z β H w'' Z'' β'' H'' := by
  refine ⟨Nat.le_trans h.len g.len, fun b o hz => ?_, fun k hk => ?_, fun k hk => ?_, fun k ty es fz hk => ?_⟩
  · obtain ⟨h1, h2, h3⟩ := h.z b o hz
    obtain ⟨g1, g2, g3⟩ := g.z b o h1
    exact ⟨g1, g2.trans h2, fun e c he => g3 e c (h3 e c he)⟩
  · obtain ⟨h1, h2⟩ := h.box k hk
    obtain ⟨g1, g2⟩ := g.box k h1
    exact ⟨g1, g2.trans h2⟩
  · obtain ⟨h1, h2⟩ := h.map k hk
    obtain ⟨g1, g2⟩ := g.map k h1
    exact ⟨g1, g2.trans h2⟩
  · obtain ⟨es', fz', h1, h2, h3⟩ := h.row k ty es fz hk
    obtain ⟨es'', fz'', g1, g2, g3⟩ := g.row k ty es' fz' h1
    exact ⟨es'', fz'', g1, Nat.le_trans h2 g2, fun e => (g3 (by omega)).trans (h3 (by omega))⟩

section mono
variable {P : Program} {w w' : World} {Z Z' : Zs} {β β' : Bl} {H H' : List Ob}

theorem cell_spot {w : World} {a : Addr} {v : Value} (h : w.cell? a = some v) : a = ⟨a.block, a.off, none⟩ := by
  unfold World.cell? at h
  split at h
  · cases hs : a.spot with
    | none => cases a; simp_all
    | some x => simp [hs] at h
  · cases h

theorem Ext.cell (x : Ext w Z β H w' Z' β' H') {a : Addr} {v : Value} (h : w.cell? a = some v) (hz : Z a.block a.off) : w'.cell? a = some v ∧ Z' a.block a.off := by
  obtain ⟨h1, h2, _⟩ := x.z _ _ hz
  have hs := cell_spot h
  rw [hs] at h ⊢
  exact ⟨h2.trans h, h1⟩

theorem RelD.ext (x : Ext w Z β H w' Z' β' H') {d : Dat} {v : Value} (h : RelD w Z d v) : RelD w' Z' d v := by
  induction h with
  | b y => exact .b y
  | i k n => exact .i k n
  | s y h => exact .s y h
  | l es A c sz g hn hc hsz hA hcell hrel ih =>
    exact .l es A c sz g hn hc hsz hA (fun ad ha i hi j hj => have := hcell ad ha i hi j hj; x.cell this.1 this.2) ih
  | m ks vs b ents clock fk fv hl hs hh hz he hk hv ihk ihv =>
    obtain ⟨h1, _, h3⟩ := x.z _ _ hz
    exact .m ks vs b ents clock fk fv hl hs (h3 _ _ hh) h1 he ihk ihv

theorem ReadsD.ext (x : Ext w Z β H w' Z' β' H') {ad : Addr} {cs : List Dat} (h : ReadsD w Z ad cs) : ReadsD w' Z' ad cs := by
  intro j d hj
  obtain ⟨v, h1, h2, h3⟩ := h j d hj
  obtain ⟨g1, g2⟩ := x.cell h1 h2
  exact ⟨v, g1, g2, h3.ext x⟩

theorem RelC.ext (x : Ext w Z β H w' Z' β' H') {c : CV} {v : Value} (h : RelC P w Z β H c v) : RelC P w' Z' β' H' c v := by
  induction h with
  | d y v h => exact .d y v (h.ext x)
  | ref k off b c hk hb => exact .ref k off b c (x.box k hk).1 ((x.box k hk).2.trans hb)
  | ep cs off ad h => exact .ep cs off ad (h.ext x)
  | rp k n i off A ty es fz hk hn h =>
    obtain ⟨es', fz', h1, h2, h3⟩ := x.row k ty es fz hk
    refine .rp k n i off A ty es' fz' h1 (by omega) fun hl => ?_
    obtain ⟨b, c, hb, hv⟩ := h (by omega)
    exact ⟨b, c, (h3 (by omega)).trans hb, hv⟩
  | vs k n A l c ty es fz hk hn h =>
    obtain ⟨es', fz', h1, h2, h3⟩ := x.row k ty es fz hk
    refine .vs k n A l c ty es' fz' h1 (by omega) fun hl => ?_
    rw [h3 (by omega)]
    exact h (by omega)
  | fl es A h => exact .fl es A (h.ext x)
  | nil => exact .nil
  | fn f cap vs hl h ih => exact .fn f cap vs hl ih
  | mp k b c hk hb => exact .mp k b c (x.map k hk).1 ((x.map k hk).2.trans hb)
  | k v => exact .k v
  | any v => exact .any v

theorem RelCs.ext (x : Ext w Z β H w' Z' β' H') {cs : List CV} {vs : List Value} (h : RelCs P w Z β H cs vs) : RelCs P w' Z' β' H' cs vs :=
  ⟨h.1, fun i c v hc hv => (h.2 i c v hc hv).ext x⟩

theorem RelT.ext (x : Ext w Z β H w' Z' β' H') {t : TV} {v : Value} (h : RelT P w Z β H t v) : RelT P w' Z' β' H' t v := by
  induction h with
  | c y v h => exact .c y v (h.ext x)
  | g xs vs h => exact .g xs vs (h.ext x)
  | t xs vs hl h ih => exact .t xs vs hl ih

/-- An object that nobody touched. -/
theorem ObR.ext (x : Ext w Z β H w' Z' β' H') {k : Nat} {o : Ob} (h : ObR P w Z β H k o) (hb : β' k = β k)
    (hh : ∀ b c, β k = some (b, c) → w'.heap[b]? = w.heap[b]? ∧ ∀ o, Z' b o → Z b o) : ObR P w' Z' β' H' k o := by
  cases o with
  | none => trivial
  | box ty cs =>
    obtain ⟨b, c, vs, h1, h2, h3, h4⟩ := h
    obtain ⟨g1, g2⟩ := hh b c h1
    exact ⟨b, c, vs, hb.trans h1, g1.trans h2, h3.ext x, fun o hz => h4 o (g2 o hz)⟩
  | row ty es fz =>
    obtain ⟨h1, h2, h3, h4⟩ := h
    refine ⟨h1, h2, fun hn => h3 (hb.symm.trans hn), fun b c hbc => ?_⟩
    have hbc' := hb.symm.trans hbc
    obtain ⟨vs, k1, k2, k3, k4, k5, k6⟩ := h4 b c hbc'
    obtain ⟨g1, g2⟩ := hh b c hbc'
    exact ⟨vs, g1.trans k1, k2, k3, k4, fun i e he j d hd => have ⟨v, e1, e2⟩ := k5 i e he j d hd; ⟨v, e1, e2.ext x⟩, fun o hz => k6 o (g2 o hz)⟩
  | mp es fz =>
    obtain ⟨b, c, ents, clock, h1, h2, h3, h4, h5⟩ := h
    obtain ⟨g1, g2⟩ := hh b c h1
    exact ⟨b, c, ents, clock, hb.trans h1, g1.trans h2, h3, fun i y e hy he => have ⟨e1, e2⟩ := h4 i y e hy he; ⟨e1.ext x, e2.ext x⟩, fun o hz => h5 o (g2 o hz)⟩

theorem live_of {H : List Ob} {k : Nat} {o : Ob} (h : H[k]? = some o) (ho : o ≠ .none) : live H k := ⟨o, h, ho⟩

/-- One object is new or changed; nothing else is. -/
theorem Mem.change {G : Gl} (m : Mem G w Z β H) (x : Ext w Z β H w' Z' β' H') (k : Nat) (hb : Below G.B0 G.w0 w') (hz : ∀ b o, Z' b o → b < w'.heap.size) (hzb : ∀ b o, Z' b o → G.B0 ≤ b ∨ G.Z0 b o)
    (hs : w.heap.size ≤ w'.heap.size) (hoth : ∀ j, j ≠ k → H'[j]? = H[j]? ∧ β' j = β j)
    (hheap : ∀ j b c, j ≠ k → live H j → β j = some (b, c) → w'.heap[b]? = w.heap[b]? ∧ ∀ o, Z' b o → Z b o)
    (hk : ∀ o, H'[k]? = some o → ObR G.P w' Z' β' H' k o)
    (hkb : ∀ b c, live H' k → β' k = some (b, c) → G.B0 ≤ b ∧ b < w'.heap.size ∧ ∀ j c', j ≠ k → live H j → β j ≠ some (b, c')) : Mem G w' Z' β' H' := by
  have lv : ∀ j, j ≠ k → live H' j → live H j := fun j hj ⟨o, h1, h2⟩ => ⟨o, (hoth j hj).1 ▸ h1, h2⟩
  refine ⟨hb, Nat.le_trans m.b0 hs, fun j o hj => ?_, fun j b c hl hbj => ?_, fun i j b c c' hi hj h1 h2 => ?_, hz, hzb, fun g cs hg => (m.gl g cs hg).ext x⟩
  · by_cases e : j = k
    · subst e; exact hk o hj
    · have h1 := (hoth j e).1 ▸ hj
      by_cases hn : o = .none
      · subst hn; trivial
      · exact (m.obj j o h1).ext x (hoth j e).2 (fun b c hbc => hheap j b c e ⟨o, h1, hn⟩ hbc)
  · by_cases e : j = k
    · subst e; exact ⟨(hkb b c hl hbj).1, (hkb b c hl hbj).2.1⟩
    · have := m.pos j b c (lv j e hl) ((hoth j e).2 ▸ hbj)
      exact ⟨this.1, Nat.lt_of_lt_of_le this.2 hs⟩
  · by_cases ei : i = k
    · by_cases ej : j = k
      · omega
      · subst ei
        exact absurd ((hoth j ej).2 ▸ h2) ((hkb b c hi h1).2.2 j c' ej (lv j ej hj))
    · by_cases ej : j = k
      · subst ej
        exact absurd ((hoth i ei).2 ▸ h1) ((hkb b c' hj h2).2.2 i c ei (lv i ei hi))
      · exact m.inj i j b c c' (lv i ei hi) (lv j ej hj) ((hoth i ei).2 ▸ h1) ((hoth j ej).2 ▸ h2)
end mono
end Go.Proofs.Ythnnnnaifnddbaa
