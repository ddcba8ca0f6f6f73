/- More ideal operations: new variables, rows, appends. -/
import Derived.Test.YthnnnnaifnddbaaE3
set_option linter.unusedVariables false
set_option linter.unusedSimpArgs false
namespace Go.Proofs.Ythnnnnaifnddbaa
open Go.RowKit (Below)

/-- What a cell's value is as plain data; an owned row is read by others from then on. -/
def frz (H : List Ob) : CV → Option (Dat × List Ob)
  | .d x => some (x, H)
  | .nil => some (.l [], H)
  | .fl es => some (.l es, H)
  | .vs k n => match H[k]? with
    | some (.row ty es _) => if es.length = n then some (.l es, H.set k (.row ty es true)) else none
    | _ => none
  | .mp k => match H[k]? with
    | some (.mp es _) => match plainV es with
      | some vs => some (.m (es.map (·.1)) vs, H.set k (.mp es true))
      | none => none
    | _ => none
  | _ => none
def frzs (H : List Ob) : List CV → Option (List Dat × List Ob)
  | [] => some ([], H)
  | x :: xs => match frz H x with
    | some (d, H1) => match frzs H1 xs with
      | some (ds, H2) => some (d :: ds, H2)
      | none => none
    | none => none

def allocF (P : Program) (H : List Ob) (t : TypeId) : Option (TV × List Ob) :=
  match (P.info? t).bind (·.zero) with
  | some z => if z.cells.all (·.oneCell') then some (.c (.ref H.length 0), H ++ [.box t (z.cells.toList.map ofV)]) else none
  | none => none
def boxF (H : List Ob) (t : TypeId) (x : TV) : Option (TV × List Ob) :=
  match cellsT x with
  | some xs => some (.c (.ref H.length 0), H ++ [.box t xs])
  | none => none

section
variable {G : Gl} {w : World} {Z : Zs} {β : Bl} {H : List Ob}

theorem frz_sound (m : Mem G w Z β H) {c : CV} {v : Value} {d : Dat} {H' : List Ob} (hc : RelC G.P w Z β H c v) (h : frz H c = some (d, H')) :
    ∃ Z', Mem G w Z' β H' ∧ Ext w Z β H w Z' β H' ∧ RelD w Z' d v := by
  cases hc with
  | d x v hr =>
    simp only [frz, Option.some.injEq, Prod.mk.injEq] at h
    obtain ⟨rfl, rfl⟩ := h
    exact ⟨Z, m, Ext.refl _ _ _ _, hr⟩
  | nil =>
    simp only [frz, Option.some.injEq, Prod.mk.injEq] at h
    obtain ⟨rfl, rfl⟩ := h
    exact ⟨Z, m, Ext.refl _ _ _ _, .l [] none 0 0 (fun _ _ => .nilFunc) (by simp) (by simp) (by simp) (by simp) (by simp) (by simp)⟩
  | fl es A hr =>
    simp only [frz, Option.some.injEq, Prod.mk.injEq] at h
    obtain ⟨rfl, rfl⟩ := h
    exact ⟨Z, m, Ext.refl _ _ _ _, hr⟩
  | vs k n A l c ty es fz hk hn hv =>
    simp only [frz, hk] at h
    split at h
    · rename_i hl
      simp only [Option.some.injEq, Prod.mk.injEq] at h
      obtain ⟨rfl, rfl⟩ := h
      exact m.freeze hk hl (.vs k n A l c ty es fz hk hn hv)
    · cases h
  | mp k b c hk hb =>
    obtain ⟨es, fz, hk'⟩ := hk
    simp only [frz, hk'] at h
    split at h
    · rename_i vs hp
      simp only [Option.some.injEq, Prod.mk.injEq] at h
      obtain ⟨rfl, rfl⟩ := h
      exact m.freezeMap hk' hp (.mp k b c ⟨es, fz, hk'⟩ hb)
    · cases h
  | _ => simp [frz] at h

theorem frzs_sound : ∀ {cs : List CV} {vs : List Value} {Z : Zs} {H H' : List Ob} {ds : List Dat}, Mem G w Z β H → RelCs G.P w Z β H cs vs → frzs H cs = some (ds, H') →
    ∃ Z', Mem G w Z' β H' ∧ Ext w Z β H w Z' β H' ∧ ds.length = vs.length ∧ ∀ (j : Nat) d u, ds[j]? = some d → vs[j]? = some u → RelD w Z' d u
  | [], vs, Z, H, H', ds, m, hr, h => by
    simp only [frzs, Option.some.injEq, Prod.mk.injEq] at h
    obtain ⟨rfl, rfl⟩ := h
    exact ⟨Z, m, Ext.refl _ _ _ _, hr.1, by simp⟩
  | c :: cs, vs, Z, H, H', ds, m, hr, h => by
    simp only [frzs] at h
    split at h
    · rename_i d H1 hd
      split at h
      · rename_i ds' H2 hds
        simp only [Option.some.injEq, Prod.mk.injEq] at h
        obtain ⟨rfl, rfl⟩ := h
        cases vs with
        | nil => have := hr.1; simp at this
        | cons v vs =>
          obtain ⟨Z1, m1, x1, r1⟩ := frz_sound m (hr.2 0 c v (by simp) (by simp)) hd
          have hr' : RelCs G.P w Z β H cs vs := ⟨by have := hr.1; simpa using this, fun i c v hc hv => hr.2 (i + 1) c v (by simpa using hc) (by simpa using hv)⟩
          obtain ⟨Z2, m2, x2, l2, r2⟩ := frzs_sound m1 (hr'.ext x1) hds
          refine ⟨Z2, m2, x1.trans x2, by simp [l2], fun j d' u hd' hu => ?_⟩
          cases j with
          | zero => simp at hd' hu; subst hd' hu; exact r1.ext x2
          | succ j => exact r2 j d' u (by simpa using hd') (by simpa using hu)
      · cases h
    · cases h

theorem alloc_eq (w : World) (o : Obj) : ({ w with heap := w.heap.push o } : World) = w.alloc o := rfl

theorem newBox (m : Mem G w Z β H) (t : TypeId) {xs : List CV} {us : List Value} (hx : RelCs G.P w Z β H xs us) :
    Mem G (w.alloc (.cells us.toArray t)) Z (setB β H.length (w.heap.size, 0)) (H ++ [.box t xs]) ∧
      Ext w Z β H (w.alloc (.cells us.toArray t)) Z (setB β H.length (w.heap.size, 0)) (H ++ [.box t xs]) ∧
      RelC G.P (w.alloc (.cells us.toArray t)) Z (setB β H.length (w.heap.size, 0)) (H ++ [.box t xs]) (.ref H.length 0) (.pointer (some ⟨w.heap.size, 0, none⟩)) := by
  have := m.alloc (.cells us.toArray t) (.box t xs) 0 fun hx' => by
    refine ⟨w.heap.size, 0, us, setB_same _ _ _, heap_alloc_new w _, hx.ext hx', fun o hz => ?_⟩
    have := m.zlt _ _ hz
    omega
  exact ⟨this.1, this.2, .ref _ _ _ _ ⟨t, xs, by simp⟩ (setB_same _ _ _)⟩

theorem alloc_sound (m : Mem G w Z β H) {t : TypeId} {tv : TV} {H' : List Ob} (h : allocF G.P H t = some (tv, H')) :
    ∃ r w' β', (Instr.alloc t true (.tuple #[])).run G.P w = .ok r w' ∧ Mem G w' Z β' H' ∧ Ext w Z β H w' Z β' H' ∧ RelT G.P w' Z β' H' tv r := by
  unfold allocF at h
  split at h
  · rename_i z hz
    split at h
    · simp only [Option.some.injEq, Prod.mk.injEq] at h
      obtain ⟨rfl, rfl⟩ := h
      obtain ⟨i, hi, hiz⟩ := Option.bind_eq_some_iff.1 hz
      obtain ⟨g1, g2, g3⟩ := newBox m t (relCs_ofV (w := w) (Z := Z) (β := β) (H := H) G.P z.cells.toList)
      refine ⟨_, _, _, ?_, g1, g2, .c _ _ g3⟩
      simp [Instr.alloc, zeroValue, typeInfo, hi, hiz, newVar, newRow]
    · cases h
  · cases h

theorem box_sound (m : Mem G w Z β H) {t : TypeId} {x tv : TV} {v : Value} {H' : List Ob} (hx : RelT G.P w Z β H x v) (h : boxF H t x = some (tv, H')) :
    ∃ r w' β', (Instr.box t v).run G.P w = .ok r w' ∧ Mem G w' Z β' H' ∧ Ext w Z β H w' Z β' H' ∧ RelT G.P w' Z β' H' tv r := by
  unfold boxF at h
  split at h
  · rename_i xs hxs
    simp only [Option.some.injEq, Prod.mk.injEq] at h
    obtain ⟨rfl, rfl⟩ := h
    obtain ⟨us, h1, h2, h3⟩ := cellsT_sound hx hxs
    obtain ⟨g1, g2, g3⟩ := newBox m t h2
    refine ⟨_, _, _, ?_, g1, g2, .c _ _ g3⟩
    simp [Instr.box, newVar, newRow, h1]
  · cases h
end

/-! ### Slices -/
/-- The address of an element. -/
def indexF (P : Program) (H : List Ob) (t : TypeId) : TV → TV → Option TV
  | .c x, .c (.d (.i k i)) => match P.underlying t with
    | some (.slice e) => if 0 ≤ i then (match x with
      | .d (.l es) => match es[i.toNat]? with
        | some c => if c.length = szOf P e ∧ 0 < szOf P e then some (.c (.ep c 0)) else none
        | none => none
      | .fl es => match es[i.toNat]? with
        | some c => if c.length = szOf P e ∧ 0 < szOf P e then some (.c (.ep c 0)) else none
        | none => none
      | .vs k n => match H[k]? with
        | some (.row ty es _) => if es.length = n ∧ i.toNat < n ∧ ty = e ∧ 0 < szOf P e then some (.c (.rp k n i.toNat 0)) else none
        | _ => none
      | _ => none) else none
    | some (.array n e) => if 0 ≤ i ∧ i < n ∧ 0 < szOf P e then (addP H (i.toNat * szOf P e) x).map .c else none
    | _ => none
  | _, _ => none

section
variable {G : Gl} {w : World} {Z : Zs} {β : Bl} {H : List Ob}

theorem index_data {P : Program} {t e : TypeId} {es : List (List Dat)} {c : List Dat} {v : Value} {k : IntKind} {n : Int} (hd : RelD w Z (.l es) v) (hu : P.underlying t = some (.slice e)) (hn : 0 ≤ n)
    (hc : es[n.toNat]? = some c) (hcl : c.length = szOf P e) (hpos : 0 < szOf P e) :
    ∃ r, (Instr.indexAt t v (.int k n)).run P w = .ok r w ∧ RelT P w Z β H (.c (.ep c 0)) r := by
  cases hd with
  | l _ A cap sz g hln hcp hszs hA hcell hrel =>
    have hlt := (List.getElem?_eq_some_iff.1 hc).1
    obtain ⟨ad, rfl⟩ := hA (by intro h; simp [h] at hlt)
    have hcs := hszs _ _ hc
    have hsz' : sz = szOf P e := by omega
    subst hsz'
    have hs := run_sizeOf (P := P) w e hpos
    refine ⟨.pointer (some (ad.add (n.toNat * szOf P e))), ?_, .c _ _ ?_⟩
    · have hlt' : n < (es.length : Int) := by omega
      simp [Instr.indexAt, asIntOf, run_underlying hu, hn, hlt', hs]
    · have hep : RelC P w Z β H (.ep c 0) (.pointer (some ((ad.add (n.toNat * szOf P e)).add 0))) := by
        refine .ep c 0 _ fun j d hd => ?_
        have hj := (List.getElem?_eq_some_iff.1 hd).1
        obtain ⟨q1, q2⟩ := hcell ad rfl n.toNat hlt j (by omega)
        rw [Addr.add_add]
        exact ⟨_, q1, q2, hrel _ _ hc j d hd⟩
      rwa [Addr.add_zero'] at hep

theorem index_sound (m : Mem G w Z β H) {t : TypeId} {x i tv : TV} {v u : Value} (hx : RelT G.P w Z β H x v) (hi : RelT G.P w Z β H i u) (h : indexF G.P H t x i = some tv) :
    ∃ r, (Instr.indexAt t v u).run G.P w = .ok r w ∧ RelT G.P w Z β H tv r := by
  cases hx with
  | g => simp [indexF] at h
  | t => simp [indexF] at h
  | c x v hx =>
  cases hi with
  | g => simp [indexF] at h
  | t => simp [indexF] at h
  | c i u hi =>
  cases hi with
  | d i u hi =>
    cases hi with
    | i k n =>
      simp only [indexF] at h
      split at h
      · rename_i e hu
        split at h
        · rename_i hn
          split at h
          · rename_i es
            split at h
            · rename_i c hc
              split at h
              · rename_i hsz
                cases h
                cases hx with
                | d _ _ hd => exact index_data hd hu hn hc hsz.1 hsz.2
              · cases h
            · cases h
          · rename_i es
            split at h
            · rename_i c hc
              split at h
              · rename_i hsz
                cases h
                cases hx with
                | fl _ A hd => exact index_data hd hu hn hc hsz.1 hsz.2
              · cases h
            · cases h
          · rename_i k' n'
            split at h
            · rename_i ty es fz hk
              split at h
              · rename_i hc
                obtain ⟨hl, hlt, rfl, hpos⟩ := hc
                cases h
                cases hx with
                | vs _ _ A l c ty' es' fz' hk' hn' hv =>
                  rw [hk] at hk'; cases hk'
                  rcases hv hl with ⟨hb, rfl, rfl⟩ | ⟨b, hb, rfl, rfl⟩
                  · have := (m.obj _ _ hk).2.2.1 hb
                    subst this
                    simp at hl
                    omega
                  · have hs := run_sizeOf (P := G.P) w ty hpos
                    refine ⟨.pointer (some ⟨b, n.toNat * szOf G.P ty, none⟩), ?_, .c _ _ (.rp _ _ _ _ _ _ _ _ hk hn' fun _ => ⟨b, c, hb, by simp⟩)⟩
                    have hlt' : n < (l : Int) := by omega
                    simp [Instr.indexAt, asIntOf, run_underlying hu, hn, hlt', hs, add_plain]
              · cases h
            · cases h
          · cases h
        · cases h
      · rename_i n' e hu
        split at h
        · rename_i hn
          simp only [Option.map_eq_some_iff] at h
          obtain ⟨q, hq, rfl⟩ := h
          obtain ⟨ad, rfl, hr⟩ := addP_sound hx hq
          have hs := run_sizeOf (P := G.P) w e hn.2.2
          refine ⟨_, ?_, .c _ _ hr⟩
          simp [Instr.indexAt, asIntOf, run_underlying hu, Instr.sureAddr, hn.1, hn.2.1, hs]
        · cases h
      · cases h
    | _ => simp [indexF] at h
  | _ => simp [indexF] at h
end
end Go.Proofs.Ythnnnnaifnddbaa
