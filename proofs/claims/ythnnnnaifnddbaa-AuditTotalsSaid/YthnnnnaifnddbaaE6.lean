/- Structs and slices written out; lengths, parts, conversions. -/
import Derived.Test.YthnnnnaifnddbaaE5
set_option linter.unusedVariables false
set_option linter.unusedSimpArgs false
namespace Go.Proofs.Ythnnnnaifnddbaa
open Go.RowKit (Below)

def placesF (P : Program) (fs : List Field) : Option (List (Nat × Nat)) := match fs with
  | [] => some []
  | f :: r => match P.info? f.type with
    | some i => (placesF P r).map ((f.offset, i.size) :: ·)
    | none => none

def fillF (pl : List (Nat × Nat)) (cs : List CV) : List (Nat × TV) → Option (List CV)
  | [] => some cs
  | (i, x) :: r => match pl[i]? with
    | some (off, size) => match cellsT x with
      | some xs => if xs.length = size ∧ off + size ≤ cs.length then fillF pl (splice cs off xs) r else none
      | none => none
    | none => none

def buildF (P : Program) (t : TypeId) (parts : List (Nat × TV)) : Option TV :=
  match (P.info? t).bind (·.zero) with
  | some z => match P.underlying t with
    | some (.struct fs) => match placesF P fs.toList with
      | some pl => (fillF pl (z.cells.toList.map ofV) parts).map .g
      | none => none
    | _ => none
  | none => none

/-- The elements of a slice that is written out whole. -/
def elemsF (H : List Ob) (sz : Nat) : Nat → List (Nat × TV) → Option (List (List Dat) × List Ob)
  | _, [] => some ([], H)
  | n, (i, x) :: r => if i = n then (match cellsT x with
    | some xs => if xs.length = sz then (match frzs H xs with
      | some (ds, H1) => match elemsF H1 sz (n + 1) r with
        | some (es, H2) => some (ds :: es, H2)
        | none => none
      | none => none) else none
    | none => none) else none
def buildSliceF (P : Program) (H : List Ob) (t : TypeId) (len : Nat) (parts : List (Nat × TV)) : Option (TV × List Ob) :=
  match P.underlying t with
  | some (.slice e) => if elemOk P e ∧ len * szOf P e ≤ 16777216 ∧ parts.length = len then (match elemsF H (szOf P e) 0 parts with
    | some (es, H1) => some (.c (.fl es), H1)
    | none => none) else none
  | _ => none

section
variable {G : Gl} {w : World} {Z : Zs} {β : Bl} {H : List Ob}

theorem fold_splice (off : Nat) : ∀ (vs : List Value) (n : Nat) (cells : List Value), off + n + vs.length ≤ cells.length →
    (vs.zipIdx n).foldl (fun (cs : Array Value) (x : Value × Nat) => cs.setIfInBounds (off + x.2) x.1) cells.toArray = (splice cells (off + n) vs).toArray
  | [], n, cells, h => by simp [splice]
  | v :: vs, n, cells, h => by
    simp only [List.length_cons] at h
    simp only [List.zipIdx_cons, List.foldl_cons, List.setIfInBounds_toArray]
    rw [fold_splice off vs (n + 1) (cells.set (off + n) v) (by simp; omega)]
    congr 1
    apply List.ext_getElem?
    intro i
    rw [splice_get _ _ _ (by simp; omega), splice_get _ _ _ (by simp; omega), List.getElem?_set]
    simp only [List.length_cons]
    by_cases h1 : i = off + n
    · subst h1
      rw [if_neg (by omega), if_pos rfl, if_pos (by omega), if_pos (by omega)]
      simp
    · by_cases h2 : off + n ≤ i ∧ i < off + n + (vs.length + 1)
      · rw [if_pos (by omega), if_pos h2]
        rw [show i - (off + n) = (i - (off + (n + 1))) + 1 by omega]
        simp
      · rw [if_neg (by omega), if_neg (by omega), if_neg h2]

theorem fill_one (place : Nat → Option (Nat × Nat)) (cells us : List Value) (i off : Nat) (v : Value) (r : List (Nat × Value)) (hp : place i = some (off, us.length)) (hv : v.cells = us.toArray)
    (h : off + us.length ≤ cells.length) : Instr.fill place cells.toArray ((i, v) :: r) = Instr.fill place (splice cells off us).toArray r := by
  simp only [Instr.fill, hp, hv]
  rw [if_neg (by simp; omega)]
  congr 1
  have := fold_splice off us 0 cells (by omega)
  rw [← Array.foldl_toList]
  simpa using this

theorem fill_sound {P : Program} {pl : List (Nat × Nat)} (place : Nat → Option (Nat × Nat)) (hpl : ∀ i x, pl[i]? = some x → place i = some x) :
    ∀ {parts : List (Nat × TV)} {vals : List (Nat × Value)} {cs xs : List CV} {cells : List Value}, RelCs P w Z β H cs cells → parts.length = vals.length →
      (∀ (i : Nat) p v, parts[i]? = some p → vals[i]? = some v → p.1 = v.1 ∧ RelT P w Z β H p.2 v.2) → fillF pl cs parts = some xs →
      ∃ us : List Value, Instr.fill place cells.toArray vals = some us.toArray ∧ RelCs P w Z β H xs us
  | [], vals, cs, xs, cells, hr, hl, hp, h => by
    have : vals = [] := by cases vals <;> simp at hl ⊢
    subst this
    simp only [fillF, Option.some.injEq] at h
    subst h
    exact ⟨cells, rfl, hr⟩
  | (i, x) :: parts, vals, cs, xs, cells, hr, hl, hp, h => by
    cases vals with
    | nil => simp at hl
    | cons v vals =>
      obtain ⟨j, v⟩ := v
      obtain ⟨h1, h2⟩ := hp 0 _ _ rfl rfl
      simp only at h1 h2
      subst h1
      simp only [fillF] at h
      split at h
      · rename_i off size hpi
        split at h
        · rename_i ys hys
          split at h
          · rename_i hsz
            obtain ⟨us, g1, g2, g3⟩ := cellsT_sound h2 hys
            have hlen : us.length = size := by rw [← g2.1]; exact hsz.1
            rw [fill_one place cells us i off v vals (by rw [hlen]; exact hpl i _ hpi) g1 (by rw [← hr.1]; omega)]
            exact fill_sound place hpl (hr.splice g2 (by omega)) (by simpa using hl) (fun i p v hp' hv => hp (i + 1) p v (by simpa using hp') (by simpa using hv)) h
          · cases h
        · cases h
      · cases h

theorem run_places {P : Program} (w : World) : ∀ {fs : List Field} {pl : List (Nat × Nat)}, placesF P fs = some pl →
    (fs.mapM fun f => (do pure (f.offset, ← sizeOf f.type) : Sem (Nat × Nat))).run P w = .ok pl w
  | [], pl, h => by
    simp only [placesF, Option.some.injEq] at h
    subst h
    simp
  | f :: fs, pl, h => by
    simp only [placesF] at h
    split at h
    · rename_i i hi
      simp only [Option.map_eq_some_iff] at h
      obtain ⟨pl', h1, rfl⟩ := h
      have := run_places w h1
      simp [List.mapM_cons, sizeOf, typeInfo, hi] at this ⊢
      simp [this]
    · cases h

theorem build_sound (m : Mem G w Z β H) {t : TypeId} {parts : List (Nat × TV)} {vals : List (Nat × Value)} {tv : TV} (hl : parts.length = vals.length)
    (hp : ∀ (i : Nat) p v, parts[i]? = some p → vals[i]? = some v → p.1 = v.1 ∧ RelT G.P w Z β H p.2 v.2) (h : buildF G.P t parts = some tv) :
    ∃ r, (Instr.build t vals.toArray).run G.P w = .ok r w ∧ RelT G.P w Z β H tv r := by
  unfold buildF at h
  split at h
  · rename_i z hz
    obtain ⟨i, hi, hiz⟩ := Option.bind_eq_some_iff.1 hz
    split at h
    · rename_i fs hu
      split at h
      · rename_i pl hpl
        simp only [Option.map_eq_some_iff] at h
        obtain ⟨xs, hxs, rfl⟩ := h
        obtain ⟨us, h1, h2⟩ := fill_sound (w := w) (Z := Z) (β := β) (H := H) (P := G.P) (fun i => pl[i]?) (fun i x hx => hx) (relCs_ofV G.P z.cells.toList) hl hp hxs
        refine ⟨.agg us.toArray, ?_, .g _ _ h2⟩
        have hmap : (fs.mapM fun f => (do pure (f.offset, ← sizeOf f.type) : Sem (Nat × Nat))).run G.P w = .ok pl.toArray w := by
          rw [Array.mapM_eq_mapM_toList, Sem.run_map, run_places w hpl]
          rfl
        simp only [Instr.build, zeroValue, typeInfo, Sem.run_bind, run_program, Result.andThen_ok, hi, Sem.run_pure, hiz, run_underlying hu, hmap]
        simp only [Array.toArray_toList] at h1
        simp [h1]
      · cases h
    · cases h
  · cases h

theorem elems_sound : ∀ {parts : List (Nat × TV)} {vals : List (Nat × Value)} {n sz : Nat} {Z : Zs} {H H' : List Ob} {es : List (List Dat)} {cells : List Value}, Mem G w Z β H →
    parts.length = vals.length → (∀ (i : Nat) p v, parts[i]? = some p → vals[i]? = some v → p.1 = v.1 ∧ RelT G.P w Z β H p.2 v.2) → elemsF H sz n parts = some (es, H') →
    n * sz + parts.length * sz ≤ cells.length →
    ∃ (Z' : Zs) (us : List Value), Mem G w Z' β H' ∧ Ext w Z β H w Z' β H' ∧ Instr.fill (fun i => some (i * sz, sz)) cells.toArray vals = some (splice cells (n * sz) us).toArray ∧
      us.length = parts.length * sz ∧ es.length = parts.length ∧ (∀ (i : Nat) e, es[i]? = some e → e.length = sz) ∧
      (∀ (i : Nat) e, es[i]? = some e → ∀ (j : Nat) d, e[j]? = some d → ∃ u, us[i * sz + j]? = some u ∧ RelD w Z' d u)
  | [], vals, n, sz, Z, H, H', es, cells, m, hl, hp, h, hc => by
    have : vals = [] := by cases vals <;> simp at hl ⊢
    subst this
    simp only [elemsF, Option.some.injEq, Prod.mk.injEq] at h
    obtain ⟨rfl, rfl⟩ := h
    refine ⟨Z, [], m, Ext.refl _ _ _ _, ?_, by simp, rfl, by simp, by simp⟩
    simp [Instr.fill, splice]
  | (i, x) :: parts, vals, n, sz, Z, H, H', es, cells, m, hl, hp, h, hc => by
    cases vals with
    | nil => simp at hl
    | cons v vals =>
      obtain ⟨j, v⟩ := v
      obtain ⟨h1, h2⟩ := hp 0 _ _ rfl rfl
      simp only at h1 h2
      subst h1
      simp only [elemsF] at h
      split at h
      · rename_i hin
        subst hin
        split at h
        · rename_i ys hys
          split at h
          · rename_i hsz
            split at h
            · rename_i ds H1 hds
              split at h
              · rename_i es' H2 hes
                simp only [Option.some.injEq, Prod.mk.injEq] at h
                obtain ⟨rfl, rfl⟩ := h
                obtain ⟨us, g1, g2, g3⟩ := cellsT_sound h2 hys
                have hul : us.length = sz := by rw [← g2.1]; exact hsz
                obtain ⟨Z1, m1, x1, l1, r1⟩ := frzs_sound m g2 hds
                simp only [List.length_cons, Nat.add_mul, Nat.one_mul] at hc
                obtain ⟨Z2, us2, m2, x2, f2, l2, e2, s2, r2⟩ := elems_sound (cells := splice cells (i * sz) us) m1 (by simpa using hl)
                  (fun i p v hp' hv => have := hp (i + 1) p v (by simpa using hp') (by simpa using hv); ⟨this.1, this.2.ext x1⟩) hes
                  (by rw [splice_length _ _ _ (by omega), Nat.add_mul, Nat.one_mul]; omega)
                refine ⟨Z2, us ++ us2, m2, x1.trans x2, ?_, by rw [List.length_append, l2, hul, List.length_cons, Nat.add_mul, Nat.one_mul]; omega, by simp [e2], fun k e he => ?_, fun k e he j d hd => ?_⟩
                · rw [fill_one _ cells us i (i * sz) v vals (by rw [hul]) g1 (by omega), f2]
                  congr 2
                  apply List.ext_getElem?
                  intro k
                  rw [splice_get _ _ _ (by rw [splice_length _ _ _ (by omega), Nat.add_mul, Nat.one_mul]; omega), splice_get _ _ _ (by omega), splice_get _ _ _ (by simp; omega)]
                  simp only [List.length_append, Nat.add_mul, Nat.one_mul]
                  by_cases c1 : i * sz ≤ k ∧ k < i * sz + us.length
                  · rw [if_neg (by omega), if_pos c1, if_pos (by omega), List.getElem?_append_left (by omega)]
                  · by_cases c2 : i * sz + sz ≤ k ∧ k < i * sz + sz + us2.length
                    · rw [if_pos c2, if_pos (by omega), List.getElem?_append_right (by omega)]
                      congr 1; omega
                    · rw [if_neg c2, if_neg c1, if_neg (by omega)]
                · cases k with
                  | zero => simp at he; subst he; rw [l1, hul]
                  | succ k => exact s2 k e (by simpa using he)
                · cases k with
                  | zero =>
                    simp at he; subst he
                    have hj := (List.getElem?_eq_some_iff.1 hd).1
                    rw [l1] at hj
                    exact ⟨us[j], by rw [Nat.zero_mul, Nat.zero_add, List.getElem?_append_left hj]; simp [hj], (r1 j d us[j] hd (by simp [hj])).ext x2⟩
                  | succ k =>
                    obtain ⟨u, q1, q2⟩ := r2 k e (by simpa using he) j d hd
                    refine ⟨u, ?_, q2⟩
                    rw [Nat.add_mul, Nat.one_mul, List.getElem?_append_right (by omega), ← q1]
                    congr 1; omega
              · cases h
            · cases h
          · cases h
        · cases h
      · cases h

theorem buildSlice_sound (m : Mem G w Z β H) {t : TypeId} {len : Nat} {parts : List (Nat × TV)} {vals : List (Nat × Value)} {tv : TV} {H' : List Ob} (hl : parts.length = vals.length)
    (hp : ∀ (i : Nat) p v, parts[i]? = some p → vals[i]? = some v → p.1 = v.1 ∧ RelT G.P w Z β H p.2 v.2) (h : buildSliceF G.P H t len parts = some (tv, H')) :
    ∃ r w' Z' β', (Instr.buildSlice t len vals.toArray).run G.P w = .ok r w' ∧ Mem G w' Z' β' H' ∧ Ext w Z β H w' Z' β' H' ∧ RelT G.P w' Z' β' H' tv r := by
  unfold buildSliceF at h
  split at h
  · rename_i e hu
    split at h
    · rename_i hok
      obtain ⟨hok, hcap, hlen⟩ := hok
      split at h
      · rename_i es H1 hes
        simp only [Option.some.injEq, Prod.mk.injEq] at h
        obtain ⟨rfl, rfl⟩ := h
        obtain ⟨i, hi, z, hz, hzs, hsz, hby⟩ : ∃ i, G.P.info? e = some i ∧ ∃ z, i.zero = some z ∧ z.cells.size = i.size ∧ 0 < i.size ∧ 0 < i.bytes := by
          unfold elemOk at hok
          split at hok
          · rename_i i hi
            split at hok
            · rename_i z hz
              simp at hok
              exact ⟨i, hi, z, hz, hok.1.1, hok.1.2, hok.2⟩
            · cases hok
          · cases hok
        have hszP : szOf G.P e = i.size := by simp [szOf, hi]
        subst hlen
        obtain ⟨Z1, us, m1, x1, f1, l1, e1, s1, r1⟩ := elems_sound (cells := ((List.range (parts.length * szOf G.P e)).map fun k => z.cells[k % z.cells.size]!)) m hl hp hes (by simp)
        have hspl : splice ((List.range (parts.length * szOf G.P e)).map fun k => z.cells[k % z.cells.size]!) 0 us = us := by
          unfold splice
          rw [List.drop_of_length_le (by simp; omega)]
          simp
        rw [Nat.zero_mul, hspl] at f1
        have hle : es.length ≤ 16777216 := by
          rw [e1]
          exact Nat.le_trans (Nat.le_mul_of_pos_right _ (by omega)) hcap
        have ma := m1.allocZ (.cells us.toArray e) us.length
        have hadd : ∀ k, (⟨w.heap.size, 0, none⟩ : Addr).add k = ⟨w.heap.size, k, none⟩ := fun k => by rw [add_plain, Nat.zero_add]
        have hfl : RelD (w.alloc (.cells us.toArray e)) (fun b i => Z1 b i ∨ (b = w.heap.size ∧ i < us.length)) (.l es) (.slice (some ⟨w.heap.size, 0, none⟩) es.length es.length) := by
          refine .l es _ es.length (szOf G.P e) (fun i j => us.getD (i * szOf G.P e + j) .nilFunc) (by omega) (Nat.le_refl _) s1 (fun _ => ⟨_, rfl⟩) (fun ad ha i hi j hj => ?_) (fun i y hy j d hd => ?_)
          · cases ha
            have hlt := lt_mul_of hi hj
            rw [e1, ← l1] at hlt
            rw [hadd]
            refine ⟨?_, .inr ⟨rfl, hlt⟩⟩
            rw [World.cell?_alloc_new]
            simp [List.getD, hlt]
          · obtain ⟨u, q1, q2⟩ := r1 i y hy j d hd
            simp only [List.getD, q1, Option.getD_some]
            exact q2.ext ma.2
        refine ⟨.slice (some ⟨w.heap.size, 0, none⟩) es.length es.length, _, _, _, ?_, ma.1, x1.trans ma.2, .c _ _ (.fl _ _ hfl)⟩
        rw [e1]
        have h24 : ¬ (16777216 < parts.length * i.size) := by rw [← hszP]; omega
        have hsz' := run_sizeOf (P := G.P) w e (by omega)
        rw [hszP] at hsz' f1
        simp only [Instr.buildSlice, Sem.run_bind, run_underlying hu, Result.andThen_ok, hsz']
        have hrange : ((Array.range (parts.length * i.size)).map fun k => z.cells[k % z.cells.size]!) = (List.map (fun k => z.cells[k % z.cells.size]!) (List.range (parts.length * i.size))).toArray := by
          apply Array.ext'
          simp
        by_cases h0 : parts.length * i.size = 0
        · have hp0 : parts = [] := by
            rcases Nat.mul_eq_zero.1 h0 with h | h
            · exact List.eq_nil_of_length_eq_zero h
            · omega
          subst hp0
          have hv0 : vals = [] := by cases vals <;> simp at hl ⊢
          subst hv0
          have hu0 : us = [] := List.eq_nil_of_length_eq_zero (by rw [l1]; simp)
          subst hu0
          have hr0 : Array.range 0 = #[] := by apply Array.ext'; simp
          simp [Instr.fill, newRow, hr0]
        · simp [h24, h0, zeroValue, typeInfo, hi, hz, newRow]
          rw [hrange] 
          simp [f1]
      · cases h
    · cases h
  · cases h
end
end Go.Proofs.Ythnnnnaifnddbaa
