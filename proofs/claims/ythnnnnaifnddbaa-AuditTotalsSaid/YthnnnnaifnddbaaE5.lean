/- append, and slices written out. -/
import Derived.Test.YthnnnnaifnddbaaE4
set_option linter.unusedVariables false
set_option linter.unusedSimpArgs false
namespace Go.Proofs.Ythnnnnaifnddbaa
open Go.RowKit (Below)

/-- What append asks of the element type: its size, its bytes; a zero value of that size. -/
def elemOk (P : Program) (e : TypeId) : Bool := match P.info? e with
  | some i => match i.zero with
    | some z => decide (z.cells.size = i.size) && decide (0 < i.size) && decide (0 < i.bytes)
    | none => false
  | none => false
def bytesT (P : Program) (e : TypeId) : Nat := ((P.info? e).map (·.bytes)).getD 0

def appendF (P : Program) (H : List Ob) (t : TypeId) : TV → TV → Option (TV × List Ob)
  | .c s, .c x => match P.underlying t with
    | some (.slice e) => if elemOk P e then (match frz H x with
      | some (.l ys, H1) => match s with
        | .nil => if ys.length * bytesT P e ≤ 140737488355328 ∧ (∀ y ∈ ys, y.length = szOf P e) then some (.c (.vs H1.length ys.length), H1 ++ [.row e ys false]) else none
        | .fl es => if (es ++ ys).length * bytesT P e ≤ 140737488355328 ∧ (∀ y ∈ ys, y.length = szOf P e) ∧ (∀ y ∈ es, y.length = szOf P e) ∧ (es = [] ∨ ys ≠ []) then
            some (.c (.vs H1.length (es ++ ys).length), H1 ++ [.row e (es ++ ys) false]) else none
        | .vs k n => match H1[k]? with
          | some (.row ty es fz) => if es.length = n ∧ ty = e ∧ (n + ys.length) * bytesT P e ≤ 140737488355328 ∧ (∀ y ∈ ys, y.length = szOf P e) then
              some (.c (.vs k (n + ys.length)), H1.set k (.row ty (es ++ ys) fz)) else none
          | _ => none
        | _ => none
      | _ => none) else none
    | _ => none
  | _, _ => none

section
variable {G : Gl} {w : World} {Z : Zs} {β : Bl} {H : List Ob}

theorem set_same {α : Type} {l : List α} {k : Nat} {x : α} (h : l[k]? = some x) : l.set k x = l := by
  obtain ⟨h1, rfl⟩ := List.getElem?_eq_some_iff.1 h
  exact List.set_getElem_self h1

theorem RelD.one {d : Dat} {v : Value} (h : RelD w Z d v) : v.oneCell' = true := by cases h <;> rfl

/-- The cells of a slice that is read. -/
theorem sliceCells {P : Program} {es : List (List Dat)} {v : Value} {sz : Nat} (h : RelD w Z (.l es) v) (hsz : ∀ y ∈ es, y.length = sz) (hpos : 0 < sz) :
    ∃ (A : Option Addr) (c : Nat) (news : List Value), v = .slice A es.length c ∧ (es ≠ [] → ∃ ad, A = some ad) ∧ news.length = es.length * sz ∧
      (∀ ad, A = some ad → ∀ (j : Nat) u, news[j]? = some u → w.cell? (ad.add j) = some u) ∧ (∀ u ∈ news, u.oneCell' = true) ∧
      (∀ (i : Nat) e, es[i]? = some e → ∀ (j : Nat) d, e[j]? = some d → ∃ u, news[i * sz + j]? = some u ∧ RelD w Z d u) := by
  cases h with
  | l _ A c sz' g hn hc hszs hA hcell hrel =>
    refine ⟨A, c, (List.range (es.length * sz)).map fun m => g (m / sz) (m % sz), rfl, hA, by simp, fun ad ha j u hu => ?_, fun u hu => ?_, fun i e he j d hd => ?_⟩
    · rw [List.getElem?_map] at hu
      simp only [Option.map_eq_some_iff] at hu
      obtain ⟨m, hm, rfl⟩ := hu
      have hj := (List.getElem?_eq_some_iff.1 hm).1
      simp at hj
      simp [List.getElem?_range hj] at hm
      subst hm
      have hq : j / sz < es.length := Nat.div_lt_of_lt_mul (by rw [Nat.mul_comm]; exact hj)
      have hr : j % sz < sz := Nat.mod_lt _ hpos
      have hs' : sz' = sz := by
        rw [← hszs (j / sz) es[j / sz] (by simp [hq])]
        exact hsz _ (List.getElem_mem hq)
      have := (hcell ad ha (j / sz) hq (j % sz) (by omega)).1
      rw [hs', Nat.mul_comm, Nat.div_add_mod] at this
      exact this
    · simp only [List.mem_map, List.mem_range] at hu
      obtain ⟨m, hm, rfl⟩ := hu
      have hq : m / sz < es.length := Nat.div_lt_of_lt_mul (by rw [Nat.mul_comm]; exact hm)
      have hr : m % sz < sz := Nat.mod_lt _ hpos
      have hl := hsz _ (List.getElem_mem hq)
      exact (hrel (m / sz) es[m / sz] (by simp [hq]) (m % sz) (es[m / sz][m % sz]'(by omega)) (by simp)).one
    · have hi := (List.getElem?_eq_some_iff.1 he).1
      have hl : e.length = sz := by
        obtain ⟨h1, rfl⟩ := List.getElem?_eq_some_iff.1 he
        exact hsz _ (List.getElem_mem h1)
      have hj : j < sz := by have := (List.getElem?_eq_some_iff.1 hd).1; omega
      refine ⟨g i j, ?_, hrel i e he j d hd⟩
      have hlt := lt_mul_of hi hj
      rw [List.getElem?_map, List.getElem?_range hlt]
      simp only [Option.map_some, Option.some.injEq]
      rw [show i * sz + j = j + sz * i by rw [Nat.mul_comm, Nat.add_comm], Nat.add_mul_div_left _ _ hpos, Nat.add_mul_mod_self_left, Nat.div_eq_of_lt hj, Nat.mod_eq_of_lt hj, Nat.zero_add]

theorem run_append_none {P : Program} (w : World) (t ty e : TypeId) (i : TypeInfo) (ht : P.underlying t = some (.slice e)) (hi : P.info? e = some i) (base A : Option Addr) (n c c' : Nat) (hn : n ≤ c) :
    (Builtin.append_ #[t, t] ty #[.slice base n c, .slice A 0 c']).run P w = .ok (.slice base n c) w := by
  have h1 : (Builtin.firstCells i.size 0 (.slice A 0 c')).run P w = .ok #[] w := by
    cases A with
    | none => exact run_firstCells_none (P := P) (w := w) _ _ _ _
    | some a => simpa using run_firstCells_some (P := P) w i.size 0 a 0 c' [] (by simp) (by simp)
  cases base <;> simp [Builtin.append_, run_underlying ht, sizeOf, typeInfo, hi, Builtin.lenOf, hn, h1, storeCells]

/-- An append that takes a new block. -/
theorem run_append_new {P : Program} (w : World) (t ty e : TypeId) (i : TypeInfo) (z : Value) (ht : P.underlying t = some (.slice e)) (hi : P.info? e = some i) (hz : i.zero = some z) (hzs : z.cells.size = i.size)
    (A : Option Addr) (n c0 : Nat) (olds : List Value) (hlo : olds.length = n * i.size) (holds : ∀ ad, A = some ad → ∀ (j : Nat) v, olds[j]? = some v → w.cell? (ad.add j) = some v)
    (hA : A = none → n = 0 ∧ c0 = 0) (ad : Addr) (m c : Nat) (news : List Value) (hl : news.length = m * i.size) (hnews : ∀ (j : Nat) v, news[j]? = some v → w.cell? (ad.add j) = some v)
    (hpos : 0 < m) (hg : c0 < n + m) (hby : 0 < i.bytes) (hb : (n + m) * i.bytes ≤ 140737488355328) :
    ∃ cap rest, n + m ≤ cap ∧ cap ≤ 9223372036854775807 ∧ (olds ++ news ++ rest).length = cap * i.size ∧
      (Builtin.append_ #[t, t] ty #[.slice A n c0, .slice (some ad) m c]).run P w = .ok (.slice (some ⟨w.heap.size, 0, none⟩) (n + m) cap) (w.drew.alloc (.cells (olds ++ news ++ rest).toArray e)) := by
  have hle : n + m ≤ 140737488355328 := Nat.le_trans (Nat.le_mul_of_pos_right _ hby) hb
  refine ⟨grownCap w (n + m) c0 e, (Builtin.zeroCells z.cells (grownCap w (n + m) c0 e - (n + m))).toList, grownCap_ge w (n + m) c0 e, ?_, ?_, ?_⟩
  · have := grownCap_le_maxLen w (n + m) c0 e (by simp [maxLen]; omega)
    simpa [maxLen] using this
  · have hrest : (Builtin.zeroCells z.cells (grownCap w (n + m) c0 e - (n + m))).size = (grownCap w (n + m) c0 e - (n + m)) * i.size := by rw [size_zeroCells, hzs]
    have := grownCap_ge w (n + m) c0 e
    simp only [List.length_append, Array.length_toList, hrest, hlo, hl]
    rw [← Nat.add_mul, ← Nat.add_mul]; congr 1; omega
  · have hw : ∀ (o : List Value) q, (w.drew.alloc (.cells (o.toArray ++ news.toArray ++ q) e)) = w.drew.alloc (.cells (o ++ news ++ q.toList).toArray e) := by
      intro o q
      congr 2
      apply Array.ext'
      simp
    cases A with
    | none =>
      obtain ⟨rfl, rfl⟩ := hA rfl
      obtain rfl : olds = [] := List.eq_nil_of_length_eq_zero (by simpa using hlo)
      rw [Nat.zero_add] at hb hle ⊢
      have hrun := run_append_nil (P := P) (w := w) t ty e i z ht hi hz ad m c news hl hnews hpos (by omega) (by omega)
      rw [hrun, ← hw]
      simp
    | some b =>
      have hrun := run_append_grow (P := P) (w := w) t ty e i z ht hi hz b n c0 olds hlo (holds b rfl) ad m c news hl hnews hg (by omega) (growslice_fits (by omega) hb)
      rw [hrun, hw]

theorem append_sound (m : Mem G w Z β H) {t ty : TypeId} {s x tv : TV} {v u : Value} {H' : List Ob} (hs : RelT G.P w Z β H s v) (hx : RelT G.P w Z β H x u)
    (h : appendF G.P H t s x = some (tv, H')) :
    ∃ r w' Z' β', (Builtin.append_ #[t, t] ty #[v, u]).run G.P w = .ok r w' ∧ Mem G w' Z' β' H' ∧ Ext w Z β H w' Z' β' H' ∧ RelT G.P w' Z' β' H' tv r := by
  cases hs with
  | g => simp [appendF] at h
  | t => simp [appendF] at h
  | c s v hs =>
  cases hx with
  | g => simp [appendF] at h
  | t => simp [appendF] at h
  | c x u hx =>
  simp only [appendF] at h
  split at h
  · rename_i e hu
    split at h
    · rename_i hok
      obtain ⟨i, hi, z, hz, hzs, hsz, hby⟩ : ∃ i, G.P.info? e = some i ∧ ∃ z, i.zero = some z ∧ z.cells.size = i.size ∧ 0 < i.size ∧ 0 < i.bytes := by
        unfold elemOk at hok
        split at hok
        · rename_i i hi
          split at hok
          · rename_i z hz
            simp at hok
            exact ⟨i, hi, z, hz, hok.1.1, hok.1.2, hok.2⟩
          · cases hok
        · cases hok
      have hszP : szOf G.P e = i.size := by simp [szOf, hi]
      have hbyP : bytesT G.P e = i.bytes := by simp [bytesT, hi]
      split at h
      · rename_i ys H1 hfz
        obtain ⟨Z1, m1, x1, r1⟩ := frz_sound m hx hfz
        have hs1 := hs.ext x1
        have toI : ∀ {l : List (List Dat)}, (∀ y ∈ l, y.length = szOf G.P e) → ∀ (i : Nat) y, l[i]? = some y → y.length = szOf G.P e := fun hl i y hy => by
          obtain ⟨h1, rfl⟩ := List.getElem?_eq_some_iff.1 hy
          exact hl _ (List.getElem_mem h1)
        -- a new row over a slice with neither elements nor capacity, or over one that is full
        have fresh : ∀ (A : Option Addr) (n : Nat) (es : List (List Dat)) (olds : List Value) , n = es.length → olds.length = n * i.size → (∀ ad, A = some ad → ∀ (j : Nat) v, olds[j]? = some v → w.cell? (ad.add j) = some v) →
            (A = none → n = 0) → (∀ y ∈ es, y.length = szOf G.P e) → (∀ (i : Nat) y, es[i]? = some y → ∀ (j : Nat) d, y[j]? = some d → ∃ u, olds[i * szOf G.P e + j]? = some u ∧ RelD w Z1 d u) →
            (es ++ ys).length * bytesT G.P e ≤ 140737488355328 → (∀ y ∈ ys, y.length = szOf G.P e) → (es = [] ∨ ys ≠ []) →
            ∃ r w' Z' β', (Builtin.append_ #[t, t] ty #[.slice A n n, u]).run G.P w = .ok r w' ∧ Mem G w' Z' β' (H1 ++ [.row e (es ++ ys) false]) ∧ Ext w Z β H w' Z' β' (H1 ++ [.row e (es ++ ys) false]) ∧
              RelC G.P w' Z' β' (H1 ++ [.row e (es ++ ys) false]) (.vs H1.length (es ++ ys).length) r := by
          intro A n es olds hn hlo holds hA hel hold hb hyl hne
          subst hn
          obtain ⟨A2, c, news, rfl, hA2, hnl, hcell, hone, hrel⟩ := sliceCells (P := G.P) r1 hyl (by omega)
          rw [hbyP] at hb
          have hle : (es ++ ys).length ≤ 140737488355328 := Nat.le_trans (Nat.le_mul_of_pos_right _ hby) hb
          by_cases hy : ys = []
          · subst hy
            have he : es = [] := by rcases hne with h | h; exact h; exact absurd rfl h
            subst he
            have mo := m1.own e
            refine ⟨_, _, _, _, run_append_none w t ty e i hu hi A A2 0 0 c (Nat.le_refl _), mo.1, x1.trans mo.2, ?_⟩
            exact .vs _ _ A 0 0 e [] false (by simp) (by simp) fun _ => .inl ⟨by simp [noB], rfl, rfl⟩
          · obtain ⟨ad, rfl⟩ := hA2 hy
            have hpos : 0 < ys.length := by cases ys <;> simp at hy ⊢
            obtain ⟨cap, rest, c1, c2, c3, hrun⟩ := run_append_new (P := G.P) w t ty e i z hu hi hz hzs A es.length es.length olds hlo holds (fun h => ⟨hA h, hA h⟩) ad ys.length c news (by rw [hnl, hszP]) (hcell ad rfl)
              hpos (by omega) hby (by rw [List.length_append] at hb; exact hb)
            have mn := m1.drew
            have mo := mn.1.own e
            have xdr := mn.2.trans mo.2
            have hca := cells_append (w := w) (Z := Z1) (tail := []) (toI hel) (toI hyl) (by rw [hlo, hszP]) hnl hold hrel
            have mr := mo.1.rowNew (k := H1.length) (c := cap) (ty := e) (es := []) (ys := es ++ ys) (fz := false) (olds := []) (news := olds ++ news) (rest := rest) (by simp) hca.1
              (by rw [List.length_append, List.length_append, hlo, hnl, hszP, Nat.add_mul]) (by simp) (by simp)
              (fun i y hy j d hd => by
                obtain ⟨u, g1, g2⟩ := hca.2 i y hy j d hd
                exact ⟨u, by simpa using g1, g2.ext xdr⟩)
              (by simpa using hle) (by simpa using c1) c2 (by rw [hszP]; simpa using c3) (by simp; omega)
            have hset : (H1 ++ [Ob.row e [] false]).set H1.length (.row e ([] ++ (es ++ ys)) false) = H1 ++ [.row e (es ++ ys) false] := by
              rw [List.set_append_right _ _ (Nat.le_refl _)]; simp
            rw [hset, List.nil_append] at mr
            refine ⟨_, _, _, _, hrun, mr.1, (x1.trans xdr).trans mr.2, ?_⟩
            exact .vs _ _ _ _ cap e (es ++ ys) false (by simp) (Nat.le_refl _) fun _ => .inr ⟨w.heap.size, setB_same _ _ _, rfl, by simp⟩
        split at h
        · -- nil
          split at h
          · rename_i hc
            obtain ⟨hb, hyl⟩ := hc
            simp only [Option.some.injEq, Prod.mk.injEq] at h
            obtain ⟨rfl, rfl⟩ := h
            cases hs with
            | nil =>
              obtain ⟨r, w', Z', β', g1, g2, g3, g4⟩ := fresh none 0 [] [] rfl (by simp) (by simp) (fun _ => rfl) (by simp) (by simp) (by simpa using hb) hyl (.inl rfl)
              exact ⟨r, w', Z', β', g1, g2, g3, .c _ _ g4⟩
          · cases h
        · -- a slice written out
          rename_i es
          split at h
          · rename_i hc
            obtain ⟨hb, hyl, hel, hne⟩ := hc
            simp only [Option.some.injEq, Prod.mk.injEq] at h
            obtain ⟨rfl, rfl⟩ := h
            cases hs1 with
            | fl _ A hd =>
              obtain ⟨A2, c, olds, hv2, hA, hnl, hcell, hone, hrel⟩ := sliceCells (P := G.P) hd hel (by omega)
              obtain ⟨rfl, -, rfl⟩ : A = A2 ∧ es.length = es.length ∧ es.length = c := by simpa using hv2
              obtain ⟨r, w', Z', β', g1, g2, g3, g4⟩ := fresh A es.length es olds rfl (by rw [hnl, hszP]) hcell (fun h => by
                by_cases he : es = []
                · simp [he]
                · obtain ⟨ad, h2⟩ := hA he; rw [h] at h2; cases h2) hel hrel hb hyl hne
              exact ⟨r, w', Z', β', g1, g2, g3, .c _ _ g4⟩
          · cases h
        · -- a row
          rename_i k n
          split at h
          · rename_i ty' es fz hk
            split at h
            · rename_i hc
              obtain ⟨hn, rfl, hb, hyl⟩ := hc
              simp only [Option.some.injEq, Prod.mk.injEq] at h
              obtain ⟨rfl, rfl⟩ := h
              obtain ⟨A, c, news, rfl, hA, hnl, hcell, hone, hrel⟩ := sliceCells (P := G.P) r1 hyl (by omega)
              rw [hbyP] at hb
              have hle : n + ys.length ≤ 140737488355328 := Nat.le_trans (Nat.le_mul_of_pos_right _ hby) hb
              cases hs1 with
              | vs _ _ A0 l0 c0 ty2 es2 fz2 hk2 hn2 hv2 =>
                rw [hk] at hk2; cases hk2
                obtain ⟨o1, o2, o3, o4⟩ := m1.obj _ _ hk
                have hklt := (List.getElem?_eq_some_iff.1 hk).1
                -- a new block
                have grow : ∀ (olds : List Value), c0 < es.length + ys.length → ys ≠ [] → l0 = es.length → olds.length = es.length * i.size → (∀ ad, A0 = some ad → ∀ (j : Nat) v, olds[j]? = some v → w.cell? (ad.add j) = some v) →
                    (A0 = none → l0 = 0 ∧ c0 = 0) → (∀ (i : Nat) y, es[i]? = some y → ∀ (j : Nat) d, y[j]? = some d → ∃ u, olds[i * szOf G.P ty' + j]? = some u ∧ RelD w Z1 d u) →
                    ∃ r w' Z' β', (Builtin.append_ #[t, t] ty #[.slice A0 l0 c0, .slice A ys.length c]).run G.P w = .ok r w' ∧ Mem G w' Z' β' (H1.set k (.row ty' (es ++ ys) fz)) ∧
                      Ext w Z β H w' Z' β' (H1.set k (.row ty' (es ++ ys) fz)) ∧ RelT G.P w' Z' β' (H1.set k (.row ty' (es ++ ys) fz)) (.c (.vs k (n + ys.length))) r := by
                  intro olds hg hy hl0 hlo holds hA0 hold
                  subst hl0
                  obtain ⟨ad, rfl⟩ := hA hy
                  have hpos : 0 < ys.length := by cases ys <;> simp at hy ⊢
                  obtain ⟨cap, rest, c1, c2, c3, hrun⟩ := run_append_new (P := G.P) w t ty ty' i z hu hi hz hzs A0 es.length c0 olds hlo holds hA0 ad ys.length c news (by rw [hnl, hszP]) (hcell ad rfl)
                    hpos hg hby (by rw [hn]; exact hb)
                  have mn := m1.drew
                  have mr := mn.1.rowNew (k := k) (c := cap) (ty := ty') (es := es) (ys := ys) (fz := fz) (olds := olds) (news := news) (rest := rest) hk (toI hyl) hnl (by rw [hlo, hszP])
                    (fun i' y hy j d hd => have ⟨u, g1, g2⟩ := hold i' y hy j d hd; ⟨u, g1, g2.ext mn.2⟩) (fun i y hy j d hd => have ⟨u, g1, g2⟩ := hrel i y hy j d hd; ⟨u, g1, g2.ext mn.2⟩)
                    (by omega) c1 c2 (by rw [hszP]; exact c3) hpos
                  refine ⟨_, _, _, _, hrun, mr.1, (x1.trans mn.2).trans mr.2, .c _ _ ?_⟩
                  exact .vs _ _ _ _ cap ty' (es ++ ys) fz (by simp [hklt]) (by simp; omega) fun _ => .inr ⟨w.heap.size, setB_same _ _ _, rfl, by omega⟩
                have hset0 : ys = [] → H1.set k (.row ty' (es ++ ys) fz) = H1 := fun h => by rw [h, List.append_nil]; exact set_same hk
                rcases hv2 hn with ⟨hbk, rfl, rfl⟩ | ⟨b, hbk, rfl, rfl⟩
                · -- nothing yet
                  obtain rfl := o3 hbk
                  obtain rfl : n = 0 := by simpa using hn.symm
                  by_cases hy : ys = []
                  · rw [hset0 hy]
                    subst hy
                    refine ⟨_, _, _, _, run_append_none w t ty ty' i hu hi A0 A 0 0 c (Nat.le_refl _), m1, x1, .c _ _ ?_⟩
                    exact .vs _ _ A0 0 0 ty' [] fz hk (by simp) fun _ => .inl ⟨hbk, rfl, rfl⟩
                  · exact grow [] (by cases ys <;> simp at hy ⊢) hy rfl (by simp) (by simp) (fun _ => ⟨rfl, rfl⟩) (by simp)
                · -- a block
                  obtain ⟨vs, q1, q2, q3, q4, q5, q6⟩ := o4 b c0 hbk
                  subst hn
                  by_cases hy : ys = []
                  · rw [hset0 hy]
                    subst hy
                    refine ⟨_, _, _, _, run_append_none w t ty ty' i hu hi _ A es.length c0 c q3, m1, x1, .c _ _ ?_⟩
                    exact .vs _ _ _ _ c0 ty' es fz hk (by simp) fun _ => .inr ⟨b, hbk, rfl, by simp⟩
                  · by_cases hroom : es.length + ys.length ≤ c0
                    · obtain ⟨ad, rfl⟩ := hA hy
                      have mr := m1.rowRoom hk hbk q1 (toI hyl) hnl hrel hle hroom
                      have hmul : (es.length + ys.length) * szOf G.P ty' ≤ c0 * szOf G.P ty' := Nat.mul_le_mul_right _ hroom
                      rw [Nat.add_mul] at hmul
                      have hrun := run_append_room (P := G.P) w t ty ty' i hu hi b es.length c0 vs.toArray q1 ad ys.length c news (by rw [hnl, hszP]) (hcell ad rfl) hone hroom (by
                        rw [← hszP]; simp; omega)
                      have hw : (w.setRow b (vs.toArray.toList.take (es.length * i.size) ++ news ++ vs.toArray.toList.drop (es.length * i.size + news.length)).toArray) =
                          w.setRow b (splice vs (es.length * szOf G.P ty') news).toArray := by rw [hszP]; rfl
                      rw [hw] at hrun
                      refine ⟨_, _, _, _, hrun, mr.1, x1.trans mr.2, .c _ _ ?_⟩
                      exact .vs _ _ _ _ c0 ty' (es ++ ys) fz (by simp [hklt]) (by simp) fun _ => .inr ⟨b, hbk, rfl, rfl⟩
                    · have hol : (vs.take (es.length * szOf G.P ty')).length = es.length * szOf G.P ty' := by
                        have : es.length * szOf G.P ty' ≤ c0 * szOf G.P ty' := Nat.mul_le_mul_right _ q3
                        simp; omega
                      refine grow (vs.take (es.length * szOf G.P ty')) (by omega) hy rfl (by rw [hol, hszP]) (fun ad ha j u hu' => ?_) (fun h => by cases h) (fun i' y hy j d hd => ?_)
                      · cases ha
                        have hj : j < es.length * szOf G.P ty' := by have := (List.getElem?_eq_some_iff.1 hu').1; omega
                        rw [List.getElem?_take_of_lt hj] at hu'
                        rw [add_plain, Nat.zero_add, cell_of_row w b _ _ _ _ q1]
                        simpa using hu'
                      · obtain ⟨u, g1, g2⟩ := q5 i' y hy j d hd
                        have hj : j < szOf G.P ty' := by have := o1 i' y hy; have := (List.getElem?_eq_some_iff.1 hd).1; omega
                        exact ⟨u, by rw [List.getElem?_take_of_lt (lt_mul_of (List.getElem?_eq_some_iff.1 hy).1 hj)]; exact g1, g2⟩
            · cases h
          · cases h
        · cases h
      · cases h
    · cases h
  · cases h
end
end Go.Proofs.Ythnnnnaifnddbaa
