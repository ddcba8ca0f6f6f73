/- The ideal operations, and that the machine's do what they say. -/
import Derived.Test.YthnnnnaifnddbaaE2
set_option linter.unusedVariables false
set_option linter.unusedSimpArgs false
namespace Go.Proofs.Ythnnnnaifnddbaa
open Go.RowKit (Below)

/-- A temporary's frame and the objects. -/
structure St where
  tm : Nat → TV
  H : List Ob
  nt : Nat

def upd (f : Nat → TV) (k : Nat) (v : TV) : Nat → TV := fun i => if i = k then v else f i
def St.put (s : St) (d : Option Nat) (v : TV) : St := match d with
  | some k => { s with tm := upd s.tm k v }
  | none => s

def ofV : Value → CV
  | .bool b => .d (.b b)
  | .int k n => .d (.i k n)
  | .string s => if s.size ≤ 140737488355328 then .d (.s s) else .k (.string s)
  | .slice none 0 0 => .nil
  | v => .k v
def ofK : Value → TV
  | .agg cs => .g (cs.toList.map ofV)
  | v => .c (ofV v)

def ev (gv : Nat → Option (List Dat)) (tm : Nat → TV) : Operand → TV
  | .tmp t => tm t
  | .const v => ofK v
  | .global g => match gv g with | some cs => .c (.ep cs 0) | none => .c .any
  | .func f => .c (.fn f [])

/-- The values that a variable's cell can take. -/
def okC : CV → Bool
  | .any => false
  | .k v => v.oneCell'
  | _ => true
def cellsT : TV → Option (List CV)
  | .c x => if okC x then some [x] else none
  | .g xs => if xs.all okC then some xs else none
  | .t _ => none

def isAggT (P : Program) (t : TypeId) : Bool := match P.underlying t with
  | some (.struct _) | some (.array _ _) => true
  | _ => false

/-- n cells from a pointer on. -/
def readAt (H : List Ob) (n : Nat) : CV → Option (List CV)
  | .ref k off => match H[k]? with
    | some (.box _ cs) => if off + n ≤ cs.length then some ((cs.drop off).take n) else none
    | _ => none
  | .ep cs off => if off + n ≤ cs.length then some (((cs.drop off).take n).map .d) else none
  | .rp k m i off => match H[k]? with
    | some (.row _ es _) => if es.length = m then (match es[i]? with
      | some e => if off + n ≤ e.length then some (((e.drop off).take n).map .d) else none
      | none => none) else none
    | _ => none
  | _ => none

def datOf : CV → Option Dat
  | .d x => some x
  | _ => none

def writeAt (H : List Ob) (xs : List CV) : CV → Option (List Ob)
  | .ref k off => match H[k]? with
    | some (.box ty cs) => if off + xs.length ≤ cs.length then some (H.set k (.box ty (splice cs off xs))) else none
    | _ => none
  | .rp k m i off => match H[k]? with
    | some (.row ty es false) => if es.length = m then (match es[i]?, xs.mapM datOf with
      | some e, some ds => if off + ds.length ≤ e.length then some (H.set k (.row ty (es.set i (splice e off ds)) false)) else none
      | _, _ => none) else none
    | _ => none
  | _ => none

def loadF (P : Program) (H : List Ob) (t : TypeId) : TV → Option TV
  | .c p => if isAggT P t then (readAt H (szOf P t) p).map .g else match readAt H 1 p with
    | some [x] => some (.c x)
    | _ => none
  | _ => none
def storeF (P : Program) (H : List Ob) (t : TypeId) (x : TV) : TV → Option (List Ob)
  | .c p => match cellsT x with
    | some xs => if xs.length = szOf P t ∧ 0 < xs.length then writeAt H xs p else none
    | none => none
  | _ => none

def addP (H : List Ob) (n : Nat) : CV → Option CV
  | .ref k off => some (.ref k (off + n))
  | .ep cs off => some (.ep cs (off + n))
  | .rp k m i off => match H[k]? with
    | some (.row _ es _) => if es.length = m then some (.rp k m i (off + n)) else none
    | _ => none
  | _ => none
def fieldF (P : Program) (H : List Ob) (s : TypeId) (f : Nat) : TV → Option TV
  | .c p => match P.underlying s with
    | some (.struct fs) => match fs[f]? with
      | some fd => if szOf P fd.type = 0 then none else (addP H fd.offset p).map .c
      | none => none
    | _ => none
  | _ => none

/-- What a result says of the machine. -/
def Res (G : Gl) (w : World) (Z : Zs) (β : Bl) (H : List Ob) (x : Result Next) (tv : TV) (H' : List Ob) : Prop :=
  ∃ r w' Z' β', (x = .ok (.value r) w' ∨ (x = .ok .skip w' ∧ r = undef)) ∧ RelT G.P w' Z' β' H' tv r ∧ Mem G w' Z' β' H' ∧ Ext w Z β H w' Z' β' H'

section
variable {G : Gl} {w : World} {Z : Zs} {β : Bl} {H : List Ob}

theorem Res.same {x : Result Next} {tv : TV} {r : Value} (m : Mem G w Z β H) (h : x = .ok (.value r) w) (hr : RelT G.P w Z β H tv r) : Res G w Z β H x tv H :=
  ⟨r, w, Z, β, .inl h, hr, m, Ext.refl _ _ _ _⟩

theorem rel_ofV (P : Program) (v : Value) : RelC P w Z β H (ofV v) v := by
  unfold ofV
  split
  · exact .d _ _ (.b _)
  · exact .d _ _ (.i _ _)
  · split
    · exact .d _ _ (.s _ ‹_›)
    · exact .k _
  · exact .nil
  · exact .k _

theorem relCs_ofV (P : Program) (vs : List Value) : RelCs P w Z β H (vs.map ofV) vs := by
  refine ⟨by simp, fun i c v hc hv => ?_⟩
  simp only [List.getElem?_map, hv, Option.map_some, Option.some.injEq] at hc
  subst hc
  exact rel_ofV P v

theorem rel_ofK (P : Program) (v : Value) : RelT P w Z β H (ofK v) v := by
  unfold ofK
  split
  · rename_i cs
    have := RelT.g (P := P) (w := w) (Z := Z) (β := β) (H := H) (cs.toList.map ofV) cs.toList (relCs_ofV P _)
    simpa using this
  · exact .c _ _ (rel_ofV P v)

theorem rel_ev {a : Act} {s : St} (m : Mem G w Z β s.H) (htm : ∀ i, RelT G.P w Z β s.H (s.tm i) (a.tmps.getD i undef)) (o : Operand) : RelT G.P w Z β s.H (ev G.gv s.tm o) (a.eval o) := by
  cases o with
  | tmp t => exact htm t
  | const v => exact rel_ofK _ v
  | func f => exact .c _ _ (.fn f [] [] rfl (by simp))
  | global g =>
    simp only [ev, Act.eval]
    split
    · rename_i cs hg
      have := RelC.ep (P := G.P) (w := w) (Z := Z) (β := β) (H := s.H) cs 0 ⟨g, 0, none⟩ (m.gl g cs hg)
      exact .c _ _ (by simpa [Addr.add] using this)
    · exact .c _ _ (.any _)

theorem okC_one {P : Program} {c : CV} {v : Value} (h : RelC P w Z β H c v) (ho : okC c = true) : v.oneCell' = true := by
  cases h with
  | d x v h => cases h <;> rfl
  | ref => rfl
  | ep => rfl
  | rp => rfl
  | vs => rfl
  | fl => rfl
  | nil => rfl
  | fn => rfl
  | mp => rfl
  | k v => exact ho
  | any v => simp [okC] at ho

theorem add_plain (b o j : Nat) : (⟨b, o, none⟩ : Addr).add j = ⟨b, o + j, none⟩ := by unfold Addr.add; split <;> simp_all

/-- A list of what the cells hold. -/
theorem reads_list {P : Program} {ad : Addr} {xs : List CV} (h : ∀ (j : Nat) x, xs[j]? = some x → ∃ u, w.cell? (ad.add j) = some u ∧ RelC P w Z β H x u) :
    ∃ us : List Value, RelCs P w Z β H xs us ∧ ∀ (j : Nat) u, us[j]? = some u → w.cell? (ad.add j) = some u := by
  refine ⟨(List.range xs.length).map fun j => (w.cell? (ad.add j)).getD undef, ⟨by simp, fun j x u hx hu => ?_⟩, fun j u hu => ?_⟩
  · obtain ⟨u', g1, g2⟩ := h j x hx
    have hj := (List.getElem?_eq_some_iff.1 hx).1
    simp [hj, g1] at hu
    exact hu ▸ g2
  · have hj : j < xs.length := by have := (List.getElem?_eq_some_iff.1 hu).1; simpa using this
    obtain ⟨u', g1, g2⟩ := h j xs[j] (by simp [hj])
    simp [hj, g1] at hu
    exact hu ▸ g1

theorem take_drop_get {α : Type} (l : List α) (o n j : Nat) (x : α) (h : ((l.drop o).take n)[j]? = some x) : l[o + j]? = some x ∧ j < n := by
  rw [List.getElem?_take] at h
  split at h
  · rw [List.getElem?_drop] at h
    exact ⟨h, by assumption⟩
  · cases h

theorem readAt_sound (m : Mem G w Z β H) {n : Nat} {p : CV} {v : Value} {xs : List CV} (hp : RelC G.P w Z β H p v) (h : readAt H n p = some xs) :
    ∃ ad, v = .pointer (some ad) ∧ xs.length = n ∧ ∀ (j : Nat) x, xs[j]? = some x → ∃ u, w.cell? (ad.add j) = some u ∧ RelC G.P w Z β H x u := by
  cases hp with
  | ref k off b c hk hb =>
    simp only [readAt] at h
    split at h
    · rename_i ty cs hk'
      split at h
      · rename_i hn
        cases h
        refine ⟨_, rfl, by simp; omega, fun j x hx => ?_⟩
        obtain ⟨hx', hjn⟩ := take_drop_get _ _ _ _ _ hx
        obtain ⟨b', c', vs, h1, h2, h3, h4⟩ := m.obj k _ hk'
        rw [hb] at h1; cases h1
        have hl := (List.getElem?_eq_some_iff.1 hx').1
        rw [h3.1] at hl
        refine ⟨vs[off + j], ?_, h3.2 (off + j) x _ hx' (by simp [hl])⟩
        rw [add_plain, cell_of_row w b _ _ _ _ h2]
        simp [hl]
      · cases h
    · cases h
  | ep cs off ad hr =>
    simp only [readAt] at h
    split at h
    · cases h
      refine ⟨_, rfl, by simp; omega, fun j x hx => ?_⟩
      rw [List.getElem?_map] at hx
      simp only [Option.map_eq_some_iff] at hx
      obtain ⟨d, hd, rfl⟩ := hx
      obtain ⟨hx', hjn⟩ := take_drop_get _ _ _ _ _ hd
      obtain ⟨u, g1, g2, g3⟩ := hr _ d hx'
      exact ⟨u, by rw [Addr.add_add]; exact g1, .d _ _ g3⟩
    · cases h
  | rp k m' i off A ty es fz hk hn hA =>
    simp only [readAt, hk] at h
    split at h
    · rename_i hlen
      split at h
      · rename_i e he
        split at h
        · cases h
          obtain ⟨b, c, hb, rfl⟩ := hA hlen
          obtain ⟨r1, r2, r3, r4⟩ := m.obj k _ hk
          obtain ⟨vs, q1, q2, q3, q4, q5, q6⟩ := r4 b c hb
          refine ⟨_, rfl, by simp; omega, fun j x hx => ?_⟩
          rw [List.getElem?_map] at hx
          simp only [Option.map_eq_some_iff] at hx
          obtain ⟨d, hd, rfl⟩ := hx
          obtain ⟨hx', hjn⟩ := take_drop_get _ _ _ _ _ hd
          obtain ⟨u, g1, g2⟩ := q5 i e he _ d hx'
          refine ⟨u, ?_, .d _ _ g2⟩
          rw [add_plain, cell_of_row w b _ _ _ _ q1, Nat.add_assoc]
          simpa using g1
        · cases h
      · cases h
    · cases h
  | _ => simp [readAt] at h

theorem run_sizeOf {P : Program} (w : World) (t : TypeId) (h : 0 < szOf P t) : (sizeOf t).run P w = .ok (szOf P t) w := by
  unfold szOf at h ⊢
  cases hi : P.info? t with
  | none => simp [hi] at h
  | some i => simp [sizeOf, typeInfo, hi]

theorem run_isAgg {P : Program} (w : World) (t : TypeId) (d : TypeDesc) (h : P.underlying t = some d) : (isAgg t).run P w = .ok (isAggT P t) w := by
  unfold isAgg isAggT
  simp only [Sem.run_bind, run_underlying h, Result.andThen_ok, h]
  cases d <;> rfl

theorem load_sound (m : Mem G w Z β H) {t : TypeId} {x tv : TV} {v : Value} (hx : RelT G.P w Z β H x v) (hu : (G.P.underlying t).isSome = true) (h : loadF G.P H t x = some tv) :
    ∃ r, (Instr.loadAt t v).run G.P w = .ok r w ∧ RelT G.P w Z β H tv r := by
  obtain ⟨d, hd⟩ := Option.isSome_iff_exists.1 hu
  cases hx with
  | g => simp [loadF] at h
  | t => simp [loadF] at h
  | c p v hp =>
    simp only [loadF] at h
    split at h
    · rename_i ha
      simp only [Option.map_eq_some_iff] at h
      obtain ⟨xs, hxs, rfl⟩ := h
      obtain ⟨ad, rfl, hl, hc⟩ := readAt_sound m hp hxs
      obtain ⟨us, hr, hus⟩ := reads_list hc
      refine ⟨.agg us.toArray, ?_, .g xs us hr⟩
      have hload := run_loadCells_list (P := G.P) w ad us hus
      have hlen : us.length = szOf G.P t := by rw [← hr.1]; exact hl
      have hsz : (sizeOf t).run G.P w = .ok (szOf G.P t) w := by
        unfold isAggT at ha
        unfold szOf
        cases hi : G.P.info? t with
        | none => simp [Program.underlying, hi] at hd
        | some i => simp [sizeOf, typeInfo, hi]
      rw [hlen] at hload
      simp [Instr.loadAt, Instr.sureAddr, loadVar, run_isAgg w t d hd, ha, hsz, hload]
    · rename_i ha
      split at h
      · rename_i y hy
        cases h
        obtain ⟨ad, rfl, hl, hc⟩ := readAt_sound m hp hy
        obtain ⟨u, g1, g2⟩ := hc 0 y (by simp)
        refine ⟨u, ?_, .c _ _ g2⟩
        rw [Addr.add_zero'] at g1
        simp [Instr.loadAt, Instr.sureAddr, loadVar, run_isAgg w t d hd, ha, g1]
      · cases h

theorem cellsT_sound {P : Program} {x : TV} {v : Value} {xs : List CV} (hx : RelT P w Z β H x v) (h : cellsT x = some xs) :
    ∃ us : List Value, v.cells = us.toArray ∧ RelCs P w Z β H xs us ∧ ∀ u ∈ us, u.oneCell' = true := by
  cases hx with
  | t => simp [cellsT] at h
  | g ys vs hr =>
    simp only [cellsT] at h
    split at h
    · rename_i ho
      cases h
      refine ⟨vs, rfl, hr, fun u hu => ?_⟩
      obtain ⟨i, hi, rfl⟩ := List.mem_iff_getElem.1 hu
      have hi' : i < xs.length := by rw [hr.1]; exact hi
      exact okC_one (hr.2 i xs[i] vs[i] (by simp [hi']) (by simp [hi])) (List.all_eq_true.1 ho _ (List.getElem_mem hi'))
    · cases h
  | c y v hr =>
    simp only [cellsT] at h
    split at h
    · rename_i ho
      cases h
      have h1 := okC_one hr ho
      refine ⟨[v], ?_, ⟨rfl, fun i c u hc hu => ?_⟩, by simpa using h1⟩
      · cases v <;> first | rfl | simp [Value.oneCell'] at h1
      · cases i with
        | zero => simp at hc hu; subst hc; subst hu; exact hr
        | succ i => simp at hc
    · cases h

theorem datOf_list {P : Program} : ∀ {xs : List CV} {ds : List Dat} {us : List Value}, xs.mapM datOf = some ds → RelCs P w Z β H xs us →
    ds.length = us.length ∧ ∀ (j : Nat) d u, ds[j]? = some d → us[j]? = some u → RelD w Z d u
  | [], ds, us, h, hr => by
    simp at h
    subst h
    have := hr.1
    exact ⟨this, by simp⟩
  | x :: xs, ds, us, h, hr => by
    rw [List.mapM_cons] at h
    cases hx : datOf x with
    | none => simp [hx] at h
    | some d =>
      cases hxs : xs.mapM datOf with
      | none => simp [hx, hxs] at h
      | some ds' =>
        simp [hx, hxs] at h
        subst h
        cases us with
        | nil => have := hr.1; simp at this
        | cons u us =>
          have hr' : RelCs P w Z β H xs us := ⟨by have := hr.1; simpa using this, fun i c v hc hv => hr.2 (i + 1) c v (by simpa using hc) (by simpa using hv)⟩
          obtain ⟨g1, g2⟩ := datOf_list hxs hr'
          refine ⟨by simp [g1], fun j d' u' hd hu => ?_⟩
          cases j with
          | zero =>
            simp at hd hu
            subst hd hu
            have := hr.2 0 x u (by simp) (by simp)
            cases this <;> simp [datOf] at hx
            subst hx
            assumption
          | succ j => exact g2 j d' u' (by simpa using hd) (by simpa using hu)

theorem writeAt_sound (m : Mem G w Z β H) {p : CV} {v : Value} {xs : List CV} {us : List Value} {H' : List Ob} (hp : RelC G.P w Z β H p v) (hx : RelCs G.P w Z β H xs us)
    (h1 : ∀ u ∈ us, u.oneCell' = true) (h : writeAt H xs p = some H') :
    ∃ ad w', v = .pointer (some ad) ∧ (storeCells ad us 0).run G.P w = .ok () w' ∧ Mem G w' Z β H' ∧ Ext w Z β H w' Z β H' := by
  have hxl := hx.1
  cases hp with
  | ref k off b c hk hb =>
    simp only [writeAt] at h
    split at h
    · rename_i ty cs hk'
      split at h
      · rename_i hn
        cases h
        obtain ⟨b', c', vs, g1, g2, g3, g4⟩ := m.obj k _ hk'
        rw [hb] at g1; cases g1
        have hl := g3.1
        have hm := m.boxSet hk' hb g2 g3 g4 hx hn
        refine ⟨_, _, rfl, ?_, hm.1, hm.2⟩
        have := run_storeCells_at G.P b off ty us 0 vs.toArray w g2 (by simp; omega) h1
        simpa [splice] using this
      · cases h
    · cases h
  | rp k m' i off A ty es fz hk hn hA =>
    simp only [writeAt, hk] at h
    cases fz with
    | true => simp at h
    | false =>
    simp only at h
    split at h
    · rename_i hlen
      split at h
      · rename_i e ds he hds
        split at h
        · rename_i hfit
          cases h
          obtain ⟨b, c, hb, rfl⟩ := hA hlen
          obtain ⟨r1, r2, r3, r4⟩ := m.obj k _ hk
          obtain ⟨vs, q1, q2, q3, q4, q5, q6⟩ := r4 b c hb
          obtain ⟨d1, d2⟩ := datOf_list hds hx
          have hm := m.rowSet hk hb q1 he d1 d2 hfit
          refine ⟨_, _, rfl, ?_, hm.1, hm.2⟩
          have hi : i < es.length := (List.getElem?_eq_some_iff.1 he).1
          have hel := r1 i e he
          have : (i + 1) * szOf G.P ty ≤ c * szOf G.P ty := Nat.mul_le_mul_right _ (by omega)
          rw [Nat.succ_mul] at this
          have := run_storeCells_at G.P b (i * szOf G.P ty + off) ty us 0 vs.toArray w q1 (by simp; omega) h1
          simpa [splice] using this
        · cases h
      · cases h
    · cases h
  | _ => simp [writeAt] at h

theorem store_sound (m : Mem G w Z β H) {t : TypeId} {x p : TV} {v u : Value} {H' : List Ob} (hp : RelT G.P w Z β H p v) (hx : RelT G.P w Z β H x u) (h : storeF G.P H t x p = some H') :
    ∃ w', (Instr.storeAt t v u).run G.P w = .ok () w' ∧ Mem G w' Z β H' ∧ Ext w Z β H w' Z β H' := by
  cases hp with
  | g => simp [storeF] at h
  | t => simp [storeF] at h
  | c p v hp =>
    simp only [storeF] at h
    split at h
    · rename_i xs hxs
      split at h
      · rename_i hl
        obtain ⟨us, g1, g2, g3⟩ := cellsT_sound hx hxs
        obtain ⟨ad, w', rfl, r1, r2, r3⟩ := writeAt_sound m hp g2 g3 h
        refine ⟨w', ?_, r2, r3⟩
        have hsz := run_sizeOf (P := G.P) w t (by omega)
        have : us.length = szOf G.P t := by rw [← g2.1]; exact hl.1
        simp [Instr.storeAt, Instr.sureAddr, storeVar, hsz, g1, this, r1]
      · cases h
    · cases h

theorem addP_sound {P : Program} {n : Nat} {p q : CV} {v : Value} (hp : RelC P w Z β H p v) (h : addP H n p = some q) :
    ∃ ad, v = .pointer (some ad) ∧ RelC P w Z β H q (.pointer (some (ad.add n))) := by
  cases hp with
  | ref k off b c hk hb =>
    simp only [addP, Option.some.injEq] at h
    subst h
    exact ⟨_, rfl, by rw [add_plain]; exact .ref _ _ _ _ hk hb⟩
  | ep cs off ad hr =>
    simp only [addP, Option.some.injEq] at h
    subst h
    exact ⟨_, rfl, by rw [Addr.add_add]; exact .ep _ _ _ hr⟩
  | rp k m' i off A ty es fz hk hn hA =>
    simp only [addP, hk] at h
    split at h
    · rename_i hl
      cases h
      obtain ⟨b, c, hb, rfl⟩ := hA hl
      exact ⟨_, rfl, by rw [add_plain]; exact .rp _ _ _ _ _ _ _ _ hk hn fun _ => ⟨b, c, hb, by rw [Nat.add_assoc]⟩⟩
    · cases h
  | _ => simp [addP] at h

theorem fieldAddr_sound {P : Program} {t : TypeId} {f : Nat} {x tv : TV} {v : Value} (hx : RelT P w Z β H x v) (h : fieldF P H t f x = some tv) :
    ∃ r, (Instr.fieldAt t v f).run P w = .ok r w ∧ RelT P w Z β H tv r := by
  cases hx with
  | g => simp [fieldF] at h
  | t => simp [fieldF] at h
  | c p v hp =>
    simp only [fieldF] at h
    split at h
    · rename_i fs hu
      split at h
      · rename_i fd hf
        split at h
        · cases h
        · rename_i hs
          simp only [Option.map_eq_some_iff] at h
          obtain ⟨q, hq, rfl⟩ := h
          obtain ⟨ad, rfl, hr⟩ := addP_sound hp hq
          refine ⟨_, ?_, .c _ _ hr⟩
          have hsz := run_sizeOf (P := P) w fd.type (by omega)
          have hf' : fs[f]? = some fd := hf
          simp [Instr.fieldAt, run_underlying hu, hf', Instr.sureAddr, fieldPlace, hsz, hs]
      · cases h
    · cases h

/-! ### Whole numbers, bools, strings -/
def cmpF (op : BinOp) (a b : Int) : Option Bool := match op with
  | .eql => some (a == b) | .neq => some (a != b) | .lss => some (decide (a < b)) | .leq => some (decide (a ≤ b)) | .gtr => some (decide (a > b)) | .geq => some (decide (a ≥ b))
  | _ => none
def binF (op : BinOp) : Dat → Dat → Option Dat
  | .i k a, .i k' b => if k = k' then (match op with
    | .add => some (.i k (k.wrap (a + b))) | .sub => some (.i k (k.wrap (a - b))) | .mul => some (.i k (k.wrap (a * b)))
    | .quo => if b = 0 then none else some (.i k (k.wrap (a.tdiv b)))
    | .rem => if b = 0 then none else some (.i k (a.tmod b))
    | op => (cmpF op a b).map .b) else none
  | .s a, .s b => match op with
    | .eql => some (.b (decide (a = b))) | .neq => some (.b (!decide (a = b)))
    | .lss => some (.b (Op.bytesLess a.data.toList b.data.toList)) | .gtr => some (.b (Op.bytesLess b.data.toList a.data.toList))
    | .add => if a.size + b.size ≤ 140737488355328 then some (.s (a ++ b)) else none
    | _ => none
  | _, _ => none

theorem toList_beq (a b : ByteArray) : (a.toList == b.toList) = decide (a = b) := by
  rw [ByteArray.toList_eq, ByteArray.toList_eq, Bool.eq_iff_iff]
  simp only [beq_iff_eq, decide_eq_true_eq]
  constructor
  · intro h
    cases a; cases b
    simp at h
    exact congrArg ByteArray.mk h
  · rintro rfl; rfl

theorem bytesLess_total : ∀ (a b : List UInt8), (!(Op.bytesLess a b || a == b)) = Op.bytesLess b a
  | [], [] => by simp [Op.bytesLess]
  | [], _ :: _ => by simp [Op.bytesLess]
  | _ :: _, [] => by simp [Op.bytesLess]
  | x :: a, y :: b => by
    have ih := bytesLess_total a b
    simp only [Op.bytesLess, List.cons_beq_cons]
    by_cases h : x = y
    · subst h
      simpa using ih
    · have h' : ¬ y = x := fun e => h e.symm
      have e1 : (x == y) = false := by simpa using h
      have e2 : (y == x) = false := by simpa using h'
      simp only [e1, e2, Bool.false_and, Bool.or_false]
      rw [Bool.eq_iff_iff]
      simp only [Bool.not_eq_true', decide_eq_false_iff_not, decide_eq_true_eq, UInt8.lt_iff_toNat_lt]
      have : x.toNat ≠ y.toNat := fun e => h (UInt8.toNat_inj.1 e)
      omega

theorem binF_sound {P : Program} {op : BinOp} {t : TypeId} {x y : Operand} {a b d : Dat} {v u : Value} (ha : RelD w Z a v) (hb : RelD w Z b u) (h : binF op a b = some d) :
    ∃ r, (do eqGuard op t x y v u; binOp op t v u : Sem Value).run P w = .ok r w ∧ RelD w Z d r := by
  cases ha with
  | i k a =>
    cases hb with
    | i k' b =>
      simp only [binF] at h
      split at h
      · rename_i hk
        subst hk
        cases op
        case quo =>
          simp only at h
          split at h
          · cases h
          · rename_i hb
            cases h
            exact ⟨_, by simp [eqGuard, binOp, Op.intDiv, hb]; try rfl, by constructor⟩
        case rem =>
          simp only at h
          split at h
          · cases h
          · rename_i hb
            cases h
            exact ⟨_, by simp [eqGuard, binOp, Op.intDiv, hb]; try rfl, by constructor⟩
        all_goals simp only [cmpF, Option.map_some, Option.map_none, Option.some.injEq, reduceCtorEq] at h <;> subst h <;>
          exact ⟨_, by simp [eqGuard, binOp, Op.intArith, Op.intCmp]; try rfl, by constructor⟩
      · cases h
    | _ => simp [binF] at h
  | s a _ =>
    cases hb with
    | s b _ =>
      simp only [binF] at h
      cases op <;> simp only [Option.some.injEq, reduceCtorEq] at h
      case add =>
        split at h
        · rename_i hn
          cases h
          refine ⟨.string (a ++ b), ?_, .s _ (by simpa using hn)⟩
          have := run_string_add_sum (P := P) (w := w) a b (by omega)
          simp [eqGuard, binOp, this]
        · cases h
      all_goals subst h
      · exact ⟨.bool _, by simp [eqGuard, binOp, Op.stringOp, toList_beq], .b _⟩
      · exact ⟨.bool _, by simp [eqGuard, binOp, Op.stringOp, toList_beq], .b _⟩
      · exact ⟨.bool _, by simp [eqGuard, binOp, Op.stringOp, ByteArray.toList_eq], .b _⟩
      · exact ⟨.bool (Op.bytesLess b.data.toList a.data.toList), by simp only [eqGuard, binOp, Op.stringOp, ByteArray.toList_eq, bytesLess_total]; rfl, .b _⟩
    | _ => simp [binF] at h
  | _ => cases hb <;> simp [binF] at h
end
end Go.Proofs.Ythnnnnaifnddbaa
