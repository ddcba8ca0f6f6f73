/- Operations together; regions; code; functions. -/
import Derived.Test.YthnnnnaifnddbaaEA
import Derived.Deep.LoopGhost
set_option linter.unusedVariables false
set_option linter.unusedSimpArgs false
namespace Go.Proofs.Ythnnnnaifnddbaa
open Go.RowKit (Below)

def evParts (gv : Nat → Option (List Dat)) (tm : Nat → TV) (ps : List (Nat × Operand)) : List (Nat × TV) := ps.map fun p => (p.1, ev gv tm p.2)
def cOf : TV → Option CV
  | .c x => some x
  | _ => none
def dOf : TV → Option Dat
  | .c (.d x) => some x
  | _ => none
def isSl (P : Program) (t : TypeId) : Bool := match P.underlying t with
  | some (.slice _) => true
  | _ => false

/-- '==' and '!=' of a slice and nil: nothing is known of an empty one. -/
def nilKnown : CV → Option Bool
  | .nil => some true
  | .d (.l (_ :: _)) => some false
  | _ => none

def lenOp (P : Program) (H : List Ob) (t : TypeId) (c : CV) : Option Int := if lenTy P t c then lenF H c else none

def opF (P : Program) (gv : Nat → Option (List Dat)) (tm : Nat → TV) (H : List Ob) : Op → Option (TV × List Ob)
  | .move x => some (ev gv tm x, H)
  | .assign x => some (ev gv tm x, H)
  | .pick c a b => match ev gv tm c with
    | .c (.d (.b x)) => some (if x then ev gv tm a else ev gv tm b, H)
    | _ => none
  | .alloc t => allocF P H t
  | .box t x => boxF H t (ev gv tm x)
  | .build t ps => (buildF P t (evParts gv tm ps.toList)).map fun v => (v, H)
  | .buildSlice t n ps => buildSliceF P H t n (evParts gv tm ps.toList)
  | .load t a => if (P.underlying t).isSome then (loadF P H t (ev gv tm a)).map fun v => (v, H) else none
  | .store t a x => (storeF P H t (ev gv tm x) (ev gv tm a)).map fun H' => (.c .any, H')
  | .nilCheck x => match ev gv tm x with
    | .c (.ref k o) => some (.c (.ref k o), H)
    | .c (.ep cs o) => some (.c (.ep cs o), H)
    | .c (.fn f cap) => some (.c (.fn f cap), H)
    | _ => none
  | .binOp op t x y _ => (binV P op t (ev gv tm x) (ev gv tm y)).map fun v => (v, H)
  | .makeMap _ none => some (.c (.mp H.length), H ++ [.mp [] false])
  | .lookup t x i ok => (lookupF P H t ok (ev gv tm x) (ev gv tm i)).map fun v => (v, H)
  | .mapUpdate t x i y => (mapUpF P H t (ev gv tm y) (ev gv tm x) (ev gv tm i)).map fun H' => (.c .any, H')
  | .unOp op _ x => match ev gv tm x with
    | .c (.d a) => (unF op a).map fun v => (.c (.d v), H)
    | _ => none
  | .convert s t x => match ev gv tm x with
    | .c (.d a) => (convF P s t a).map fun v => (.c (.d v), H)
    | _ => none
  | .makeFunc (.func f) first caps => if first.size = 0 then ((caps.toList.map (ev gv tm)).mapM cOf).map fun cs => (.c (.fn f cs), H) else none
  | .fieldAddr s x f => (fieldF P H s f (ev gv tm x)).map fun v => (v, H)
  | .indexAddr t x i => (indexF P H t (ev gv tm x) (ev gv tm i)).map fun v => (v, H)
  | .index t x i => match ev gv tm x, ev gv tm i with
    | .c (.d (.s x)), .c (.d (.i k n)) => match P.underlying t with
      | some .string => (byteF x n).map fun v => (.c (.d v), H)
      | _ => none
    | _, _ => none
  | .slice t x lo hi none => match cOf (ev gv tm x) with
    | some c => match frz H c with
      | some (d, H1) => match lo, hi with
        | none, none => (cutF P t none none d).map fun v => (.c (.d v), H1)
        | some l, none => match cOf (ev gv tm l) with
          | some (.d (.i k n)) => (cutF P t (some (.d (.i k n))) none d).map fun v => (.c (.d v), H1)
          | _ => none
        | none, some h => match cOf (ev gv tm h) with
          | some (.d (.i k n)) => (cutF P t none (some (.d (.i k n))) d).map fun v => (.c (.d v), H1)
          | _ => none
        | some l, some h => match cOf (ev gv tm l), cOf (ev gv tm h) with
          | some (.d (.i k n)), some (.d (.i k' n')) => (cutF P t (some (.d (.i k n))) (some (.d (.i k' n'))) d).map fun v => (.c (.d v), H1)
          | _, _ => none
      | none => none
    | none => none
  | .extract x i => match ev gv tm x with
    | .t xs => (xs[i]?).map fun v => (v, H)
    | _ => none
  | .call ⟨.builtin .len, args, ts⟩ => match args.toList, ts.toList with
    | [x], [t] => match ev gv tm x with
      | .c c => (lenOp P H t c).map fun n => (.c (.d (.i .i64 n)), H)
      | _ => none
    | _, _ => none
  | .call ⟨.builtin .max, args, ts⟩ => match args.toList with
    | [x, y] => match ev gv tm x, ev gv tm y with
      | .c (.d (.i k a)), .c (.d (.i k' b)) => if k = k' then some (.c (.d (.i k (if b > a then b else a))), H) else none
      | _, _ => none
    | _ => none
  | .call ⟨.builtin .append, args, ts⟩ => match args.toList, ts.toList with
    | [s, x], [t, t'] => if t = t' then appendF P H t (ev gv tm s) (ev gv tm x) else none
    | _, _ => none
  | _ => none

section
variable {G : Gl} {w : World} {Z : Zs} {β : Bl} {H : List Ob}

theorem Res.ext0 {x : Result Next} {tv : TV} {H' : List Ob} {r : Value} {w' : World} {Z' : Zs} {β' : Bl} (h : x = .ok (.value r) w') (m : Mem G w' Z' β' H') (e : Ext w Z β H w' Z' β' H')
    (hr : RelT G.P w' Z' β' H' tv r) : Res G w Z β H x tv H' := ⟨r, w', Z', β', .inl h, hr, m, e⟩

theorem evParts_rel {a : Act} {tm : Nat → TV} (htm : ∀ o, RelT G.P w Z β H (ev G.gv tm o) (a.eval o)) (ps : List (Nat × Operand)) :
    (evParts G.gv tm ps).length = (ps.map fun p => (p.1, a.eval p.2)).length ∧
      ∀ (i : Nat) p v, (evParts G.gv tm ps)[i]? = some p → (ps.map fun p => (p.1, a.eval p.2))[i]? = some v → p.1 = v.1 ∧ RelT G.P w Z β H p.2 v.2 := by
  refine ⟨by simp [evParts], fun i p v hp hv => ?_⟩
  simp only [evParts, List.getElem?_map, Option.map_eq_some_iff] at hp hv
  obtain ⟨q, hq, rfl⟩ := hp
  obtain ⟨q', hq', rfl⟩ := hv
  rw [hq] at hq'; cases hq'
  exact ⟨rfl, htm _⟩

theorem cOf_list {P : Program} : ∀ {xs : List TV} {cs : List CV} {vs : List Value}, xs.mapM cOf = some cs → xs.length = vs.length →
    (∀ (i : Nat) t v, xs[i]? = some t → vs[i]? = some v → RelT P w Z β H t v) → RelCs P w Z β H cs vs
  | [], cs, vs, h, hl, hr => by
    simp at h
    subst h
    exact ⟨hl, by simp⟩
  | x :: xs, cs, vs, h, hl, hr => by
    cases vs with
    | nil => simp at hl
    | cons v vs =>
    rw [List.mapM_cons] at h
    cases hx : cOf x with
    | none => simp [hx] at h
    | some c =>
      cases hxs : xs.mapM cOf with
      | none => simp [hx, hxs] at h
      | some cs' =>
        simp [hx, hxs] at h
        subst h
        have ih := cOf_list hxs (by simpa using hl) (fun i t v h1 h2 => hr (i + 1) t v (by simpa using h1) (by simpa using h2))
        refine ⟨by simp [ih.1], fun i c' v' h1 h2 => ?_⟩
        cases i with
        | zero =>
          simp at h1 h2
          subst h1 h2
          have := hr 0 x v (by simp) (by simp)
          cases this <;> simp [cOf] at hx
          subst hx; assumption
        | succ i => exact ih.2 i c' v' (by simpa using h1) (by simpa using h2)

theorem relC_of {P : Program} {tv : TV} {c : CV} {v : Value} (h : RelT P w Z β H tv v) (hc : cOf tv = some c) : RelC P w Z β H c v := by
  cases h <;> simp [cOf] at hc
  subst hc; assumption

theorem relT_c {P : Program} {c : CV} {v : Value} (h : RelT P w Z β H (.c c) v) : RelC P w Z β H c v := by cases h; assumption
theorem relC_d {P : Program} {d : Dat} {v : Value} (h : RelC P w Z β H (.d d) v) : RelD w Z d v := by cases h; assumption
theorem relD_i {k : IntKind} {n : Int} {v : Value} (h : RelD w Z (.i k n) v) : v = .int k n := by cases h; rfl
theorem relD_b {b : Bool} {v : Value} (h : RelD w Z (.b b) v) : v = .bool b := by cases h; rfl
theorem relD_s {x : ByteArray} {v : Value} (h : RelD w Z (.s x) v) : v = .string x := by cases h; rfl

def isPtr : CV → Bool
  | .ref _ _ | .ep _ _ | .fn _ _ => true
  | _ => false
theorem nilCheck_sound {a : Act} {o : Oper} {x : Operand} {c : CV} (ho : o.op = .nilCheck x) (hc : RelC G.P w Z β H c (a.eval x)) (hk : isPtr c = true) :
    (execOp a.eval o).run G.P w = .ok (.value (a.eval x)) w := by
  simp only [execOp, ho]
  generalize a.eval x = v at hc
  cases hc <;> first | rfl | (simp [isPtr] at hk; done)

theorem lenOp_spec {P : Program} {t : TypeId} {c : CV} {n : Int} (h : lenOp P H t c = some n) : lenF H c = some n ∧ lenTy P t c = true := by
  unfold lenOp at h
  split at h
  · exact ⟨h, by assumption⟩
  · cases h

theorem opF_sound {a : Act} {tm : Nat → TV} {o : Oper} {tv : TV} {H' : List Ob} (m : Mem G w Z β H) (htm : ∀ o, RelT G.P w Z β H (ev G.gv tm o) (a.eval o))
    (h : opF G.P G.gv tm H o.op = some (tv, H')) : Res G w Z β H ((execOp a.eval o).run G.P w) tv H' := by
  cases ho : o.op with
  | move x =>
    simp only [opF, ho, Option.some.injEq, Prod.mk.injEq] at h
    obtain ⟨rfl, rfl⟩ := h
    exact .same m (by simp [execOp, ho]) (htm x)
  | assign x =>
    simp only [opF, ho, Option.some.injEq, Prod.mk.injEq] at h
    obtain ⟨rfl, rfl⟩ := h
    exact .same m (by simp [execOp, ho]) (htm x)
  | pick c x y =>
    simp only [opF, ho] at h
    split at h
    · rename_i b hb
      simp only [Option.some.injEq, Prod.mk.injEq] at h
      obtain ⟨rfl, rfl⟩ := h
      have := htm c
      rw [hb] at this
      have hv := relD_b (relC_d (relT_c this))
      cases b
      · exact .same m (by simp [execOp, ho, hv, asBool]) (htm y)
      · exact .same m (by simp [execOp, ho, hv, asBool]) (htm x)
    · cases h
  | alloc t =>
    simp only [opF, ho] at h
    obtain ⟨r, w', β', h1, h2, h3, h4⟩ := alloc_sound m h
    exact .ext0 (by simp [execOp, ho, h1]) h2 h3 h4
  | box t x =>
    simp only [opF, ho] at h
    obtain ⟨r, w', β', h1, h2, h3, h4⟩ := box_sound m (htm x) h
    exact .ext0 (by simp [execOp, ho, h1]) h2 h3 h4
  | build t ps =>
    simp only [opF, ho, Option.map_eq_some_iff, Prod.mk.injEq] at h
    obtain ⟨v, hv, rfl, rfl⟩ := h
    obtain ⟨g1, g2⟩ := evParts_rel (a := a) htm ps.toList
    obtain ⟨r, h1, h2⟩ := build_sound m g1 g2 hv
    refine .same m ?_ h2
    have : (ps.map fun (p : Nat × Operand) => (p.1, a.eval p.2)) = (ps.toList.map fun p => (p.1, a.eval p.2)).toArray := by apply Array.ext'; simp
    simp only [execOp, ho]
    rw [this]
    simp [h1]
  | buildSlice t n ps =>
    simp only [opF, ho] at h
    obtain ⟨g1, g2⟩ := evParts_rel (a := a) htm ps.toList
    obtain ⟨r, w', Z', β', h1, h2, h3, h4⟩ := buildSlice_sound m g1 g2 h
    refine .ext0 ?_ h2 h3 h4
    have : (ps.map fun (p : Nat × Operand) => (p.1, a.eval p.2)) = (ps.toList.map fun p => (p.1, a.eval p.2)).toArray := by apply Array.ext'; simp
    simp only [execOp, ho]
    rw [this]
    simp [h1]
  | load t x =>
    simp only [opF, ho] at h
    split at h
    · rename_i hu
      simp only [Option.map_eq_some_iff, Prod.mk.injEq] at h
      obtain ⟨v, hv, rfl, rfl⟩ := h
      obtain ⟨r, h1, h2⟩ := load_sound m (htm x) hu hv
      exact .same m (by simp [execOp, ho, h1]) h2
    · cases h
  | store t x y =>
    simp only [opF, ho, Option.map_eq_some_iff, Prod.mk.injEq] at h
    obtain ⟨v, hv, rfl, rfl⟩ := h
    obtain ⟨w', h1, h2, h3⟩ := store_sound m (htm x) (htm y) hv
    exact ⟨undef, w', Z, β, .inr ⟨by simp [execOp, ho, h1], rfl⟩, .c _ _ (.any _), h2, h3⟩
  | nilCheck x =>
    simp only [opF, ho] at h
    have hx := htm x
    split at h
    · rename_i e
      simp only [Option.some.injEq, Prod.mk.injEq] at h
      obtain ⟨rfl, rfl⟩ := h
      rw [e] at hx
      exact .same m (nilCheck_sound ho (relT_c hx) rfl) hx
    · rename_i e
      simp only [Option.some.injEq, Prod.mk.injEq] at h
      obtain ⟨rfl, rfl⟩ := h
      rw [e] at hx
      exact .same m (nilCheck_sound ho (relT_c hx) rfl) hx
    · rename_i e
      simp only [Option.some.injEq, Prod.mk.injEq] at h
      obtain ⟨rfl, rfl⟩ := h
      rw [e] at hx
      exact .same m (nilCheck_sound ho (relT_c hx) rfl) hx
    · cases h
  | binOp op t x y u =>
    simp only [opF, ho, Option.map_eq_some_iff, Prod.mk.injEq] at h
    obtain ⟨v, hv, rfl, rfl⟩ := h
    obtain ⟨r, g1, g2⟩ := binV_sound (x := x) (y := y) (htm x) (htm y) hv
    exact .same m (by simp only [execOp, ho, Sem.run_bind] at g1 ⊢; simp [g1]) g2
  | makeMap t r =>
    cases r with
    | some r => simp [opF, ho] at h
    | none =>
      simp only [opF, ho, Option.some.injEq, Prod.mk.injEq] at h
      obtain ⟨rfl, rfl⟩ := h
      obtain ⟨h1, h2, h3, h4⟩ := makeMap_sound m t
      exact .ext0 (by simp [execOp, ho, h1]) h2 h3 h4
  | lookup t x i ok =>
    simp only [opF, ho, Option.map_eq_some_iff, Prod.mk.injEq] at h
    obtain ⟨v, hv, rfl, rfl⟩ := h
    obtain ⟨r, g1, g2⟩ := lookup_sound m (htm x) (htm i) hv
    exact .same m (by simp [execOp, ho, g1]) g2
  | mapUpdate t x i y =>
    simp only [opF, ho, Option.map_eq_some_iff, Prod.mk.injEq] at h
    obtain ⟨v, hv, rfl, rfl⟩ := h
    obtain ⟨w', h1, h2, h3⟩ := mapUp_sound m (htm x) (htm i) (htm y) hv
    exact ⟨undef, w', Z, β, .inr ⟨by simp [execOp, ho, h1], rfl⟩, .c _ _ (.any _), h2, h3⟩
  | unOp op t x =>
    simp only [opF, ho] at h
    split at h
    · rename_i d hx
      simp only [Option.map_eq_some_iff, Prod.mk.injEq] at h
      obtain ⟨v, hv, rfl, rfl⟩ := h
      have h1 := htm x
      rw [hx] at h1
      obtain ⟨r, g1, g2⟩ := un_sound (P := G.P) (relC_d (relT_c h1)) hv
      exact .same m (by simp [execOp, ho, g1]) (.c _ _ (.d _ _ g2))
    · cases h
  | convert s t x =>
    simp only [opF, ho] at h
    split at h
    · rename_i d hx
      simp only [Option.map_eq_some_iff, Prod.mk.injEq] at h
      obtain ⟨v, hv, rfl, rfl⟩ := h
      have h1 := htm x
      rw [hx] at h1
      obtain ⟨r, g1, g2⟩ := conv_sound (P := G.P) (relC_d (relT_c h1)) hv
      exact .same m (by simp [execOp, ho, g1]) (.c _ _ (.d _ _ g2))
    · cases h
  | makeFunc fn first caps =>
    cases fn with
    | func f =>
      simp only [opF, ho] at h
      split at h
      · rename_i h0
        simp only [Option.map_eq_some_iff, Prod.mk.injEq] at h
        obtain ⟨cs, hcs, rfl, rfl⟩ := h
        have hr := cOf_list (w := w) (Z := Z) (β := β) (H := H) (P := G.P) (vs := caps.toList.map a.eval) hcs (by simp) (fun i t v h1 h2 => by
          simp only [List.getElem?_map, Option.map_eq_some_iff] at h1 h2
          obtain ⟨q, hq, rfl⟩ := h1
          obtain ⟨q', hq', rfl⟩ := h2
          rw [hq] at hq'; cases hq'
          exact htm _)
        refine .same m ?_ (.c _ _ (.fn f cs (caps.toList.map a.eval) hr.1 hr.2))
        have e1 : first.map a.eval = #[] := by
          have : first = #[] := Array.eq_empty_of_size_eq_zero h0
          subst this; simp
        have e2 : caps.map a.eval = (caps.toList.map a.eval).toArray := by apply Array.ext'; simp
        simp only [execOp, ho, Instr.makeFunc, e1, e2]
        rfl
      · cases h
    | _ => simp [opF, ho] at h
  | fieldAddr s x f =>
    simp only [opF, ho, Option.map_eq_some_iff, Prod.mk.injEq] at h
    obtain ⟨v, hv, rfl, rfl⟩ := h
    obtain ⟨r, g1, g2⟩ := fieldAddr_sound (htm x) hv
    exact .same m (by simp [execOp, ho, g1]) g2
  | indexAddr t x i =>
    simp only [opF, ho, Option.map_eq_some_iff, Prod.mk.injEq] at h
    obtain ⟨v, hv, rfl, rfl⟩ := h
    obtain ⟨r, g1, g2⟩ := index_sound m (htm x) (htm i) hv
    exact .same m (by simp [execOp, ho, g1]) g2
  | index t x i =>
    simp only [opF, ho] at h
    split at h
    · rename_i y k n hx hi
      split at h
      · rename_i hu
        simp only [Option.map_eq_some_iff, Prod.mk.injEq] at h
        obtain ⟨v, hv, rfl, rfl⟩ := h
        have h1 := htm x
        have h2 := htm i
        rw [hx] at h1; rw [hi] at h2
        have e1 := relD_s (relC_d (relT_c h1))
        have e2 := relD_i (relC_d (relT_c h2))
        obtain ⟨r, g1, g2⟩ := byte_sound (P := G.P) (w := w) (Z := Z) (k := k) hu hv
        exact .same m (by simp [execOp, ho, e1, e2, g1]) (.c _ _ (.d _ _ g2))
      · cases h
    · cases h
  | slice t x lo hi mx =>
    cases mx with
    | some mx => simp [opF, ho] at h
    | none =>
      simp only [opF, ho] at h
      split at h
      · rename_i c hc
        split at h
        · rename_i d H1 hd
          obtain ⟨Z1, m1, x1, r1⟩ := frz_sound m (relC_of (htm x) hc) hd
          have key : ∀ {l h' : Option CV} {vl vh : Option Value}, vLo l vl → vLo h' vh → lo.map a.eval = vl → hi.map a.eval = vh → ∀ v, cutF G.P t l h' d = some v → tv = .c (.d v) → H' = H1 →
              Res G w Z β H ((execOp a.eval o).run G.P w) tv H' := by
            intro l h' vl vh hl hh el eh v hv e1 e2
            subst e1 e2
            obtain ⟨r, g1, g2⟩ := cut_sound r1 hl hh hv
            refine .ext0 (w' := w) (Z' := Z1) (β' := β) ?_ m1 x1 (.c _ _ (.d _ _ g2))
            have harr : ∀ n e, G.P.underlying t ≠ some (.array n e) := by
              intro n e hu
              cases d <;> simp [cutF, hu] at hv
            have hs : (Instr.sliceAt t (a.eval x) vl vh none).run G.P w = .ok r w := by
              cases hu : G.P.underlying t with
              | none => cases d <;> simp [cutF, hu] at hv
              | some u =>
                cases u with
                | array n e => exact absurd hu (harr n e)
                | _ => simp [Instr.sliceAt, run_underlying hu, g1]
            simp [execOp, ho, el, eh, hs]
          have gi : ∀ {y : Operand} {k : IntKind} {n : Int}, cOf (ev G.gv tm y) = some (.d (.i k n)) → a.eval y = .int k n := fun hy => relD_i (relC_d (relC_of (htm _) hy))
          split at h
          · simp only [Option.map_eq_some_iff, Prod.mk.injEq] at h
            obtain ⟨v, hv, rfl, rfl⟩ := h
            exact key (.inl ⟨rfl, rfl⟩) (.inl ⟨rfl, rfl⟩) rfl rfl v hv rfl rfl
          · split at h
            · rename_i l k n hl
              simp only [Option.map_eq_some_iff, Prod.mk.injEq] at h
              obtain ⟨v, hv, rfl, rfl⟩ := h
              exact key (.inr ⟨_, _, rfl, rfl⟩) (.inl ⟨rfl, rfl⟩) (by simp [gi hl]) rfl v hv rfl rfl
            · cases h
          · split at h
            · rename_i l k n hl
              simp only [Option.map_eq_some_iff, Prod.mk.injEq] at h
              obtain ⟨v, hv, rfl, rfl⟩ := h
              exact key (.inl ⟨rfl, rfl⟩) (.inr ⟨_, _, rfl, rfl⟩) rfl (by simp [gi hl]) v hv rfl rfl
            · cases h
          · split at h
            · rename_i l h' k n k' n' hl hh
              simp only [Option.map_eq_some_iff, Prod.mk.injEq] at h
              obtain ⟨v, hv, rfl, rfl⟩ := h
              exact key (.inr ⟨_, _, rfl, rfl⟩) (.inr ⟨_, _, rfl, rfl⟩) (by simp [gi hl]) (by simp [gi hh]) v hv rfl rfl
            · cases h
        · cases h
      · cases h
  | extract x i =>
    simp only [opF, ho] at h
    split at h
    · rename_i xs hx
      simp only [Option.map_eq_some_iff, Prod.mk.injEq] at h
      obtain ⟨v, hv, rfl, rfl⟩ := h
      have h1 := htm x
      rw [hx] at h1
      obtain ⟨r, g1, g2⟩ := extract_sound h1 hv
      exact .same m (by simp [execOp, ho, g1]) g2
    · cases h
  | call c =>
    obtain ⟨callee, args, ts⟩ := c
    cases callee with
    | value f => simp [opF, ho] at h
    | invoke r n => simp [opF, ho] at h
    | builtin b =>
      cases b with
      | len =>
        simp only [opF, ho] at h
        split at h
        · rename_i x t ha ht
          split at h
          · rename_i c hx
            simp only [Option.map_eq_some_iff, Prod.mk.injEq] at h
            obtain ⟨n, hn, rfl, rfl⟩ := h
            have h1 := htm x
            rw [hx] at h1
            have hargs : args = #[x] := by apply Array.ext'; simpa using ha
            have hts : ts = #[t] := by apply Array.ext'; simpa using ht
            subst hargs hts
            have hsp := lenOp_spec hn
            have := len_sound (ty := o.type) m (relT_c h1) hsp.1 hsp.2
            exact .same m (by simp [execOp, ho, resolve, invoke, builtin, this]) (.c _ _ (.d _ _ (.i _ _)))
          · cases h
        · cases h
      | max =>
        simp only [opF, ho] at h
        split at h
        · rename_i x y ha
          split at h
          · rename_i k p k' q hx hy
            split at h
            · rename_i hk
              subst hk
              simp only [Option.some.injEq, Prod.mk.injEq] at h
              obtain ⟨rfl, rfl⟩ := h
              have h1 := htm x
              have h2 := htm y
              rw [hx] at h1; rw [hy] at h2
              have e1 := relD_i (relC_d (relT_c h1))
              have e2 := relD_i (relC_d (relT_c h2))
              have hargs : args = #[x, y] := by apply Array.ext'; simpa using ha
              subst hargs
              have := max_sound (P := G.P) (w := w) (ty := o.type) (ts := ts) (k := k) (a := p) (b := q)
              exact .same m (by simp only [execOp, ho, resolve, invoke, builtin]; simp [e1, e2, this]) (.c _ _ (.d _ _ (.i _ _)))
            · cases h
          · cases h
        · cases h
      | append =>
        simp only [opF, ho] at h
        split at h
        · rename_i x y t t' ha ht
          split at h
          · rename_i hk
            subst hk
            have hargs : args = #[x, y] := by apply Array.ext'; simpa using ha
            have hts : ts = #[t, t] := by apply Array.ext'; simpa using ht
            subst hargs hts
            obtain ⟨r, w', Z', β', h1, h2, h3, h4⟩ := append_sound (ty := o.type) m (htm x) (htm y) h
            exact .ext0 (by simp [execOp, ho, resolve, invoke, builtin, h1]) h2 h3 h4
          · cases h
        · cases h
      | _ => simp [opF, ho] at h
  | _ => simp [opF, ho] at h
end
end Go.Proofs.Ythnnnnaifnddbaa
