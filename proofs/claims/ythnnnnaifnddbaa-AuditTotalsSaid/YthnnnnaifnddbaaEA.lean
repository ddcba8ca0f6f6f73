/- Equality of structs and with nil; maps. -/
import Derived.Test.YthnnnnaifnddbaaE7
import Derived.Laws.StructEq
import Derived.MapKept
set_option linter.unusedVariables false
set_option linter.unusedSimpArgs false
namespace Go.Proofs.Ythnnnnaifnddbaa
open Go.RowKit (Below)

def isSlT (P : Program) (t : TypeId) : Bool := match P.underlying t with
  | some (.slice _) => true
  | _ => false
def isPtT (P : Program) (t : TypeId) : Bool := match P.underlying t with
  | some (.pointer _) => true
  | _ => false
def eqFs (P : Program) (xs ys : List CV) : List Field → Option Bool
  | [] => some true
  | f :: fs => if f.name = "_" then none else
    match P.underlying f.type, xs[f.offset]?, ys[f.offset]? with
    | some .bool, some (.d (.b a)), some (.d (.b b)) => (eqFs P xs ys fs).map (decide (a = b) && ·)
    | some (.int _), some (.d (.i k a)), some (.d (.i k' b)) => if k = k' then (eqFs P xs ys fs).map (decide (a = b) && ·) else none
    | some .string, some (.d (.s a)), some (.d (.s b)) => (eqFs P xs ys fs).map (decide (a = b) && ·)
    | _, _, _ => none
def eqS (P : Program) (t : TypeId) (xs ys : List CV) : Option Bool := match P.underlying t with
  | some (.struct fs) => if P.stoodInHeld t = false ∧ P.eqGuardType P.depth t = false then eqFs P xs ys fs.toList else none
  | _ => none
/-- A value and nil. -/
def eqN (P : Program) (t : TypeId) : CV → CV → Option Bool
  | .nil, .nil => if isSlT P t then some true else none
  | .d (.l (_ :: _)), .nil => if isSlT P t then some false else none
  | .fl (_ :: _), .nil => if isSlT P t then some false else none
  | .ref _ _, .k (.pointer none) => if isPtT P t then some false else none
  | .k (.pointer none), .k (.pointer none) => if isPtT P t then some true else none
  | _, _ => none
def binV (P : Program) (op : BinOp) (t : TypeId) : TV → TV → Option TV
  | .c (.d a), .c (.d b) => (binF op a b).map fun v => .c (.d v)
  | .g xs, .g ys => match op with
    | .eql => (eqS P t xs ys).map fun b => .c (.d (.b b))
    | .neq => (eqS P t xs ys).map fun b => .c (.d (.b (!b)))
    | _ => none
  | .c a, .c b => match op with
    | .eql => (eqN P t a b).map fun b => .c (.d (.b b))
    | .neq => (eqN P t a b).map fun b => .c (.d (.b (!b)))
    | _ => none
  | _, _ => none

def sameF (kd : TypeDesc) : Dat → Dat → Option Bool
  | .i k a, .i k' b => match kd with | .int q => if k = k' ∧ q = k then some (decide (a = b)) else none | _ => none
  | .s a, .s b => match kd with | .string => some (decide (a = b)) | _ => none
  | .b a, .b b => match kd with | .bool => some (decide (a = b)) | _ => none
  | _, _ => none
def fitsKd : TypeDesc → Dat → Bool
  | .int q, .i k _ => decide (q = k)
  | .string, .s _ => true
  | .bool, .b _ => true
  | _, _ => false
def findF (kd : TypeDesc) (x : Dat) : List (Dat × TV) → Nat → Option (Option (Nat × TV))
  | [], _ => some none
  | e :: es, i => match sameF kd x e.1 with
    | some true => some (some (i, e.2))
    | some false => findF kd x es (i + 1)
    | none => none
def zeroT (P : Program) (t : TypeId) : Option TV := ((P.info? t).bind (·.zero)).map ofK
def withOk (ok : Bool) (v : TV) (b : Bool) : TV := if ok then .t [v, .c (.d (.b b))] else v
def mapKd (P : Program) (t : TypeId) : Option (TypeDesc × TypeId) := match P.underlying t with
  | some (.map kt et) => match P.underlying kt with
    | some (.int q) => some (.int q, et)
    | some .string => some (.string, et)
    | some .bool => some (.bool, et)
    | _ => none
  | _ => none
def mkEs (ks vs : List Dat) : List (Dat × TV) := ks.zipWith (fun k v => (k, .c (.d v))) vs
def lookupF (P : Program) (H : List Ob) (t : TypeId) (ok : Bool) : TV → TV → Option TV
  | .c (.mp k), .c (.d x) => match mapKd P t with
    | some (kd, et) => match H[k]? with
      | some (.mp es _) => match (if fitsKd kd x then findF kd x es 0 else none) with
        | some (some (_, v)) => some (withOk ok v true)
        | some none => (zeroT P et).map fun z => withOk ok z false
        | none => none
      | _ => none
    | none => none
  | .c (.d (.m ks vs)), .c (.d x) => match mapKd P t with
    | some (kd, et) => match (if fitsKd kd x then findF kd x (mkEs ks vs) 0 else none) with
        | some (some (_, v)) => some (withOk ok v true)
        | some none => (zeroT P et).map fun z => withOk ok z false
        | none => none
    | none => none
  | .c (.k (.map none)), .c (.d x) => match mapKd P t with
    | some (kd, et) => if fitsKd kd x then (zeroT P et).map fun z => withOk ok z false else none
    | none => none
  | _, _ => none
def mapUpF (P : Program) (H : List Ob) (t : TypeId) (v : TV) : TV → TV → Option (List Ob)
  | .c (.mp k), .c (.d x) => match mapKd P t with
    | some (kd, et) => match H[k]? with
      | some (.mp es false) => match (if fitsKd kd x then findF kd x es 0 else none) with
        | some (some (i, _)) => some (H.set k (.mp (es.set i (x, v)) false))
        | some none => some (H.set k (.mp (es ++ [(x, v)]) false))
        | none => none
      | _ => none
    | none => none
  | _, _ => none

section
variable {G : Gl} {w : World} {Z : Zs} {β : Bl} {H : List Ob}

theorem relCs_get {P : Program} {xs : List CV} {vs : List Value} (h : RelCs P w Z β H xs vs) {i : Nat} {c : CV} (hc : xs[i]? = some c) : ∃ v, vs[i]? = some v ∧ RelC P w Z β H c v := by
  have hi : i < xs.length := (List.getElem?_eq_some_iff.1 hc).1
  have hi' : i < vs.length := h.1 ▸ hi
  exact ⟨vs[i], by simp [hi'], h.2 i c _ hc (by simp [hi'])⟩
theorem relC_i {P : Program} {k : IntKind} {n : Int} {v : Value} (h : RelC P w Z β H (.d (.i k n)) v) : v = .int k n := by cases h with | d _ _ h => cases h; rfl
theorem relC_b {P : Program} {b : Bool} {v : Value} (h : RelC P w Z β H (.d (.b b)) v) : v = .bool b := by cases h with | d _ _ h => cases h; rfl
theorem relC_s {P : Program} {b : ByteArray} {v : Value} (h : RelC P w Z β H (.d (.s b)) v) : v = .string b := by cases h with | d _ _ h => cases h; rfl

theorem eqFs_sound {P : Program} (d : Nat) {xs ys : List CV} {vs us : List Value} (hx : RelCs P w Z β H xs vs) (hy : RelCs P w Z β H ys us) : ∀ (fs : List Field) (b : Bool), eqFs P xs ys fs = some b →
    (Op.eqFields (d + 1) vs.toArray us.toArray fs).run P w = .ok b w
  | [], b, h => by simp only [eqFs, Option.some.injEq] at h; subst h; simp [Op.eqFields]
  | f :: fs, b, h => by
    simp only [eqFs] at h
    split at h
    · cases h
    · rename_i hn
      have key : ∀ {x y : CV} {v u : Value} {r : Bool} {b : Bool}, vs[f.offset]? = some v → us[f.offset]? = some u → (isAgg f.type).run P w = .ok false w →
          (Op.equalIn (d + 1) f.type v u).run P w = .ok r w → (eqFs P xs ys fs).map (r && ·) = some b → (Op.eqFields (d + 1) vs.toArray us.toArray (f :: fs)).run P w = .ok b w := by
        intro x y v u r b hv hu ha he hm
        have p1 : (part f.type vs.toArray f.offset).run P w = .ok v w := by simp [part, ha, hv]
        have p2 : (part f.type us.toArray f.offset).run P w = .ok u w := by simp [part, ha, hu]
        simp only [Option.map_eq_some_iff] at hm
        obtain ⟨b', hb', rfl⟩ := hm
        have ih := eqFs_sound d hx hy fs b' hb'
        simp only [Op.eqFields, hn, ne_eq, not_false_eq_true, if_true, Sem.run_bind, p1, p2, he, Result.andThen_ok]
        cases r
        · simp
        · simpa using ih
      split at h
      · rename_i a b' hu hx' hy'
        obtain ⟨v, hv, rv⟩ := relCs_get hx hx'
        obtain ⟨u, hu', ru⟩ := relCs_get hy hy'
        have e1 := relC_b rv
        have e2 := relC_b ru
        subst e1 e2
        exact key (x := .nil) (y := .nil) hv hu' (by simp [isAgg, run_underlying hu]) (by simp [Op.equalIn, run_underlying hu]; first | rfl | (rw [Bool.eq_iff_iff, MapKept.bytes_beq]; simp)) h
      · rename_i q k a k' b' hu hx' hy'
        split at h
        · rename_i hk
          subst hk
          obtain ⟨v, hv, rv⟩ := relCs_get hx hx'
          obtain ⟨u, hu', ru⟩ := relCs_get hy hy'
          have e1 := relC_i rv
          have e2 := relC_i ru
          subst e1 e2
          exact key (x := .nil) (y := .nil) hv hu' (by simp [isAgg, run_underlying hu]) (by simp [Op.equalIn, run_underlying hu]; first | rfl | (rw [Bool.eq_iff_iff, MapKept.bytes_beq]; simp)) h
        · cases h
      · rename_i a b' hu hx' hy'
        obtain ⟨v, hv, rv⟩ := relCs_get hx hx'
        obtain ⟨u, hu', ru⟩ := relCs_get hy hy'
        have e1 := relC_s rv
        have e2 := relC_s ru
        subst e1 e2
        exact key (x := .nil) (y := .nil) hv hu' (by simp [isAgg, run_underlying hu]) (by simp [Op.equalIn, run_underlying hu]; first | rfl | (rw [Bool.eq_iff_iff, MapKept.bytes_beq]; simp)) h
      · cases h

theorem eqS_sound {P : Program} {op : BinOp} {t : TypeId} {x y : Operand} {xs ys : List CV} {vs us : List Value} {b : Bool} (hx : RelCs P w Z β H xs vs) (hy : RelCs P w Z β H ys us) (h : eqS P t xs ys = some b) :
    (eqGuard op t x y (.agg vs.toArray) (.agg us.toArray)).run P w = .ok () w ∧ (Op.equal t (.agg vs.toArray) (.agg us.toArray)).run P w = .ok b w := by
  unfold eqS at h
  split at h
  · rename_i fs hu
    split at h
    · rename_i hg
      refine ⟨?_, ?_⟩
      · cases op <;> simp [eqGuard, hg.2]
      · have hf : P.fieldsOf t = fs := by simp [Program.fieldsOf, hu]
        show (Op.equalIn (9999 + 1) t _ _).run P w = _
        rw [run_equalIn_struct (P := P) w 9999 t _ _ (by rw [hf]; exact hu) hg.1, hf]
        exact eqFs_sound 9998 hx hy _ _ h
    · cases h
  · cases h

theorem isSlT_spec {P : Program} {t : TypeId} (h : isSlT P t = true) : ∃ e, P.underlying t = some (.slice e) := by
  unfold isSlT at h
  split at h
  · exact ⟨_, by assumption⟩
  · cases h
theorem isPtT_spec {P : Program} {t : TypeId} (h : isPtT P t = true) : ∃ e, P.underlying t = some (.pointer e) := by
  unfold isPtT at h
  split at h
  · exact ⟨_, by assumption⟩
  · cases h

theorem eqI1 {P : Program} {t e : TypeId} (hu : P.underlying t = some (.slice e)) (d : Nat) : (Op.equalIn (d + 1) t (.slice none 0 0) (.slice none 0 0)).run P w = .ok true w := by simp [Op.equalIn, run_underlying hu]
theorem eqI2 {P : Program} {t e : TypeId} (hu : P.underlying t = some (.slice e)) (d : Nat) (ad : Addr) (n c : Nat) : (Op.equalIn (d + 1) t (.slice (some ad) n c) (.slice none 0 0)).run P w = .ok false w := by simp [Op.equalIn, run_underlying hu]
theorem eqI3 {P : Program} {t e : TypeId} (hu : P.underlying t = some (.pointer e)) (d : Nat) : (Op.equalIn (d + 1) t (.pointer none) (.pointer none)).run P w = .ok true w := by simp [Op.equalIn, run_underlying hu]
theorem eqI4 {P : Program} {t e : TypeId} (hu : P.underlying t = some (.pointer e)) (d : Nat) (ad : Addr) : (Op.equalIn (d + 1) t (.pointer (some ad)) (.pointer none)).run P w = .ok false w := by simp [Op.equalIn, run_underlying hu]
theorem eqN_sound {P : Program} {op : BinOp} {t : TypeId} {x y : Operand} {a b : CV} {v u : Value} {r : Bool} (ha : RelC P w Z β H a v) (hb : RelC P w Z β H b u) (h : eqN P t a b = some r) (hop : op = .eql ∨ op = .neq) :
    ∃ q, (do eqGuard op t x y v u; binOp op t v u : Sem Value).run P w = .ok (.bool q) w ∧ q = (if op = .eql then r else !r) := by
  have fin : ∀ {v u : Value} {r : Bool}, (∀ P w, (eqGuard op t x y v u).run P w = .ok () w) → (Op.equal t v u).run P w = .ok r w → (∀ op', op' = .eql → binOp op' t v u = (do pure (.bool (← Op.equal t v u)))) →
      (∀ op', op' = .neq → binOp op' t v u = (do pure (.bool (!(← Op.equal t v u))))) → ∃ q, (do eqGuard op t x y v u; binOp op t v u : Sem Value).run P w = .ok (.bool q) w ∧ q = (if op = .eql then r else !r) := by
    intro v u r h1 h2 h3 h4
    rcases hop with rfl | rfl
    · exact ⟨r, by rw [Sem.run_bind, h1, Result.andThen_ok, h3 _ rfl]; simp [h2], by simp⟩
    · exact ⟨!r, by rw [Sem.run_bind, h1, Result.andThen_ok, h4 _ rfl]; simp [h2], by simp⟩
  have ge : ∀ {A : Option Addr} {n c : Nat} {A' : Option Addr} {n' c' : Nat} P w, (eqGuard op t x y (.slice A n c) (.slice A' n' c')).run P w = .ok () w := by
    intro A n c A' n' c' P w
    cases op <;> simp [eqGuard]
  have gp : ∀ {A A' : Option Addr} P w, (eqGuard op t x y (.pointer A) (.pointer A')).run P w = .ok () w := by
    intro A A' P w
    cases op <;> simp [eqGuard]
  unfold eqN at h
  split at h
  · split at h
    · rename_i ht
      obtain ⟨e, hu⟩ := isSlT_spec ht
      cases h
      cases ha; cases hb
      exact fin ge (eqI1 hu 9999) (by rintro _ rfl; rfl) (by rintro _ rfl; rfl)
    · cases h
  · split at h
    · rename_i ht
      obtain ⟨e, hu⟩ := isSlT_spec ht
      cases h
      cases ha with | d _ _ ha =>
      cases hb
      cases ha with | l es A c sz g hn hc hsz hA hcell hrel =>
      obtain ⟨ad, rfl⟩ := hA (by simp)
      exact fin ge (eqI2 hu 9999 _ _ _) (by rintro _ rfl; rfl) (by rintro _ rfl; rfl)
    · cases h
  · split at h
    · rename_i ht
      obtain ⟨e, hu⟩ := isSlT_spec ht
      cases h
      cases ha with | fl es A ha =>
      cases hb
      have hA : ∃ ad, A = some ad := by
        cases ha with | l es A c sz g hn hc hsz hA hcell hrel => exact hA (by simp)
      obtain ⟨ad, rfl⟩ := hA
      exact fin ge (eqI2 hu 9999 _ _ _) (by rintro _ rfl; rfl) (by rintro _ rfl; rfl)
    · cases h
  · split at h
    · rename_i ht
      obtain ⟨e, hu⟩ := isPtT_spec ht
      cases h
      cases ha; cases hb
      exact fin gp (eqI4 hu 9999 _) (by rintro _ rfl; rfl) (by rintro _ rfl; rfl)
    · cases h
  · split at h
    · rename_i ht
      obtain ⟨e, hu⟩ := isPtT_spec ht
      cases h
      cases ha; cases hb
      exact fin gp (eqI3 hu 9999) (by rintro _ rfl; rfl) (by rintro _ rfl; rfl)
    · cases h
  · cases h

theorem binV_sound {P : Program} {op : BinOp} {t : TypeId} {x y : Operand} {a b tv : TV} {v u : Value} (ha : RelT P w Z β H a v) (hb : RelT P w Z β H b u) (h : binV P op t a b = some tv) :
    ∃ r, (do eqGuard op t x y v u; binOp op t v u : Sem Value).run P w = .ok r w ∧ RelT P w Z β H tv r := by
  unfold binV at h
  split at h
  · rename_i a b
    simp only [Option.map_eq_some_iff] at h
    obtain ⟨d, hd, rfl⟩ := h
    cases ha with | c _ _ ha =>
    cases hb with | c _ _ hb =>
    cases ha with | d _ _ ha =>
    cases hb with | d _ _ hb =>
    obtain ⟨r, g1, g2⟩ := binF_sound (P := P) (t := t) (x := x) (y := y) ha hb hd
    exact ⟨r, g1, .c _ _ (.d _ _ g2)⟩
  · rename_i xs ys
    cases ha with | g _ vs ha =>
    cases hb with | g _ us hb =>
    split at h
    · simp only [Option.map_eq_some_iff] at h
      obtain ⟨d, hd, rfl⟩ := h
      obtain ⟨g1, g2⟩ := eqS_sound (op := .eql) (x := x) (y := y) ha hb hd
      exact ⟨.bool d, by rw [Sem.run_bind, g1, Result.andThen_ok]; simp [binOp, g2], .c _ _ (.d _ _ (.b _))⟩
    · simp only [Option.map_eq_some_iff] at h
      obtain ⟨d, hd, rfl⟩ := h
      obtain ⟨g1, g2⟩ := eqS_sound (op := .neq) (x := x) (y := y) ha hb hd
      exact ⟨.bool (!d), by rw [Sem.run_bind, g1, Result.andThen_ok]; simp [binOp, g2], .c _ _ (.d _ _ (.b _))⟩
    · cases h
  · rename_i a b _
    cases ha with | c _ _ ha =>
    cases hb with | c _ _ hb =>
    split at h
    · simp only [Option.map_eq_some_iff] at h
      obtain ⟨d, hd, rfl⟩ := h
      obtain ⟨q, g1, g2⟩ := eqN_sound (op := .eql) (x := x) (y := y) ha hb hd (.inl rfl)
      simp at g2
      subst g2
      exact ⟨_, g1, .c _ _ (.d _ _ (.b _))⟩
    · simp only [Option.map_eq_some_iff] at h
      obtain ⟨d, hd, rfl⟩ := h
      obtain ⟨q, g1, g2⟩ := eqN_sound (op := .neq) (x := x) (y := y) ha hb hd (.inr rfl)
      simp at g2
      subst g2
      exact ⟨_, g1, .c _ _ (.d _ _ (.b _))⟩
    · cases h
  · cases h

/-! ### Maps -/
def keyKd : TypeDesc → Bool
  | .int _ | .string | .bool => true
  | _ => false
theorem mapKd_spec {P : Program} {t : TypeId} {kd : TypeDesc} {et : TypeId} (h : mapKd P t = some (kd, et)) : ∃ kt, P.underlying t = some (.map kt et) ∧ P.underlying kt = some kd ∧ keyKd kd = true := by
  unfold mapKd at h
  split at h
  · rename_i kt et' hu
    split at h <;> first | (cases h; done) | (rename_i hk; simp only [Option.some.injEq, Prod.mk.injEq] at h; obtain ⟨rfl, rfl⟩ := h; exact ⟨kt, hu, hk, rfl⟩)
  · cases h
theorem fitsKd_sound {kd : TypeDesc} {a : Dat} {v : Value} (ha : RelD w Z a v) (h : fitsKd kd a = true) : MapKept.IsKey kd v := by
  cases ha with
  | i k n => cases kd <;> simp [fitsKd] at h; subst h; rfl
  | s x => cases kd <;> simp [fitsKd] at h; trivial
  | b x => cases kd <;> simp [fitsKd] at h; trivial
  | l => cases kd <;> simp [fitsKd] at h
  | m => cases kd <;> simp [fitsKd] at h
theorem sameF_sound {kd : TypeDesc} {a b : Dat} {v u : Value} {r : Bool} (ha : RelD w Z a v) (hb : RelD w Z b u) (h : sameF kd a b = some r) :
    Instr.sameNow kd v u = some r ∧ (r = true → u = v) := by
  cases ha with
  | i k a =>
    cases hb with
    | i k' b =>
      simp only [sameF] at h
      split at h
      · split at h
        · rename_i hk
          obtain ⟨rfl, rfl⟩ := hk
          cases h
          exact ⟨by simp only [Instr.sameNow, if_true]; rfl, by simp; rintro rfl; rfl⟩
        · cases h
      · cases h
    | _ => simp [sameF] at h
  | s a _ =>
    cases hb with
    | s b _ =>
      simp only [sameF] at h
      split at h
      · cases h
        exact ⟨by simp only [Instr.sameNow]; congr 1; rw [Bool.eq_iff_iff, MapKept.bytes_beq]; simp, by simp; rintro rfl; rfl⟩
      · cases h
    | _ => simp [sameF] at h
  | b a =>
    cases hb with
    | b b =>
      simp only [sameF] at h
      split at h
      · cases h
        exact ⟨by simp only [Instr.sameNow]; cases a <;> cases b <;> rfl, by simp; rintro rfl; rfl⟩
      · cases h
    | _ => simp [sameF] at h
  | l => simp [sameF] at h
  | m => simp [sameF] at h
theorem findF_sound {kd : TypeDesc} {x : Dat} {v : Value} (hx : RelD w Z x v) : ∀ (es : List (Dat × TV)) (l : List MapEntry) (i : Nat) (r : Option (Nat × TV)), es.length = l.length →
    (∀ (j : Nat) e m, es[j]? = some e → l[j]? = some m → RelD w Z e.1 m.key) → findF kd x es i = some r →
    match r with
    | none => Instr.findNow kd v l i = some none
    | some (n, t) => ∃ j e m, n = i + j ∧ es[j]? = some e ∧ l[j]? = some m ∧ t = e.2 ∧ m.key = v ∧ Instr.findNow kd v l i = some (some (n, m.val))
  | [], [], i, r, _, _, h => by
    simp only [findF, Option.some.injEq] at h
    subst h
    rfl
  | [], _ :: _, i, r, hl, _, _ => by simp at hl
  | _ :: _, [], i, r, hl, _, _ => by simp at hl
  | e :: es, m :: l, i, r, hl, hr, h => by
    simp only [findF] at h
    split at h
    · rename_i hs
      cases h
      obtain ⟨g1, g2⟩ := sameF_sound hx (hr 0 e m rfl rfl) hs
      exact ⟨0, e, m, rfl, rfl, rfl, rfl, g2 rfl, by simp [Instr.findNow, g1]⟩
    · rename_i hs
      obtain ⟨g1, g2⟩ := sameF_sound hx (hr 0 e m rfl rfl) hs
      have ih := findF_sound hx es l (i + 1) r (by simpa using hl) (fun j e' m' h1 h2 => hr (j + 1) e' m' (by simpa using h1) (by simpa using h2)) h
      cases r with
      | none => simp only [Instr.findNow, g1]; exact ih
      | some p =>
        obtain ⟨j, e', m', h1, h2, h3, h4, h5, h6⟩ := ih
        exact ⟨j + 1, e', m', by omega, by simpa using h2, by simpa using h3, h4, h5, by simp only [Instr.findNow, g1]; exact h6⟩
    · cases h

theorem zeroT_sound {P : Program} {t : TypeId} {z : TV} (h : zeroT P t = some z) : ∃ v, (zeroValue t).run P w = .ok v w ∧ RelT P w Z β H z v := by
  unfold zeroT at h
  simp only [Option.map_eq_some_iff] at h
  obtain ⟨v, hv, rfl⟩ := h
  obtain ⟨i, hi, hiz⟩ := Option.bind_eq_some_iff.1 hv
  exact ⟨v, by simp [zeroValue, typeInfo, hi, hiz], rel_ofK P v⟩
theorem withOk_sound {P : Program} {ok b : Bool} {t : TV} {v : Value} (h : RelT P w Z β H t v) : RelT P w Z β H (withOk ok t b) (if ok then .tuple #[v, .bool b] else v) := by
  cases ok
  · exact h
  · exact .t [t, .c (.d (.b b))] [v, .bool b] rfl (fun i t' v' h1 h2 => by
      match i with
      | 0 => simp at h1 h2; subst h1 h2; exact h
      | 1 => simp at h1 h2; subst h1 h2; exact .c _ _ (.d _ _ (.b _))
      | n + 2 => simp at h1)
theorem lookup_sound (m : Mem G w Z β H) {t : TypeId} {ok : Bool} {x i tv : TV} {v u : Value} (hx : RelT G.P w Z β H x v) (hi : RelT G.P w Z β H i u) (h : lookupF G.P H t ok x i = some tv) :
    ∃ r, (Instr.lookup t v u ok).run G.P w = .ok r w ∧ RelT G.P w Z β H tv r := by
  unfold lookupF at h
  split at h
  · rename_i k x
    split at h
    · rename_i kd et hm
      obtain ⟨kt, hu, hk, hkd⟩ := mapKd_spec hm
      split at h
      · rename_i es fz hH
        cases hx with | c _ _ hx =>
        cases hi with | c _ _ hi =>
        cases hi with | d _ _ hi =>
        cases hx with | mp _ b c hkm hb =>
        obtain ⟨b', c', ents, clock, q1, q2, q3, q4, _⟩ := m.obj k _ hH
        rw [hb] at q1
        simp only [Option.some.injEq, Prod.mk.injEq] at q1
        obtain ⟨rfl, rfl⟩ := q1
        split at h
        · rename_i i' t' hf
          split at hf
          · rename_i hfit
            have hkey := fitsKd_sound hi hfit
            obtain ⟨j, e, me, h1, h2, h3, h4, h5, h6⟩ := findF_sound hi es ents.toList 0 _ (by simp [q3]) (fun j e m' h1 h2 => (q4 j e m' h1 (by simpa using h2)).1) hf
            cases h
            subst h4
            refine ⟨_, ?_, withOk_sound (q4 j e me h2 (by simpa using h3)).2⟩
            simp [Instr.lookup, run_underlying hu, MapKept.run_getObj_map q2, MapKept.run_checkKey hk hkey, MapKept.run_findKey hk h6]
          · cases hf
        · rename_i hf
          split at hf
          · rename_i hfit
            have hkey := fitsKd_sound hi hfit
            have h6 := findF_sound hi es ents.toList 0 _ (by simp [q3]) (fun j e m' h1 h2 => (q4 j e m' h1 (by simpa using h2)).1) hf
            simp only [Option.map_eq_some_iff] at h
            obtain ⟨z, hz, rfl⟩ := h
            obtain ⟨zv, g1, g2⟩ := zeroT_sound (w := w) (Z := Z) (β := β) (H := H) hz
            refine ⟨_, ?_, withOk_sound g2⟩
            simp [Instr.lookup, run_underlying hu, MapKept.run_getObj_map q2, MapKept.run_checkKey hk hkey, MapKept.run_findKey hk h6, g1]
          · cases hf
        · cases h
      · cases h
    · cases h
  · rename_i ks vs x
    split at h
    · rename_i kd et hm
      obtain ⟨kt, hu, hk, hkd⟩ := mapKd_spec hm
      cases hx with | c _ _ hx =>
      cases hx with | d _ _ hx =>
      cases hi with | c _ _ hi =>
      cases hi with | d _ _ hi =>
      cases hx with | m _ _ b ents clock fk fv q1 q3 q2 qz qe qk qv =>
      have qg : ∀ (j : Nat) (e : Dat × TV) (m' : MapEntry), (mkEs ks vs)[j]? = some e → ents[j]? = some m' → RelD w Z e.1 m'.key ∧ RelT G.P w Z β H e.2 m'.val := by
        intro j e m' h1 h2
        simp only [mkEs, List.getElem?_zipWith] at h1
        cases hkj : ks[j]? with
        | none => simp [hkj] at h1
        | some kx =>
          cases hvj : vs[j]? with
          | none => simp [hkj, hvj] at h1
          | some vx =>
            simp only [hkj, hvj, Option.some.injEq] at h1
            subst h1
            obtain ⟨e1, e2⟩ := qe j m' h2
            exact ⟨e1 ▸ qk j kx hkj, .c _ _ (.d _ _ (e2 ▸ qv j vx hvj))⟩
      have qn : (mkEs ks vs).length = ents.toList.length := by simp [mkEs, q1, q3]
      split at h
      · rename_i i' t' hf
        split at hf
        · rename_i hfit
          have hkey := fitsKd_sound hi hfit
          obtain ⟨j, e, me, h1, h2, h3, h4, h5, h6⟩ := findF_sound hi _ ents.toList 0 _ qn (fun j e m' h1 h2 => (qg j e m' h1 (by simpa using h2)).1) hf
          cases h
          subst h4
          refine ⟨_, ?_, withOk_sound (qg j e me h2 (by simpa using h3)).2⟩
          simp [Instr.lookup, run_underlying hu, MapKept.run_getObj_map q2, MapKept.run_checkKey hk hkey, MapKept.run_findKey hk h6]
        · cases hf
      · rename_i hf
        split at hf
        · rename_i hfit
          have hkey := fitsKd_sound hi hfit
          have h6 := findF_sound hi _ ents.toList 0 _ qn (fun j e m' h1 h2 => (qg j e m' h1 (by simpa using h2)).1) hf
          simp only [Option.map_eq_some_iff] at h
          obtain ⟨z, hz, rfl⟩ := h
          obtain ⟨zv, g1, g2⟩ := zeroT_sound (w := w) (Z := Z) (β := β) (H := H) hz
          refine ⟨_, ?_, withOk_sound g2⟩
          simp [Instr.lookup, run_underlying hu, MapKept.run_getObj_map q2, MapKept.run_checkKey hk hkey, MapKept.run_findKey hk h6, g1]
        · cases hf
      · cases h
    · cases h
  · rename_i x
    split at h
    · rename_i kd et hm
      obtain ⟨kt, hu, hk, hkd⟩ := mapKd_spec hm
      split at h
      · rename_i hfit
        cases hx with | c _ _ hx =>
        cases hi with | c _ _ hi =>
        cases hi with | d _ _ hi =>
        cases hx
        have hkey := fitsKd_sound hi hfit
        simp only [Option.map_eq_some_iff] at h
        obtain ⟨z, hz, rfl⟩ := h
        obtain ⟨zv, g1, g2⟩ := zeroT_sound (w := w) (Z := Z) (β := β) (H := H) hz
        refine ⟨_, ?_, withOk_sound g2⟩
        simp [Instr.lookup, run_underlying hu, MapKept.run_checkKey hk hkey, Instr.findKey, Instr.findNow, run_underlying hk, g1]
      · cases h
    · cases h
  · cases h
theorem makeMap_sound (m : Mem G w Z β H) (t : TypeId) : (Instr.makeMap t none).run G.P w = .ok (.map (some w.heap.size)) (w.alloc (.map #[] 0)) ∧
    Mem G (w.alloc (.map #[] 0)) Z (setB β H.length (w.heap.size, 0)) (H ++ [.mp [] false]) ∧ Ext w Z β H (w.alloc (.map #[] 0)) Z (setB β H.length (w.heap.size, 0)) (H ++ [.mp [] false]) ∧
      RelT G.P (w.alloc (.map #[] 0)) Z (setB β H.length (w.heap.size, 0)) (H ++ [.mp [] false]) (.c (.mp H.length)) (.map (some w.heap.size)) := by
  have ha := m.alloc (.map #[] 0) (.mp [] false) 0 fun hx => ⟨w.heap.size, 0, #[], 0, setB_same _ _ _, (MapKept.heap_alloc w _).1, rfl, by simp, fun o hz => by have := m.zlt _ _ hz; omega⟩
  exact ⟨by simp [Instr.makeMap], ha.1, ha.2, .c _ _ (.mp _ _ 0 ⟨[], false, by simp⟩ (setB_same _ _ _))⟩

theorem cell_setMap {w : World} {r : Nat} {es es' : Array MapEntry} {c c' : Nat} (hb : w.heap[r]? = some (.map es c)) (b o : Nat) :
    ({ w with heap := w.heap.setIfInBounds r (.map es' c') } : World).cell? ⟨b, o, none⟩ = w.cell? ⟨b, o, none⟩ := by
  unfold World.cell?
  by_cases e : b = r
  · subst e
    have hlt : b < w.heap.size := (Array.getElem?_eq_some_iff.1 hb).1
    rw [show ({ w with heap := w.heap.setIfInBounds b (.map es' c') } : World).heap[b]? = some (.map es' c') by simp [hlt], hb]
  · simp [Ne.symm e]

theorem Mem.mapSet (m : Mem G w Z β H) {k b c : Nat} {es es' : List (Dat × TV)} {ents ents' : Array MapEntry} {clock clock' : Nat} (hk : H[k]? = some (.mp es false)) (hb : β k = some (b, c)) (hh : w.heap[b]? = some (.map ents clock))
    (hl : ents'.size = es'.length) (hr : ∀ (i : Nat) x e, es'[i]? = some x → ents'[i]? = some e → RelD w Z x.1 e.key ∧ RelT G.P w Z β H x.2 e.val) :
    Mem G { w with heap := w.heap.setIfInBounds b (.map ents' clock') } Z β (H.set k (.mp es' false)) ∧ Ext w Z β H { w with heap := w.heap.setIfInBounds b (.map ents' clock') } Z β (H.set k (.mp es' false)) := by
  have hnz : ∀ o, ¬ Z b o := fun o hz => by
    obtain ⟨b', c', _, _, q1, _, _, _, q5⟩ := m.obj k _ hk
    rw [hb] at q1
    simp only [Option.some.injEq, Prod.mk.injEq] at q1
    obtain ⟨rfl, rfl⟩ := q1
    exact absurd (q5 o hz) (by simp)
  have hlt : k < H.length := (List.getElem?_eq_some_iff.1 hk).1
  have hlv : live H k := ⟨_, hk, by simp⟩
  have hblt : b < w.heap.size := (Array.getElem?_eq_some_iff.1 hh).1
  refine m.touch k _ (.inl ⟨rfl, hlt⟩) rfl rfl rfl (by simp) (fun i hi hn => ?_) (fun b' o' h => ⟨h, cell_setMap hh b' o'⟩)
    (fun b' o' h => ⟨by simpa using m.zlt b' o' h, .inl h⟩) (fun _ _ => rfl) (fun b' c' h => ?_) (fun o' ho' => ?_) (fun hx' => ?_) (fun b' c' _ hb' o hz => by rw [hb] at hb'; cases hb'; exact absurd hz (hnz o))
  · have : b ≠ i := fun e => hn c hlv (e ▸ hb)
    simp [this]
  · have := m.pos k b' c' hlv h
    exact ⟨by simpa using this.2, .inr ⟨c', hlv, h⟩⟩
  · rw [hk] at ho'; cases ho'
    exact ⟨⟨es', false, rfl⟩, rfl⟩
  · exact ⟨b, c, ents', clock', hb, by simp [hblt], hl, fun i x e h1 h2 => have ⟨g1, g2⟩ := hr i x e h1 h2; ⟨g1.ext hx', g2.ext hx'⟩, fun o hz => absurd hz (hnz o)⟩

theorem mapUp_sound (m : Mem G w Z β H) {t : TypeId} {x i y : TV} {v u q : Value} {H' : List Ob} (hx : RelT G.P w Z β H x v) (hi : RelT G.P w Z β H i u) (hy : RelT G.P w Z β H y q) (h : mapUpF G.P H t y x i = some H') :
    ∃ w', (Instr.mapUpdate t v u q).run G.P w = .ok () w' ∧ Mem G w' Z β H' ∧ Ext w Z β H w' Z β H' := by
  unfold mapUpF at h
  split at h
  · rename_i k x
    split at h
    · rename_i kd et hm
      obtain ⟨kt, hu, hk, hkd⟩ := mapKd_spec hm
      split at h
      · rename_i es hH
        cases hx with | c _ _ hx =>
        cases hi with | c _ _ hi =>
        cases hi with | d _ _ hi =>
        cases hx with | mp _ b c hkm hb =>
        obtain ⟨b', c', ents, clock, q1, q2, q3, q4, _⟩ := m.obj k _ hH
        have hb0 := hb
        rw [hb] at q1
        simp only [Option.some.injEq, Prod.mk.injEq] at q1
        obtain ⟨rfl, rfl⟩ := q1
        split at h
        · rename_i i' t' hf
          split at hf
          · rename_i hfit
            have hkey := fitsKd_sound hi hfit
            obtain ⟨j, e, me, h1, h2, h3, h4, h5, h6⟩ := findF_sound hi es ents.toList 0 _ (by simp [q3]) (fun j e m' h1 h2 => (q4 j e m' h1 (by simpa using h2)).1) hf
            cases h
            have hj : ents[j]? = some me := by simpa using h3
            have hij : i' = j := by omega
            subst hij
            have ms := m.mapSet (es' := es.set i' (x, y)) (ents' := ents.modify i' fun e => { e with key := u, val := q }) (clock' := clock) hH hb0 q2 (by simp [q3]) fun n z e' h1 h2 => by
              rw [List.getElem?_set] at h1
              rw [Array.getElem?_modify] at h2
              by_cases e : i' = n
              · subst e
                simp only [if_true] at h1 h2
                split at h1
                · cases h1
                  rw [hj] at h2
                  cases h2
                  exact ⟨hi, hy⟩
                · cases h1
              · rw [if_neg e] at h1 h2
                exact q4 n z e' h1 h2
            refine ⟨_, ?_, ms.1, ms.2⟩
            simp [Instr.mapUpdate, run_underlying hu, MapKept.run_getObj_map q2, MapKept.run_checkKey hk hkey, MapKept.run_findKey hk h6, hj, h5, MapKept.run_keyThatStays hkey, MapKept.run_setObj_map _ q2]
          · cases hf
        · rename_i hf
          split at hf
          · rename_i hfit
            have hkey := fitsKd_sound hi hfit
            have h6 := findF_sound hi es ents.toList 0 _ (by simp [q3]) (fun j e m' h1 h2 => (q4 j e m' h1 (by simpa using h2)).1) hf
            cases h
            have ms := m.mapSet (es' := es ++ [(x, y)]) (ents' := ents.push { key := u, val := q, born := clock }) (clock' := clock + 1) hH hb0 q2 (by simp [q3]) fun n z e' h1 h2 => by
              rw [List.getElem?_append] at h1
              rw [Array.getElem?_push] at h2
              by_cases e : n < es.length
              · rw [if_pos e] at h1
                rw [if_neg (by omega)] at h2
                exact q4 n z e' h1 h2
              · rw [if_neg e] at h1
                have hn : n = es.length := by
                  have := (List.getElem?_eq_some_iff.1 h1).1
                  simp at this
                  omega
                subst hn
                rw [if_pos q3.symm] at h2
                simp at h1 h2
                subst h1 h2
                exact ⟨hi, hy⟩
            refine ⟨_, ?_, ms.1, ms.2⟩
            simp [Instr.mapUpdate, run_underlying hu, MapKept.run_getObj_map q2, MapKept.run_checkKey hk hkey, MapKept.run_findKey hk h6, MapKept.run_setObj_map _ q2]
          · cases hf
        · cases h
      · cases h
    · cases h
  · cases h
end
end Go.Proofs.Ythnnnnaifnddbaa
