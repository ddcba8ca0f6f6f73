/- Operations as rewriting, given what is known of a type. -/
import Derived.Test.YthnnnnaifnddbaaE14
set_option linter.unusedVariables false
set_option linter.unusedSimpArgs false
namespace Go.Proofs.Ythnnnnaifnddbaa

def loadA (H : List Ob) (n : Nat) : TV → Option (TV × List Ob)
  | .c p => match readAt H n p with
    | some xs => some (.g xs, H)
    | none => none
  | _ => none
def load1 (H : List Ob) : TV → Option (TV × List Ob)
  | .c p => match readAt H 1 p with
    | some [x] => some (.c x, H)
    | _ => none
  | _ => none
def storeN (H : List Ob) (n : Nat) (x : TV) : TV → Option (TV × List Ob)
  | .c p => match cellsT x with
    | some xs => if xs.length = n then (match writeAt H xs p with
      | some H' => some (.c .any, H')
      | none => none) else none
    | none => none
  | _ => none
def faddr (H : List Ob) (off : Nat) : TV → Option (TV × List Ob)
  | .c p => match addP H off p with
    | some q => some (.c q, H)
    | none => none
  | _ => none
def idxS (H : List Ob) (e sz : Nat) : TV → TV → Option (TV × List Ob)
  | .c x, .c (.d (.i _ i)) => if 0 ≤ i then (match x with
      | .d (.l es) => match es[i.toNat]? with
        | some c => if c.length = sz then some (.c (.ep c 0), H) else none
        | none => none
      | .fl es => match es[i.toNat]? with
        | some c => if c.length = sz then some (.c (.ep c 0), H) else none
        | none => none
      | .vs k n => match H[k]? with
        | some (.row ty es _) => if es.length = n ∧ i.toNat < n ∧ ty = e then some (.c (.rp k n i.toNat 0), H) else none
        | _ => none
      | _ => none) else none
  | _, _ => none
def bldS (H : List Ob) (sz len : Nat) (parts : List (Nat × TV)) : Option (TV × List Ob) := if len * sz ≤ 16777216 ∧ parts.length = len then (match elemsF H sz 0 parts with
    | some (es, H1) => some (.c (.fl es), H1)
    | none => none) else none
def appS (H : List Ob) (e sz by_ : Nat) : TV → TV → Option (TV × List Ob)
  | .c s, .c x => match frz H x with
      | some (.l ys, H1) => match s with
        | .nil => if ys.length * by_ ≤ 140737488355328 ∧ (∀ y ∈ ys, y.length = sz) then some (.c (.vs H1.length ys.length), H1 ++ [.row e ys false]) else none
        | .fl es => if (es ++ ys).length * by_ ≤ 140737488355328 ∧ (∀ y ∈ ys, y.length = sz) ∧ (∀ y ∈ es, y.length = sz) ∧ (es = [] ∨ ys ≠ []) then
            some (.c (.vs H1.length (es ++ ys).length), H1 ++ [.row e (es ++ ys) false]) else none
        | .vs k n => match H1[k]? with
          | some (.row ty es fz) => if es.length = n ∧ ty = e ∧ (n + ys.length) * by_ ≤ 140737488355328 ∧ (∀ y ∈ ys, y.length = sz) then
              some (.c (.vs k (n + ys.length)), H1.set k (.row ty (es ++ ys) fz)) else none
          | _ => none
        | _ => none
      | _ => none
  | _, _ => none
def lenS (H : List Ob) : TV → Option (TV × List Ob)
  | .c (.d (.s x)) => none
  | .c (.d (.m _ _)) => none
  | .c (.mp k) => none
  | .c c => match lenF H c with
    | some n => some (.c (.d (.i .i64 n)), H)
    | none => none
  | _ => none
def lenM (H : List Ob) : TV → Option (TV × List Ob)
  | .c (.d (.m ks vs)) => some (.c (.d (.i .i64 ks.length)), H)
  | .c (.mp k) => match lenF H (.mp k) with
    | some n => some (.c (.d (.i .i64 n)), H)
    | none => none
  | _ => none
def lenStr (H : List Ob) : TV → Option (TV × List Ob)
  | .c (.d (.s x)) => some (.c (.d (.i .i64 x.size)), H)
  | _ => none
def idxStr (H : List Ob) : TV → TV → Option (TV × List Ob)
  | .c (.d (.s x)), .c (.d (.i _ n)) => match byteF x n with
    | some v => some (.c (.d v), H)
    | none => none
  | _, _ => none
def binG (P : Program) (H : List Ob) (op : BinOp) (t : TypeId) : TV → TV → Option (TV × List Ob)
  | .c (.d a), .c (.d b) => match binF op a b with
    | some v => some (.c (.d v), H)
    | none => none
  | x, y => (binV P op t x y).map fun v => (v, H)
def unG (H : List Ob) (op : UnOp) : TV → Option (TV × List Ob)
  | .c (.d a) => match unF op a with
    | some v => some (.c (.d v), H)
    | none => none
  | _ => none
def bldG (H : List Ob) (pl : List (Nat × Nat)) (zs : List CV) (parts : List (Nat × TV)) : Option (TV × List Ob) := match fillF pl zs parts with
  | some xs => some (.g xs, H)
  | none => none

section
variable {K : Kn} {f : Nat → TV} {H : List Ob}
theorem F_move (x : Operand) : opF K.P K.gv f H (.move x) = some (ev K.gv f x, H) := rfl
theorem F_assign (x : Operand) : opF K.P K.gv f H (.assign x) = some (ev K.gv f x, H) := rfl
def pickG (H : List Ob) (c a b : TV) : Option (TV × List Ob) := match c with
  | .c (.d (.b x)) => some (if x then a else b, H)
  | _ => none
theorem F_pick (c a b : Operand) : opF K.P K.gv f H (.pick c a b) = pickG H (ev K.gv f c) (ev K.gv f a) (ev K.gv f b) := by
  simp only [opF]
  generalize ev K.gv f c = q
  cases q with
  | c p => cases p with
    | d z => cases z <;> rfl
    | _ => rfl
  | _ => rfl
theorem F_box (t : TypeId) (x : Operand) : opF K.P K.gv f H (.box t x) = boxF H t (ev K.gv f x) := rfl
theorem F_bin (op : BinOp) (t u : TypeId) (x y : Operand) : opF K.P K.gv f H (.binOp op t x y u) = binG K.P H op t (ev K.gv f x) (ev K.gv f y) := by
  simp only [opF]
  generalize ev K.gv f x = q
  generalize ev K.gv f y = r
  unfold binG
  split
  · simp only [binV]
    rename_i a b
    cases binF op a b <;> rfl
  · rfl
theorem F_makeMap (t : TypeId) : opF K.P K.gv f H (.makeMap t none) = some (.c (.mp H.length), H ++ [.mp [] false]) := rfl
theorem F_lookup (t : TypeId) (x i : Operand) (ok : Bool) : opF K.P K.gv f H (.lookup t x i ok) = (lookupF K.P H t ok (ev K.gv f x) (ev K.gv f i)).map fun v => (v, H) := rfl
theorem F_mapUpdate (t : TypeId) (x i y : Operand) : opF K.P K.gv f H (.mapUpdate t x i y) = (mapUpF K.P H t (ev K.gv f y) (ev K.gv f x) (ev K.gv f i)).map fun H' => (.c .any, H') := rfl
theorem F_un (op : UnOp) (t : TypeId) (x : Operand) : opF K.P K.gv f H (.unOp op t x) = unG H op (ev K.gv f x) := by
  simp only [opF]
  generalize ev K.gv f x = q
  cases q with
  | c p => cases p with
    | d a => simp only [unG]; cases unF op a <;> rfl
    | _ => rfl
  | _ => rfl
def nilG (H : List Ob) : TV → Option (TV × List Ob)
  | .c (.ref k o) => some (.c (.ref k o), H)
  | .c (.ep cs o) => some (.c (.ep cs o), H)
  | .c (.fn f cap) => some (.c (.fn f cap), H)
  | _ => none
theorem F_nilCheck (x : Operand) : opF K.P K.gv f H (.nilCheck x) = nilG H (ev K.gv f x) := by
  simp only [opF]
  generalize ev K.gv f x = q
  cases q with
  | c p => cases p <;> rfl
  | _ => rfl
def extG (H : List Ob) (i : Nat) : TV → Option (TV × List Ob)
  | .t xs => match xs[i]? with
    | some v => some (v, H)
    | none => none
  | _ => none
theorem F_extract (x : Operand) (i : Nat) : opF K.P K.gv f H (.extract x i) = extG H i (ev K.gv f x) := by
  simp only [opF]
  generalize ev K.gv f x = q
  cases q with
  | t xs => simp only [extG]; cases xs[i]? <;> rfl
  | _ => rfl
def maxG (H : List Ob) : List TV → Option (TV × List Ob)
  | [.c (.d (.i k a)), .c (.d (.i k' b))] => if k = k' then some (.c (.d (.i k (if b > a then b else a))), H) else none
  | _ => none
theorem F_max (x y : Operand) (ts : Array TypeId) : opF K.P K.gv f H (.call ⟨.builtin .max, #[x, y], ts⟩) = maxG H [ev K.gv f x, ev K.gv f y] := by
  simp only [opF]
  generalize ev K.gv f x = q
  generalize ev K.gv f y = r
  cases q with
  | c p => cases p with
    | d a => cases a with
      | i k a => cases r with
        | c p => cases p with
          | d b => cases b <;> rfl
          | _ => rfl
        | _ => rfl
      | _ => rfl
    | _ => rfl
  | _ => rfl
def funG (H : List Ob) (g : FuncId) (xs : List TV) : Option (TV × List Ob) := match xs.mapM cOf with
  | some cs => some (.c (.fn g cs), H)
  | none => none
theorem F_makeFunc (g : FuncId) (xs : Array Operand) : opF K.P K.gv f H (.makeFunc (.func g) #[] xs) = funG H g (xs.toList.map (ev K.gv f)) := by
  simp only [opF, funG]
  simp only [List.size_toArray, List.length_nil, if_true]
  cases (List.mapM cOf (List.map (ev K.gv f) xs.toList)) <;> rfl

theorem F_loadA {t n : Nat} (hu : (K.P.underlying t).isSome = true) (ha : isAggT K.P t = true) (hs : szOf K.P t = n) (x : Operand) : opF K.P K.gv f H (.load t x) = loadA H n (ev K.gv f x) := by
  simp only [opF, hu, if_true]
  cases ev K.gv f x with
  | c p => simp only [loadF, ha, if_true, hs, loadA]; cases readAt H n p <;> rfl
  | _ => rfl
theorem F_load1 {t : Nat} (hu : (K.P.underlying t).isSome = true) (ha : isAggT K.P t = false) (x : Operand) : opF K.P K.gv f H (.load t x) = load1 H (ev K.gv f x) := by
  simp only [opF, hu, if_true]
  cases ev K.gv f x with
  | c p =>
    simp only [loadF, ha, Bool.false_eq_true, if_false, load1]
    cases readAt H 1 p with
    | none => rfl
    | some l => match l with
      | [] => rfl
      | [a] => rfl
      | _ :: _ :: _ => rfl
  | _ => rfl
theorem F_store {t n : Nat} (hs : szOf K.P t = n) (hn : 0 < n) (x y : Operand) : opF K.P K.gv f H (.store t x y) = storeN H n (ev K.gv f y) (ev K.gv f x) := by
  simp only [opF]
  cases ev K.gv f x with
  | c p =>
    simp only [storeF, storeN, hs]
    cases cellsT (ev K.gv f y) with
    | none => rfl
    | some xs =>
      by_cases h : xs.length = n
      · simp only [h, hn, and_self, if_true]; cases writeAt H xs p <;> rfl
      · simp only [h, false_and, if_false]; rfl
  | _ => rfl
theorem F_faddr {t j off : Nat} {fs : Array Field} (hu : K.P.underlying t = some (.struct fs)) (h : (fs[j]?).map (fun fd => (fd.offset, decide (szOf K.P fd.type = 0))) = some (off, false)) (x : Operand) :
    opF K.P K.gv f H (.fieldAddr t x j) = faddr H off (ev K.gv f x) := by
  simp only [opF]
  cases ev K.gv f x with
  | c p =>
    simp only [fieldF, hu, faddr]
    cases hj : fs[j]? with
    | none => simp [hj] at h
    | some fd =>
      simp only [hj, Option.map_some, Option.some.injEq, Prod.mk.injEq, decide_eq_false_iff_not] at h
      simp only [h.2, if_false, h.1]
      cases addP H off p <;> rfl
  | _ => rfl
theorem F_alloc {t : Nat} {z : Value} {zs : List CV} (h : (K.P.info? t).bind (·.zero) = some z) (h1 : z.cells.all (·.oneCell') = true) (hz : z.cells.toList.map ofV = zs) :
    opF K.P K.gv f H (.alloc t) = some (.c (.ref H.length 0), H ++ [.box t zs]) := by
  simp only [opF, allocF, h, h1, if_true, hz]
theorem F_build {t : Nat} {z : Value} {zs : List CV} {fs : Array Field} {pl : List (Nat × Nat)} (h : (K.P.info? t).bind (·.zero) = some z) (hu : K.P.underlying t = some (.struct fs)) (hp : placesF K.P fs.toList = some pl)
    (hz : z.cells.toList.map ofV = zs) (ps : Array (Nat × Operand)) : opF K.P K.gv f H (.build t ps) = bldG H pl zs (evParts K.gv f ps.toList) := by
  simp only [opF, buildF, h, hu, hp, hz, bldG]
  cases fillF pl zs (evParts K.gv f ps.toList) <;> rfl
theorem F_buildSlice {t e sz : Nat} (hu : K.P.underlying t = some (.slice e)) (hk : elemOk K.P e = true) (hs : szOf K.P e = sz) (n : Nat) (ps : Array (Nat × Operand)) :
    opF K.P K.gv f H (.buildSlice t n ps) = bldS H sz n (evParts K.gv f ps.toList) := by
  simp only [opF, buildSliceF, hu, hk, hs, true_and, bldS]
  by_cases h : n * sz ≤ 16777216 ∧ (evParts K.gv f ps.toList).length = n
  · rw [if_pos h, if_pos h]
    rcases elemsF H sz 0 (evParts K.gv f ps.toList) with _ | ⟨es, H1⟩ <;> rfl
  · rw [if_neg h, if_neg h]
theorem F_index {t e sz : Nat} (hu : K.P.underlying t = some (.slice e)) (hs : szOf K.P e = sz) (hn : 0 < sz) (x y : Operand) : opF K.P K.gv f H (.indexAddr t x y) = idxS H e sz (ev K.gv f x) (ev K.gv f y) := by
  simp only [opF]
  generalize ev K.gv f x = a
  generalize ev K.gv f y = b
  cases a with
  | c p => cases b with
    | c q => cases q with
      | d y => cases y with
        | i k n =>
          simp only [indexF, hu, hs, hn, and_true, idxS]
          by_cases h0 : 0 ≤ n
          · simp only [h0, if_true]
            cases p with
            | d z => cases z with
              | l es =>
                simp only
                cases es[n.toNat]? with
                | none => rfl
                | some c => by_cases hc : c.length = sz <;> simp [hc]
              | _ => rfl
            | fl es =>
              simp only
              cases es[n.toNat]? with
              | none => rfl
              | some c => by_cases hc : c.length = sz <;> simp [hc]
            | vs k' m =>
              simp only
              cases H[k']? with
              | none => rfl
              | some o => cases o with
                | row ty es fz => by_cases hc : es.length = m ∧ n.toNat < m ∧ ty = e <;> simp [hc]
                | _ => rfl
            | _ => rfl
          · simp only [h0, if_false]; rfl
        | _ => rfl
      | _ => rfl
    | _ => rfl
  | _ => rfl
theorem F_append {t e sz by_ : Nat} (hu : K.P.underlying t = some (.slice e)) (hk : elemOk K.P e = true) (hs : szOf K.P e = sz) (hb : bytesT K.P e = by_) (x y : Operand) :
    opF K.P K.gv f H (.call ⟨.builtin .append, #[x, y], #[t, t]⟩) = appS H e sz by_ (ev K.gv f x) (ev K.gv f y) := by
  simp only [opF, if_true]
  generalize ev K.gv f x = a
  generalize ev K.gv f y = b
  cases a with
  | c s => cases b with
    | c q =>
      simp only [appendF, hu, hk, if_true, hs, hb, appS]
      rcases frz H q with _ | ⟨d, H1⟩
      · rfl
      · cases d with
        | l ys => cases s with
          | vs k n =>
            simp only
            rcases H1[k]? with _ | o
            · rfl
            · cases o <;> rfl
          | _ => rfl
        | _ => rfl
    | _ => rfl
  | _ => rfl
theorem F_lenS {t e : Nat} (hu : K.P.underlying t = some (.slice e)) (x : Operand) : opF K.P K.gv f H (.call ⟨.builtin .len, #[x], #[t]⟩) = lenS H (ev K.gv f x) := by
  simp only [opF]
  cases ev K.gv f x with
  | c p =>
    simp only [lenS]
    have key : ∀ c, lenTy K.P t c = true → (lenOp K.P H t c).map (fun n => ((.c (.d (.i .i64 n)), H) : TV × List Ob)) = match lenF H c with | some n => some (.c (.d (.i .i64 n)), H) | none => none := by
      intro c hc
      simp only [lenOp, hc, if_true]
      cases lenF H c <;> rfl
    have neg : ∀ c, lenTy K.P t c = false → (lenOp K.P H t c).map (fun n => ((.c (.d (.i .i64 n)), H) : TV × List Ob)) = none := by
      intro c hc
      simp only [lenOp, hc, Bool.false_eq_true, if_false]; rfl
    cases p with
    | d z => cases z with
      | l es => exact key _ (by simp [lenTy, hu])
      | s x => exact neg _ (by simp [lenTy, hu])
      | m ks vs => exact neg _ (by simp [lenTy, hu])
      | b x => rw [neg _ (by simp [lenTy, hu])]; rfl
      | i k n => rw [neg _ (by simp [lenTy, hu])]; rfl
    | nil => exact key _ (by simp [lenTy, hu])
    | fl es => exact key _ (by simp [lenTy, hu])
    | vs k n => exact key _ (by simp [lenTy, hu])
    | mp k => exact neg _ (by simp [lenTy, hu])
    | _ => rw [neg _ (by simp [lenTy, hu])]; rfl
  | _ => rfl
theorem F_lenM {t a b : Nat} (hu : K.P.underlying t = some (.map a b)) (x : Operand) : opF K.P K.gv f H (.call ⟨.builtin .len, #[x], #[t]⟩) = lenM H (ev K.gv f x) := by
  simp only [opF]
  cases ev K.gv f x with
  | c p =>
    cases p with
    | d z => cases z with
      | m ks vs => simp only [lenOp, lenTy, hu, if_true, lenF, lenM]; rfl
      | _ => simp only [lenOp, lenTy, hu, Bool.false_eq_true, if_false, lenM]; rfl
    | mp k => simp only [lenOp, lenTy, hu, if_true, lenM]; cases lenF H (.mp k) <;> rfl
    | _ => simp only [lenOp, lenTy, hu, Bool.false_eq_true, if_false, lenM]; rfl
  | _ => rfl
theorem F_lenStr {t : Nat} (hu : K.P.underlying t = some .string) (x : Operand) : opF K.P K.gv f H (.call ⟨.builtin .len, #[x], #[t]⟩) = lenStr H (ev K.gv f x) := by
  simp only [opF]
  cases ev K.gv f x with
  | c p =>
    cases p with
    | d z => cases z with
      | s x => simp only [lenOp, lenTy, hu, if_true, lenF, lenStr]; rfl
      | _ => simp only [lenOp, lenTy, hu, Bool.false_eq_true, if_false, lenStr]; rfl
    | _ => simp only [lenOp, lenTy, hu, Bool.false_eq_true, if_false, lenStr]; rfl
  | _ => rfl
theorem F_idxStr {t : Nat} (hu : K.P.underlying t = some .string) (x y : Operand) : opF K.P K.gv f H (.index t x y) = idxStr H (ev K.gv f x) (ev K.gv f y) := by
  simp only [opF]
  generalize ev K.gv f x = q
  generalize ev K.gv f y = r
  cases q with
  | c p => cases p with
    | d a => cases a with
      | s a => cases r with
        | c p => cases p with
          | d b => cases b with
            | i k n => simp only [hu, idxStr]; cases byteF a n <;> rfl
            | _ => rfl
          | _ => rfl
        | _ => rfl
      | _ => rfl
    | _ => rfl
  | _ => rfl
def kindOf (P : Program) (t : TypeId) : Option Nat := match P.underlying t with
  | some .bool => some 0
  | some (.int _) => some 1
  | some .string => some 2
  | _ => none
def fieldsL (P : Program) : List Field → Option (List (Nat × Nat))
  | [] => some []
  | f :: fs => if f.name = "_" then none else match kindOf P f.type, fieldsL P fs with
    | some k, some l => some ((f.offset, k) :: l)
    | _, _ => none
def eqL : List (Nat × Nat) → List CV → List CV → Option Bool
  | [], _, _ => some true
  | (o, k) :: l, xs, ys => match k, xs[o]?, ys[o]? with
    | 0, some (.d (.b a)), some (.d (.b b)) => (eqL l xs ys).map (decide (a = b) && ·)
    | 1, some (.d (.i q a)), some (.d (.i q' b)) => if q = q' then (eqL l xs ys).map (decide (a = b) && ·) else none
    | 2, some (.d (.s a)), some (.d (.s b)) => (eqL l xs ys).map (decide (a = b) && ·)
    | _, _, _ => none
theorem eqFs_L {P : Program} (xs ys : List CV) : ∀ (fs : List Field) (l : List (Nat × Nat)), fieldsL P fs = some l → eqFs P xs ys fs = eqL l xs ys
  | [], l, h => by simp only [fieldsL, Option.some.injEq] at h; subst h; rfl
  | f :: fs, l, h => by
    simp only [fieldsL] at h
    split at h
    · cases h
    · rename_i hn
      split at h
      · rename_i k l' hk hl
        simp only [Option.some.injEq] at h
        subst h
        have ih := eqFs_L xs ys fs l' hl
        simp only [eqFs, hn, if_false, eqL]
        unfold kindOf at hk
        generalize P.underlying f.type = u at hk ⊢
        generalize xs[f.offset]? = x
        generalize ys[f.offset]? = y
        cases u with
        | none => cases hk
        | some u =>
          cases u <;> simp only [Option.some.injEq, reduceCtorEq] at hk <;> subst hk <;>
            (rcases x with _ | x; · rfl) <;> (cases x with | d x => ?_ | _ => rfl) <;> (cases x with | _ => ?_) <;> first | rfl | (rcases y with _ | y; · rfl) <;> (cases y with | d y => ?_ | _ => rfl) <;> (cases y with | _ => ?_) <;> first | rfl | simp only [ih]
      · cases h
theorem F_eqS {P : Program} {t : TypeId} {fs : Array Field} {l : List (Nat × Nat)} (hu : P.underlying t = some (.struct fs)) (hg : (P.stoodInHeld t || P.eqGuardType P.depth t) = false) (hl : fieldsL P fs.toList = some l) (xs ys : List CV) : eqS P t xs ys = eqL l xs ys := by
  rw [Bool.or_eq_false_iff] at hg
  simp only [eqS, hu, hg, and_self, if_true]
  exact eqFs_L xs ys _ _ hl
theorem R_loadA {t n : Nat} (hu : (K.P.underlying t).isSome = true) (ha : isAggT K.P t = true) (hs : szOf K.P t = n) {s : St} (x : Nat) : resOne K.P s (.cell x t) = (loadA s.H n (s.tm x)).map (·.1) := by
  simp only [resOne, hu, if_true]
  cases s.tm x with
  | c p => simp only [loadF, ha, if_true, hs, loadA]; cases readAt s.H n p <;> rfl
  | _ => rfl
theorem R_load1 {t : Nat} (hu : (K.P.underlying t).isSome = true) (ha : isAggT K.P t = false) {s : St} (x : Nat) : resOne K.P s (.cell x t) = (load1 s.H (s.tm x)).map (·.1) := by
  simp only [resOne, hu, if_true]
  cases s.tm x with
  | c p =>
    simp only [loadF, ha, Bool.false_eq_true, if_false, load1]
    cases readAt s.H 1 p with
    | none => rfl
    | some l => match l with
      | [] => rfl
      | [a] => rfl
      | _ :: _ :: _ => rfl
  | _ => rfl
end
attribute [go_sem] goU_some goU_none eqOp emptyT nilT binV eqN eqL F_makeMap F_lookup F_mapUpdate W_move W_assign W_pick W_alloc W_box W_build W_buildSlice W_load W_store W_nilCheck W_binOp W_unOp W_convert W_makeFunc W_fieldAddr W_field W_indexAddr W_index W_slice W_extract W_makeMap W_makeSlice W_lookup W_mapUpdate W_len W_max W_append W_copy W_min D_move D_assign D_pick D_alloc D_box D_build D_buildSlice D_load D_store D_nilCheck D_binOp D_unOp D_convert D_makeFunc D_fieldAddr D_field D_indexAddr D_index D_slice D_extract D_makeMap D_makeSlice D_lookup D_mapUpdate D_len D_max D_append D_copy D_min W_nil W_guard W_call D_nil D_guard D_call goW_some goD_some goD_none goR_some goE_some putF_some putF_none upd_same rOk_nil rOk_none rOk_cons eOk_eq eHist_nil eHist_cons eRds_nil eRds_none eRds_cons app_get0 app_get app_set0 app_set thn_n thn_r thn_e inB_n inB_r inB_e ev_tmp ev_const ev_func ofK_i ofK_b ofK_nil ofK_s ofK_m ofK_f st0_eq
attribute [go_sem] F_move F_assign F_pick F_box F_bin F_un F_nilCheck F_extract F_max F_makeFunc
attribute [go_sem] loadA load1 storeN faddr idxS bldS appS lenS lenM lenStr idxStr binG unG bldG pickG nilG extG maxG funG readAt writeAt addP frz frzs frzArgs pureArgs okC boxF binF cmpF unF lenF elemsF fillF evParts datOf cOf
  rdOf rdP noVs gT_some guardV_b resT resOne upd_ne rOk_none
end Go.Proofs.Ythnnnnaifnddbaa
