/- The rules, one for each operation, as rewriting. -/
import Derived.Test.YthnnnnaifnddbaaD1
set_option linter.unusedVariables false
set_option linter.unusedSimpArgs false
namespace Go.Proofs.Ythnnnnaifnddbaa

def putF (f : Nat → TV) : Option Nat → TV → Nat → TV
  | some k, v => upd f k v
  | none, _ => f
theorem putF_some (f : Nat → TV) (k : Nat) (v : TV) : putF f (some k) v = upd f k v := rfl
theorem putF_none (f : Nat → TV) (v : TV) : putF f none v = f := rfl
theorem upd_same (f : Nat → TV) (k : Nat) (v : TV) : upd f k v k = v := by simp [upd]
theorem upd_ne (f : Nat → TV) (k i : Nat) (v : TV) (h : i ≠ k) : upd f k v i = f i := by simp [upd, h]
theorem put_eq (f : Nat → TV) (H : List Ob) (n : Nat) (d : Option Nat) (v : TV) : (⟨f, H, n⟩ : St).put d v = ⟨putF f d v, H, n⟩ := by cases d <;> rfl

def goW (K : Kn) (all : Array Oper) (r : List Oper) (d : Option Nat) (f : Nat → TV) (n : Nat) (Q : St → Prop) : Option (TV × List Ob) → Prop
  | some x => opsW K all r ⟨putF f d x.1, x.2, n⟩ Q
  | none => False
theorem goW_some (K : Kn) (all : Array Oper) (r : List Oper) (d : Option Nat) (f : Nat → TV) (n : Nat) (Q : St → Prop) (v : TV) (H : List Ob) : goW K all r d f n Q (some (v, H)) = opsW K all r ⟨putF f d v, H, n⟩ Q := rfl
def callW (K : Kn) (g : TV) (as : List TV) (H : List Ob) (Q : TV → List Ob → Prop) : Prop := match g with
  | .c (.fn g caps) => FunC K g (frzArgs H (as ++ caps.map .c)).1 (frzArgs H (as ++ caps.map .c)).2 Q ∨ FunC K g (as ++ caps.map .c) H Q
  | _ => False
/-- A call of a function that leaves the objects alone. -/
theorem callW_pure {K : Kn} {g : FuncId} {caps : List CV} {as ts : List TV} {H : List Ob} {Q : TV → List Ob → Prop} {v : TV} (h : PureC K g ts v) (hp : frzArgs H (as ++ caps.map .c) = (ts, H)) (hq : Q v H) : callW K (.c (.fn g caps)) as H Q := by
  refine .inl ?_
  rw [hp]
  refine (h H).mono ?_
  rintro t H' ⟨rfl, rfl⟩
  exact hq
theorem callW_frz {K : Kn} {g : FuncId} {caps : List CV} {as ts : List TV} {H H1 : List Ob} {Q : TV → List Ob → Prop} (hp : frzArgs H (as ++ caps.map .c) = (ts, H1)) (h : FunC K g ts H1 Q) : callW K (.c (.fn g caps)) as H Q := by
  refine .inl ?_
  rw [hp]
  exact h
theorem callW_raw {K : Kn} {g : FuncId} {caps : List CV} {as : List TV} {H : List Ob} {Q : TV → List Ob → Prop} (h : FunC K g (as ++ caps.map .c) H Q) : callW K (.c (.fn g caps)) as H Q := .inr h

def gT (d : Option Nat) (f : Nat → TV) : TV := match d with
  | some t => f t
  | none => .t []
def guardV (v : TV) (b : Bool) (x y : Prop) : Prop := match v with
  | .c (.d (.b q)) => if q = b then x else y
  | _ => False
theorem gT_some (t : Nat) (f : Nat → TV) : gT (some t) f = f t := rfl
theorem guardV_b (q b : Bool) (x y : Prop) : guardV (.c (.d (.b q))) b x y = if q = b then x else y := rfl
@[congr] theorem guardV_congr {v v' : TV} (h : v = v') (b : Bool) (x y : Prop) : guardV v b x y = guardV v' b x y := by rw [h]
theorem guardV_eq (d : Option Nat) (f : Nat → TV) (b : Bool) (x y : Prop) : (match d with
    | none => False
    | some t => match f t with
      | .c (.d (.b q)) => (q = b → x) ∧ (q = !b → y)
      | _ => False) = guardV (gT d f) b x y := by
  cases d with
  | none => rfl
  | some t =>
    simp only [gT]
    generalize f t = v
    unfold guardV
    cases v with
    | c p => cases p with
      | d z => cases z with
        | b q => cases q <;> cases b <;> simp
        | _ => rfl
      | _ => rfl
    | _ => rfl

theorem stepW_other (K : Kn) (tm : Nat → TV) (H : List Ob) (o : Oper) (Q : TV → List Ob → Prop) (h : ∀ g as ts, o.op ≠ .call ⟨.value g, as, ts⟩) :
    stepW K tm H o Q = match opF K.P K.gv tm H o.op with | some r => Q r.1 r.2 | none => unkF K.P K.gv tm o.op = true ∧ ∀ b, Q (.c (.d (.b b))) H := by
  unfold stepW
  split
  · rename_i heq; exact absurd heq (h _ _ _)
  · rfl
theorem drawO_other (K : Kn) (all : Array Oper) (i : Nat) (o : Oper) (s : St) (hist : Hist) (rds : Rds) (next : TV → List Ob → Hist → Rds → Prop) (h : ∀ g as ts, o.op ≠ .call ⟨.value g, as, ts⟩) :
    drawO K all i o s hist rds next = match rdOf K.gv s.tm o.op with
      | some rd => match opF K.P K.gv s.tm s.H o.op with
        | some r => rOk all i rd s.H hist ∧ next r.1 s.H hist ((i, rd) :: rds)
        | none => False
      | none => match opF K.P K.gv s.tm s.H o.op with
        | some r => eOk all i s.H r.2 hist rds ∧ next r.1 r.2 ((i, s.H) :: hist) rds
        | none => False := by
  unfold drawO
  split
  · rename_i heq; exact absurd heq (h _ _ _)
  · rfl
section
variable (K : Kn) (all : Array Oper) (r : List Oper) (d : Option Nat) (f : Nat → TV) (H : List Ob) (n : Nat) (Q : St → Prop) (ty : TypeId) (pos : String) (af : Array Edge)
theorem W_nil : opsW K all [] ⟨f, H, n⟩ Q = Q ⟨f, H, n⟩ := rfl
theorem W_guard (op : Op) (j : Nat) (b : Bool) : opsW K all (⟨d, op, ty, pos, af, some (j, b)⟩ :: r) ⟨f, H, n⟩ Q =
    guardV (gT (dstOf all j) f) b (opsW K all (⟨d, op, ty, pos, af, none⟩ :: r) ⟨f, H, n⟩ Q) (opsW K all r ⟨putF f d (.c .any), H, n⟩ Q) := by
  simp only [opsW, put_eq]
  exact guardV_eq _ _ _ _ _
theorem opsW_op (op : Op) (h : (∀ g as ts, op ≠ .call ⟨.value g, as, ts⟩) ∧ unkF K.P K.gv f op = false) : opsW K all (⟨d, op, ty, pos, af, none⟩ :: r) ⟨f, H, n⟩ Q = goW K all r d f n Q (opF K.P K.gv f H op) := by
  simp only [opsW]
  rw [stepW_other _ _ _ _ _ h.1]
  cases opF K.P K.gv f H op with
  | none => simp only [h.2, Bool.false_eq_true, false_and]; rfl
  | some x => simp only [put_eq]; rfl
def goU (K : Kn) (all : Array Oper) (r : List Oper) (d : Option Nat) (f : Nat → TV) (H : List Ob) (n : Nat) (Q : St → Prop) (u : Bool) (o : Option (TV × List Ob)) : Prop := match o with
  | some x => goW K all r d f n Q (some x)
  | none => u = true ∧ ∀ b, opsW K all r ⟨putF f d (.c (.d (.b b))), H, n⟩ Q
theorem goU_some (u : Bool) (x : TV × List Ob) : goU K all r d f H n Q u (some x) = goW K all r d f n Q (some x) := rfl
theorem goU_none (u : Bool) : goU K all r d f H n Q u none = (u = true ∧ ∀ b, opsW K all r ⟨putF f d (.c (.d (.b b))), H, n⟩ Q) := rfl
theorem W_call (g : Operand) (as : Array Operand) (ts : Array TypeId) : opsW K all (⟨d, .call ⟨.value g, as, ts⟩, ty, pos, af, none⟩ :: r) ⟨f, H, n⟩ Q =
    callW K (ev K.gv f g) (as.toList.map (ev K.gv f)) H fun v H' => opsW K all r ⟨putF f d v, H', n⟩ Q := by
  simp only [opsW, stepW, callW, put_eq]
  rfl
theorem W_move (x : Operand) : opsW K all (⟨d, .move x, ty, pos, af, none⟩ :: r) ⟨f, H, n⟩ Q = goW K all r d f n Q (opF K.P K.gv f H (.move x)) := opsW_op _ _ _ _ _ _ _ _ _ _ _ _ ⟨by simp, rfl⟩
theorem W_assign (x : Operand) : opsW K all (⟨d, .assign x, ty, pos, af, none⟩ :: r) ⟨f, H, n⟩ Q = goW K all r d f n Q (opF K.P K.gv f H (.assign x)) := opsW_op _ _ _ _ _ _ _ _ _ _ _ _ ⟨by simp, rfl⟩
theorem W_pick (c x y : Operand) : opsW K all (⟨d, .pick c x y, ty, pos, af, none⟩ :: r) ⟨f, H, n⟩ Q = goW K all r d f n Q (opF K.P K.gv f H (.pick c x y)) := opsW_op _ _ _ _ _ _ _ _ _ _ _ _ ⟨by simp, rfl⟩
theorem W_alloc (t : TypeId) : opsW K all (⟨d, .alloc t, ty, pos, af, none⟩ :: r) ⟨f, H, n⟩ Q = goW K all r d f n Q (opF K.P K.gv f H (.alloc t)) := opsW_op _ _ _ _ _ _ _ _ _ _ _ _ ⟨by simp, rfl⟩
theorem W_box (t : TypeId) (x : Operand) : opsW K all (⟨d, .box t x, ty, pos, af, none⟩ :: r) ⟨f, H, n⟩ Q = goW K all r d f n Q (opF K.P K.gv f H (.box t x)) := opsW_op _ _ _ _ _ _ _ _ _ _ _ _ ⟨by simp, rfl⟩
theorem W_build (t : TypeId) (ps : Array (Nat × Operand)) : opsW K all (⟨d, .build t ps, ty, pos, af, none⟩ :: r) ⟨f, H, n⟩ Q = goW K all r d f n Q (opF K.P K.gv f H (.build t ps)) := opsW_op _ _ _ _ _ _ _ _ _ _ _ _ ⟨by simp, rfl⟩
theorem W_buildSlice (t m : Nat) (ps : Array (Nat × Operand)) : opsW K all (⟨d, .buildSlice t m ps, ty, pos, af, none⟩ :: r) ⟨f, H, n⟩ Q = goW K all r d f n Q (opF K.P K.gv f H (.buildSlice t m ps)) := opsW_op _ _ _ _ _ _ _ _ _ _ _ _ ⟨by simp, rfl⟩
theorem W_load (t : TypeId) (x : Operand) : opsW K all (⟨d, .load t x, ty, pos, af, none⟩ :: r) ⟨f, H, n⟩ Q = goW K all r d f n Q (opF K.P K.gv f H (.load t x)) := opsW_op _ _ _ _ _ _ _ _ _ _ _ _ ⟨by simp, rfl⟩
theorem W_store (t : TypeId) (x y : Operand) : opsW K all (⟨d, .store t x y, ty, pos, af, none⟩ :: r) ⟨f, H, n⟩ Q = goW K all r d f n Q (opF K.P K.gv f H (.store t x y)) := opsW_op _ _ _ _ _ _ _ _ _ _ _ _ ⟨by simp, rfl⟩
theorem W_nilCheck (x : Operand) : opsW K all (⟨d, .nilCheck x, ty, pos, af, none⟩ :: r) ⟨f, H, n⟩ Q = goW K all r d f n Q (opF K.P K.gv f H (.nilCheck x)) := opsW_op _ _ _ _ _ _ _ _ _ _ _ _ ⟨by simp, rfl⟩
theorem W_binOp (op : BinOp) (t : TypeId) (x y : Operand) (u : TypeId) : opsW K all (⟨d, .binOp op t x y u, ty, pos, af, none⟩ :: r) ⟨f, H, n⟩ Q =
    goU K all r d f H n Q (eqOp op && isSlT K.P t && emptyT (ev K.gv f x) && nilT (ev K.gv f y)) (opF K.P K.gv f H (.binOp op t x y u)) := by
  simp only [opsW]
  rw [stepW_other _ _ _ _ _ (by simp)]
  cases opF K.P K.gv f H (.binOp op t x y u) with
  | none => simp only [put_eq]; rfl
  | some x => simp only [put_eq]; rfl
theorem W_unOp (op : UnOp) (t : TypeId) (x : Operand) : opsW K all (⟨d, .unOp op t x, ty, pos, af, none⟩ :: r) ⟨f, H, n⟩ Q = goW K all r d f n Q (opF K.P K.gv f H (.unOp op t x)) := opsW_op _ _ _ _ _ _ _ _ _ _ _ _ ⟨by simp, rfl⟩
theorem W_convert (t u : TypeId) (x : Operand) : opsW K all (⟨d, .convert t u x, ty, pos, af, none⟩ :: r) ⟨f, H, n⟩ Q = goW K all r d f n Q (opF K.P K.gv f H (.convert t u x)) := opsW_op _ _ _ _ _ _ _ _ _ _ _ _ ⟨by simp, rfl⟩
theorem W_makeFunc (fn : Fn) (xs ys : Array Operand) : opsW K all (⟨d, .makeFunc fn xs ys, ty, pos, af, none⟩ :: r) ⟨f, H, n⟩ Q = goW K all r d f n Q (opF K.P K.gv f H (.makeFunc fn xs ys)) := opsW_op _ _ _ _ _ _ _ _ _ _ _ _ ⟨by simp, rfl⟩
theorem W_fieldAddr (t : TypeId) (x : Operand) (j : Nat) : opsW K all (⟨d, .fieldAddr t x j, ty, pos, af, none⟩ :: r) ⟨f, H, n⟩ Q = goW K all r d f n Q (opF K.P K.gv f H (.fieldAddr t x j)) := opsW_op _ _ _ _ _ _ _ _ _ _ _ _ ⟨by simp, rfl⟩
theorem W_field (t : TypeId) (x : Operand) (j : Nat) : opsW K all (⟨d, .field t x j, ty, pos, af, none⟩ :: r) ⟨f, H, n⟩ Q = goW K all r d f n Q (opF K.P K.gv f H (.field t x j)) := opsW_op _ _ _ _ _ _ _ _ _ _ _ _ ⟨by simp, rfl⟩
theorem W_indexAddr (t : TypeId) (x y : Operand) : opsW K all (⟨d, .indexAddr t x y, ty, pos, af, none⟩ :: r) ⟨f, H, n⟩ Q = goW K all r d f n Q (opF K.P K.gv f H (.indexAddr t x y)) := opsW_op _ _ _ _ _ _ _ _ _ _ _ _ ⟨by simp, rfl⟩
theorem W_index (t : TypeId) (x y : Operand) : opsW K all (⟨d, .index t x y, ty, pos, af, none⟩ :: r) ⟨f, H, n⟩ Q = goW K all r d f n Q (opF K.P K.gv f H (.index t x y)) := opsW_op _ _ _ _ _ _ _ _ _ _ _ _ ⟨by simp, rfl⟩
theorem W_slice (t : TypeId) (x : Operand) (lo hi mx : Option Operand) : opsW K all (⟨d, .slice t x lo hi mx, ty, pos, af, none⟩ :: r) ⟨f, H, n⟩ Q = goW K all r d f n Q (opF K.P K.gv f H (.slice t x lo hi mx)) := opsW_op _ _ _ _ _ _ _ _ _ _ _ _ ⟨by simp, rfl⟩
theorem W_extract (x : Operand) (j : Nat) : opsW K all (⟨d, .extract x j, ty, pos, af, none⟩ :: r) ⟨f, H, n⟩ Q = goW K all r d f n Q (opF K.P K.gv f H (.extract x j)) := opsW_op _ _ _ _ _ _ _ _ _ _ _ _ ⟨by simp, rfl⟩
theorem W_makeMap (t : TypeId) (x : Option Operand) : opsW K all (⟨d, .makeMap t x, ty, pos, af, none⟩ :: r) ⟨f, H, n⟩ Q = goW K all r d f n Q (opF K.P K.gv f H (.makeMap t x)) := opsW_op _ _ _ _ _ _ _ _ _ _ _ _ ⟨by simp, rfl⟩
theorem W_makeSlice (t : TypeId) (x y : Operand) : opsW K all (⟨d, .makeSlice t x y, ty, pos, af, none⟩ :: r) ⟨f, H, n⟩ Q = goW K all r d f n Q (opF K.P K.gv f H (.makeSlice t x y)) := opsW_op _ _ _ _ _ _ _ _ _ _ _ _ ⟨by simp, rfl⟩
theorem W_lookup (t : TypeId) (x y : Operand) (ok : Bool) : opsW K all (⟨d, .lookup t x y ok, ty, pos, af, none⟩ :: r) ⟨f, H, n⟩ Q = goW K all r d f n Q (opF K.P K.gv f H (.lookup t x y ok)) := opsW_op _ _ _ _ _ _ _ _ _ _ _ _ ⟨by simp, rfl⟩
theorem W_mapUpdate (t : TypeId) (x y z : Operand) : opsW K all (⟨d, .mapUpdate t x y z, ty, pos, af, none⟩ :: r) ⟨f, H, n⟩ Q = goW K all r d f n Q (opF K.P K.gv f H (.mapUpdate t x y z)) := opsW_op _ _ _ _ _ _ _ _ _ _ _ _ ⟨by simp, rfl⟩
theorem W_len (as : Array Operand) (ts : Array TypeId) : opsW K all (⟨d, .call ⟨.builtin .len, as, ts⟩, ty, pos, af, none⟩ :: r) ⟨f, H, n⟩ Q = goW K all r d f n Q (opF K.P K.gv f H (.call ⟨.builtin .len, as, ts⟩)) := opsW_op _ _ _ _ _ _ _ _ _ _ _ _ ⟨by simp, rfl⟩
theorem W_max (as : Array Operand) (ts : Array TypeId) : opsW K all (⟨d, .call ⟨.builtin .max, as, ts⟩, ty, pos, af, none⟩ :: r) ⟨f, H, n⟩ Q = goW K all r d f n Q (opF K.P K.gv f H (.call ⟨.builtin .max, as, ts⟩)) := opsW_op _ _ _ _ _ _ _ _ _ _ _ _ ⟨by simp, rfl⟩
theorem W_append (as : Array Operand) (ts : Array TypeId) : opsW K all (⟨d, .call ⟨.builtin .append, as, ts⟩, ty, pos, af, none⟩ :: r) ⟨f, H, n⟩ Q = goW K all r d f n Q (opF K.P K.gv f H (.call ⟨.builtin .append, as, ts⟩)) := opsW_op _ _ _ _ _ _ _ _ _ _ _ _ ⟨by simp, rfl⟩
theorem W_copy (as : Array Operand) (ts : Array TypeId) : opsW K all (⟨d, .call ⟨.builtin .copy, as, ts⟩, ty, pos, af, none⟩ :: r) ⟨f, H, n⟩ Q = goW K all r d f n Q (opF K.P K.gv f H (.call ⟨.builtin .copy, as, ts⟩)) := opsW_op _ _ _ _ _ _ _ _ _ _ _ _ ⟨by simp, rfl⟩
theorem W_min (as : Array Operand) (ts : Array TypeId) : opsW K all (⟨d, .call ⟨.builtin .min, as, ts⟩, ty, pos, af, none⟩ :: r) ⟨f, H, n⟩ Q = goW K all r d f n Q (opF K.P K.gv f H (.call ⟨.builtin .min, as, ts⟩)) := opsW_op _ _ _ _ _ _ _ _ _ _ _ _ ⟨by simp, rfl⟩
end

def callD (K : Kn) (all : Array Oper) (i : Nat) (g : TV) (as : List TV) (H : List Ob) (hist : Hist) (rds : Rds) (next : TV → List Ob → Hist → Rds → Prop) : Prop := match g with
  | .c (.fn g caps) => match pureArgs (as ++ caps.map .c) with
    | some ts => (∃ v, PureC K g ts v ∧ next v H hist ((i, []) :: rds)) ∨ ∃ v H', FunC K g ts H (fun t H'' => t = v ∧ H'' = H') ∧ eOk all i H H' hist rds ∧ next v H' ((i, H) :: hist) rds
    | none => False
  | _ => False
theorem callD_pure {K : Kn} {all : Array Oper} {i : Nat} {g : FuncId} {caps : List CV} {as ts : List TV} {H : List Ob} {hist : Hist} {rds : Rds} {next : TV → List Ob → Hist → Rds → Prop} {v : TV} (h : PureC K g ts v)
    (hp : pureArgs (as ++ caps.map .c) = some ts) (hq : next v H hist ((i, []) :: rds)) : callD K all i (.c (.fn g caps)) as H hist rds next := by
  simp only [callD, hp]
  exact .inl ⟨v, h, hq⟩
theorem callD_eff {K : Kn} {all : Array Oper} {i : Nat} {g : FuncId} {caps : List CV} {as ts : List TV} {H H' : List Ob} {hist : Hist} {rds : Rds} {next : TV → List Ob → Hist → Rds → Prop} {v : TV}
    (h : FunC K g ts H fun t H'' => t = v ∧ H'' = H')
    (hp : pureArgs (as ++ caps.map .c) = some ts) (he : eOk all i H H' hist rds) (hq : next v H' ((i, H) :: hist) rds) : callD K all i (.c (.fn g caps)) as H hist rds next := by
  simp only [callD, hp]
  exact .inr ⟨v, H', h, he, hq⟩
def goR (K : Kn) (all : Array Oper) (r : List Oper) (i : Nat) (d : Option Nat) (f : Nat → TV) (H : List Ob) (n : Nat) (hist : Hist) (rds : Rds) (Q : St → Prop) (rd : List Nat) : Option (TV × List Ob) → Prop
  | some x => rOk all i rd H hist ∧ drawS K all r (i + 1) ⟨putF f d x.1, H, n⟩ hist ((i, rd) :: rds) Q
  | none => False
theorem goR_some (K : Kn) (all : Array Oper) (r : List Oper) (i : Nat) (d : Option Nat) (f : Nat → TV) (H : List Ob) (n : Nat) (hist : Hist) (rds : Rds) (Q : St → Prop) (rd : List Nat) (v : TV) (H' : List Ob) :
    goR K all r i d f H n hist rds Q rd (some (v, H')) = (rOk all i rd H hist ∧ drawS K all r (i + 1) ⟨putF f d v, H, n⟩ hist ((i, rd) :: rds) Q) := rfl
def goE (K : Kn) (all : Array Oper) (r : List Oper) (i : Nat) (d : Option Nat) (f : Nat → TV) (H : List Ob) (n : Nat) (hist : Hist) (rds : Rds) (Q : St → Prop) : Option (TV × List Ob) → Prop
  | some x => eOk all i H x.2 hist rds ∧ drawS K all r (i + 1) ⟨putF f d x.1, x.2, n⟩ ((i, H) :: hist) rds Q
  | none => False
theorem goE_some (K : Kn) (all : Array Oper) (r : List Oper) (i : Nat) (d : Option Nat) (f : Nat → TV) (H : List Ob) (n : Nat) (hist : Hist) (rds : Rds) (Q : St → Prop) (v : TV) (H' : List Ob) :
    goE K all r i d f H n hist rds Q (some (v, H')) = (eOk all i H H' hist rds ∧ drawS K all r (i + 1) ⟨putF f d v, H', n⟩ ((i, H) :: hist) rds Q) := rfl
def goD (K : Kn) (all : Array Oper) (r : List Oper) (i : Nat) (d : Option Nat) (f : Nat → TV) (H : List Ob) (n : Nat) (hist : Hist) (rds : Rds) (Q : St → Prop) (op : Op) : Option (List Nat) → Prop
  | some rd => goR K all r i d f H n hist rds Q rd (opF K.P K.gv f H op)
  | none => goE K all r i d f H n hist rds Q (opF K.P K.gv f H op)
theorem goD_some (K : Kn) (all : Array Oper) (r : List Oper) (i : Nat) (d : Option Nat) (f : Nat → TV) (H : List Ob) (n : Nat) (hist : Hist) (rds : Rds) (Q : St → Prop) (op : Op) (rd : List Nat) :
    goD K all r i d f H n hist rds Q op (some rd) = goR K all r i d f H n hist rds Q rd (opF K.P K.gv f H op) := rfl
theorem goD_none (K : Kn) (all : Array Oper) (r : List Oper) (i : Nat) (d : Option Nat) (f : Nat → TV) (H : List Ob) (n : Nat) (hist : Hist) (rds : Rds) (Q : St → Prop) (op : Op) :
    goD K all r i d f H n hist rds Q op none = goE K all r i d f H n hist rds Q (opF K.P K.gv f H op) := rfl
theorem rOk_nil (all : Array Oper) (i : Nat) (rd : List Nat) (H : List Ob) : rOk all i rd H [] = True := by simp [rOk]
theorem rOk_none (all : Array Oper) (i : Nat) (H : List Ob) (hist : Hist) : rOk all i [] H hist = True := by simp [rOk]
theorem rOk_cons (all : Array Oper) (i : Nat) (rd : List Nat) (H : List Ob) (x : Nat × List Ob) (hist : Hist) : rOk all i rd H (x :: hist) = (((∀ k ∈ rd, x.2[k]? = H[k]?) ∨ bf all x.1 i = true) ∧ rOk all i rd H hist) := by simp [rOk]
def eRds (all : Array Oper) (i : Nat) (H H' : List Ob) (rds : Rds) : Prop := ∀ x ∈ rds, (∀ k ∈ x.2, H'[k]? = H[k]?) ∨ bf all x.1 i = true
def eHist (all : Array Oper) (i : Nat) (hist : Hist) : Prop := ∀ x ∈ hist, bf all x.1 i = true
theorem eOk_eq (all : Array Oper) (i : Nat) (H H' : List Ob) (hist : Hist) (rds : Rds) : eOk all i H H' hist rds = (eHist all i hist ∧ eRds all i H H' rds) := rfl
theorem eHist_nil (all : Array Oper) (i : Nat) : eHist all i [] = True := by simp [eHist]
theorem eHist_cons (all : Array Oper) (i : Nat) (x : Nat × List Ob) (hist : Hist) : eHist all i (x :: hist) = (bf all x.1 i = true ∧ eHist all i hist) := by simp [eHist]
theorem eRds_nil (all : Array Oper) (i : Nat) (H H' : List Ob) : eRds all i H H' [] = True := by simp [eRds]
theorem eRds_none (all : Array Oper) (i : Nat) (H H' : List Ob) (j : Nat) (rds : Rds) : eRds all i H H' ((j, []) :: rds) = eRds all i H H' rds := by simp [eRds]
theorem eRds_cons (all : Array Oper) (i : Nat) (H H' : List Ob) (j : Nat) (k : Nat) (ks : List Nat) (rds : Rds) : eRds all i H H' ((j, k :: ks) :: rds) = (((∀ q ∈ k :: ks, H'[q]? = H[q]?) ∨ bf all j i = true) ∧ eRds all i H H' rds) := by simp [eRds]

section
variable (K : Kn) (all : Array Oper) (r : List Oper) (i : Nat) (d : Option Nat) (f : Nat → TV) (H : List Ob) (n : Nat) (hist : Hist) (rds : Rds) (Q : St → Prop) (ty : TypeId) (pos : String) (af : Array Edge)
theorem D_nil : drawS K all [] i ⟨f, H, n⟩ hist rds Q = Q ⟨f, H, n⟩ := rfl
theorem D_guard (op : Op) (j : Nat) (b : Bool) : drawS K all (⟨d, op, ty, pos, af, some (j, b)⟩ :: r) i ⟨f, H, n⟩ hist rds Q =
    guardV (gT (dstOf all j) f) b (drawS K all (⟨d, op, ty, pos, af, none⟩ :: r) i ⟨f, H, n⟩ hist rds Q) (drawS K all r (i + 1) ⟨putF f d (.c .any), H, n⟩ hist ((i, []) :: rds) Q) := by
  simp only [drawS, put_eq]
  exact guardV_eq _ _ _ _ _
theorem drawS_op (op : Op) (h : ∀ g as ts, op ≠ .call ⟨.value g, as, ts⟩) : drawS K all (⟨d, op, ty, pos, af, none⟩ :: r) i ⟨f, H, n⟩ hist rds Q = goD K all r i d f H n hist rds Q op (rdOf K.gv f op) := by
  simp only [drawS]
  rw [drawO_other _ _ _ _ _ _ _ _ h]
  simp only
  cases rdOf K.gv f op with
  | none =>
    simp only [goD_none]
    cases opF K.P K.gv f H op with
    | none => rfl
    | some x => simp only [put_eq]; rfl
  | some rd =>
    simp only [goD_some]
    cases opF K.P K.gv f H op with
    | none => rfl
    | some x => simp only [put_eq]; rfl
theorem D_call (g : Operand) (as : Array Operand) (ts : Array TypeId) : drawS K all (⟨d, .call ⟨.value g, as, ts⟩, ty, pos, af, none⟩ :: r) i ⟨f, H, n⟩ hist rds Q =
    callD K all i (ev K.gv f g) (as.toList.map (ev K.gv f)) H hist rds fun v H' h' r' => drawS K all r (i + 1) ⟨putF f d v, H', n⟩ h' r' Q := by
  simp only [drawS, drawO, callD, put_eq]
  rfl
theorem D_move (x : Operand) : drawS K all (⟨d, .move x, ty, pos, af, none⟩ :: r) i ⟨f, H, n⟩ hist rds Q = goD K all r i d f H n hist rds Q (.move x) (rdOf K.gv f (.move x)) := drawS_op _ _ _ _ _ _ _ _ _ _ _ _ _ _ _ (by simp)
theorem D_assign (x : Operand) : drawS K all (⟨d, .assign x, ty, pos, af, none⟩ :: r) i ⟨f, H, n⟩ hist rds Q = goD K all r i d f H n hist rds Q (.assign x) (rdOf K.gv f (.assign x)) := drawS_op _ _ _ _ _ _ _ _ _ _ _ _ _ _ _ (by simp)
theorem D_pick (c x y : Operand) : drawS K all (⟨d, .pick c x y, ty, pos, af, none⟩ :: r) i ⟨f, H, n⟩ hist rds Q = goD K all r i d f H n hist rds Q (.pick c x y) (rdOf K.gv f (.pick c x y)) := drawS_op _ _ _ _ _ _ _ _ _ _ _ _ _ _ _ (by simp)
theorem D_alloc (t : TypeId) : drawS K all (⟨d, .alloc t, ty, pos, af, none⟩ :: r) i ⟨f, H, n⟩ hist rds Q = goD K all r i d f H n hist rds Q (.alloc t) (rdOf K.gv f (.alloc t)) := drawS_op _ _ _ _ _ _ _ _ _ _ _ _ _ _ _ (by simp)
theorem D_box (t : TypeId) (x : Operand) : drawS K all (⟨d, .box t x, ty, pos, af, none⟩ :: r) i ⟨f, H, n⟩ hist rds Q = goD K all r i d f H n hist rds Q (.box t x) (rdOf K.gv f (.box t x)) := drawS_op _ _ _ _ _ _ _ _ _ _ _ _ _ _ _ (by simp)
theorem D_build (t : TypeId) (ps : Array (Nat × Operand)) : drawS K all (⟨d, .build t ps, ty, pos, af, none⟩ :: r) i ⟨f, H, n⟩ hist rds Q = goD K all r i d f H n hist rds Q (.build t ps) (rdOf K.gv f (.build t ps)) := drawS_op _ _ _ _ _ _ _ _ _ _ _ _ _ _ _ (by simp)
theorem D_buildSlice (t m : Nat) (ps : Array (Nat × Operand)) : drawS K all (⟨d, .buildSlice t m ps, ty, pos, af, none⟩ :: r) i ⟨f, H, n⟩ hist rds Q = goD K all r i d f H n hist rds Q (.buildSlice t m ps) (rdOf K.gv f (.buildSlice t m ps)) := drawS_op _ _ _ _ _ _ _ _ _ _ _ _ _ _ _ (by simp)
theorem D_load (t : TypeId) (x : Operand) : drawS K all (⟨d, .load t x, ty, pos, af, none⟩ :: r) i ⟨f, H, n⟩ hist rds Q = goD K all r i d f H n hist rds Q (.load t x) (rdOf K.gv f (.load t x)) := drawS_op _ _ _ _ _ _ _ _ _ _ _ _ _ _ _ (by simp)
theorem D_store (t : TypeId) (x y : Operand) : drawS K all (⟨d, .store t x y, ty, pos, af, none⟩ :: r) i ⟨f, H, n⟩ hist rds Q = goD K all r i d f H n hist rds Q (.store t x y) (rdOf K.gv f (.store t x y)) := drawS_op _ _ _ _ _ _ _ _ _ _ _ _ _ _ _ (by simp)
theorem D_nilCheck (x : Operand) : drawS K all (⟨d, .nilCheck x, ty, pos, af, none⟩ :: r) i ⟨f, H, n⟩ hist rds Q = goD K all r i d f H n hist rds Q (.nilCheck x) (rdOf K.gv f (.nilCheck x)) := drawS_op _ _ _ _ _ _ _ _ _ _ _ _ _ _ _ (by simp)
theorem D_binOp (op : BinOp) (t : TypeId) (x y : Operand) (u : TypeId) : drawS K all (⟨d, .binOp op t x y u, ty, pos, af, none⟩ :: r) i ⟨f, H, n⟩ hist rds Q = goD K all r i d f H n hist rds Q (.binOp op t x y u) (rdOf K.gv f (.binOp op t x y u)) := drawS_op _ _ _ _ _ _ _ _ _ _ _ _ _ _ _ (by simp)
theorem D_unOp (op : UnOp) (t : TypeId) (x : Operand) : drawS K all (⟨d, .unOp op t x, ty, pos, af, none⟩ :: r) i ⟨f, H, n⟩ hist rds Q = goD K all r i d f H n hist rds Q (.unOp op t x) (rdOf K.gv f (.unOp op t x)) := drawS_op _ _ _ _ _ _ _ _ _ _ _ _ _ _ _ (by simp)
theorem D_convert (t u : TypeId) (x : Operand) : drawS K all (⟨d, .convert t u x, ty, pos, af, none⟩ :: r) i ⟨f, H, n⟩ hist rds Q = goD K all r i d f H n hist rds Q (.convert t u x) (rdOf K.gv f (.convert t u x)) := drawS_op _ _ _ _ _ _ _ _ _ _ _ _ _ _ _ (by simp)
theorem D_makeFunc (fn : Fn) (xs ys : Array Operand) : drawS K all (⟨d, .makeFunc fn xs ys, ty, pos, af, none⟩ :: r) i ⟨f, H, n⟩ hist rds Q = goD K all r i d f H n hist rds Q (.makeFunc fn xs ys) (rdOf K.gv f (.makeFunc fn xs ys)) := drawS_op _ _ _ _ _ _ _ _ _ _ _ _ _ _ _ (by simp)
theorem D_fieldAddr (t : TypeId) (x : Operand) (j : Nat) : drawS K all (⟨d, .fieldAddr t x j, ty, pos, af, none⟩ :: r) i ⟨f, H, n⟩ hist rds Q = goD K all r i d f H n hist rds Q (.fieldAddr t x j) (rdOf K.gv f (.fieldAddr t x j)) := drawS_op _ _ _ _ _ _ _ _ _ _ _ _ _ _ _ (by simp)
theorem D_field (t : TypeId) (x : Operand) (j : Nat) : drawS K all (⟨d, .field t x j, ty, pos, af, none⟩ :: r) i ⟨f, H, n⟩ hist rds Q = goD K all r i d f H n hist rds Q (.field t x j) (rdOf K.gv f (.field t x j)) := drawS_op _ _ _ _ _ _ _ _ _ _ _ _ _ _ _ (by simp)
theorem D_indexAddr (t : TypeId) (x y : Operand) : drawS K all (⟨d, .indexAddr t x y, ty, pos, af, none⟩ :: r) i ⟨f, H, n⟩ hist rds Q = goD K all r i d f H n hist rds Q (.indexAddr t x y) (rdOf K.gv f (.indexAddr t x y)) := drawS_op _ _ _ _ _ _ _ _ _ _ _ _ _ _ _ (by simp)
theorem D_index (t : TypeId) (x y : Operand) : drawS K all (⟨d, .index t x y, ty, pos, af, none⟩ :: r) i ⟨f, H, n⟩ hist rds Q = goD K all r i d f H n hist rds Q (.index t x y) (rdOf K.gv f (.index t x y)) := drawS_op _ _ _ _ _ _ _ _ _ _ _ _ _ _ _ (by simp)
theorem D_slice (t : TypeId) (x : Operand) (lo hi mx : Option Operand) : drawS K all (⟨d, .slice t x lo hi mx, ty, pos, af, none⟩ :: r) i ⟨f, H, n⟩ hist rds Q = goD K all r i d f H n hist rds Q (.slice t x lo hi mx) (rdOf K.gv f (.slice t x lo hi mx)) := drawS_op _ _ _ _ _ _ _ _ _ _ _ _ _ _ _ (by simp)
theorem D_extract (x : Operand) (j : Nat) : drawS K all (⟨d, .extract x j, ty, pos, af, none⟩ :: r) i ⟨f, H, n⟩ hist rds Q = goD K all r i d f H n hist rds Q (.extract x j) (rdOf K.gv f (.extract x j)) := drawS_op _ _ _ _ _ _ _ _ _ _ _ _ _ _ _ (by simp)
theorem D_makeMap (t : TypeId) (x : Option Operand) : drawS K all (⟨d, .makeMap t x, ty, pos, af, none⟩ :: r) i ⟨f, H, n⟩ hist rds Q = goD K all r i d f H n hist rds Q (.makeMap t x) (rdOf K.gv f (.makeMap t x)) := drawS_op _ _ _ _ _ _ _ _ _ _ _ _ _ _ _ (by simp)
theorem D_makeSlice (t : TypeId) (x y : Operand) : drawS K all (⟨d, .makeSlice t x y, ty, pos, af, none⟩ :: r) i ⟨f, H, n⟩ hist rds Q = goD K all r i d f H n hist rds Q (.makeSlice t x y) (rdOf K.gv f (.makeSlice t x y)) := drawS_op _ _ _ _ _ _ _ _ _ _ _ _ _ _ _ (by simp)
theorem D_lookup (t : TypeId) (x y : Operand) (ok : Bool) : drawS K all (⟨d, .lookup t x y ok, ty, pos, af, none⟩ :: r) i ⟨f, H, n⟩ hist rds Q = goD K all r i d f H n hist rds Q (.lookup t x y ok) (rdOf K.gv f (.lookup t x y ok)) := drawS_op _ _ _ _ _ _ _ _ _ _ _ _ _ _ _ (by simp)
theorem D_mapUpdate (t : TypeId) (x y z : Operand) : drawS K all (⟨d, .mapUpdate t x y z, ty, pos, af, none⟩ :: r) i ⟨f, H, n⟩ hist rds Q = goD K all r i d f H n hist rds Q (.mapUpdate t x y z) (rdOf K.gv f (.mapUpdate t x y z)) := drawS_op _ _ _ _ _ _ _ _ _ _ _ _ _ _ _ (by simp)
theorem D_len (as : Array Operand) (ts : Array TypeId) : drawS K all (⟨d, .call ⟨.builtin .len, as, ts⟩, ty, pos, af, none⟩ :: r) i ⟨f, H, n⟩ hist rds Q = goD K all r i d f H n hist rds Q (.call ⟨.builtin .len, as, ts⟩) (rdOf K.gv f (.call ⟨.builtin .len, as, ts⟩)) := drawS_op _ _ _ _ _ _ _ _ _ _ _ _ _ _ _ (by simp)
theorem D_max (as : Array Operand) (ts : Array TypeId) : drawS K all (⟨d, .call ⟨.builtin .max, as, ts⟩, ty, pos, af, none⟩ :: r) i ⟨f, H, n⟩ hist rds Q = goD K all r i d f H n hist rds Q (.call ⟨.builtin .max, as, ts⟩) (rdOf K.gv f (.call ⟨.builtin .max, as, ts⟩)) := drawS_op _ _ _ _ _ _ _ _ _ _ _ _ _ _ _ (by simp)
theorem D_append (as : Array Operand) (ts : Array TypeId) : drawS K all (⟨d, .call ⟨.builtin .append, as, ts⟩, ty, pos, af, none⟩ :: r) i ⟨f, H, n⟩ hist rds Q = goD K all r i d f H n hist rds Q (.call ⟨.builtin .append, as, ts⟩) (rdOf K.gv f (.call ⟨.builtin .append, as, ts⟩)) := drawS_op _ _ _ _ _ _ _ _ _ _ _ _ _ _ _ (by simp)
theorem D_copy (as : Array Operand) (ts : Array TypeId) : drawS K all (⟨d, .call ⟨.builtin .copy, as, ts⟩, ty, pos, af, none⟩ :: r) i ⟨f, H, n⟩ hist rds Q = goD K all r i d f H n hist rds Q (.call ⟨.builtin .copy, as, ts⟩) (rdOf K.gv f (.call ⟨.builtin .copy, as, ts⟩)) := drawS_op _ _ _ _ _ _ _ _ _ _ _ _ _ _ _ (by simp)
theorem D_min (as : Array Operand) (ts : Array TypeId) : drawS K all (⟨d, .call ⟨.builtin .min, as, ts⟩, ty, pos, af, none⟩ :: r) i ⟨f, H, n⟩ hist rds Q = goD K all r i d f H n hist rds Q (.call ⟨.builtin .min, as, ts⟩) (rdOf K.gv f (.call ⟨.builtin .min, as, ts⟩)) := drawS_op _ _ _ _ _ _ _ _ _ _ _ _ _ _ _ (by simp)
end

/-! ### Objects behind those that were there -/
section
variable {α : Type} (H L : List α)
theorem app_get0 : (H ++ L)[H.length]? = L[0]? := by rw [List.getElem?_append_right (Nat.le_refl _), Nat.sub_self]
theorem app_get (i : Nat) : (H ++ L)[H.length + i]? = L[i]? := by rw [List.getElem?_append_right (by omega)]; congr 1; omega
theorem app_set0 (x : α) : (H ++ L).set H.length x = H ++ L.set 0 x := by rw [List.set_append_right _ _ (Nat.le_refl _)]; simp
theorem app_set (i : Nat) (x : α) : (H ++ L).set (H.length + i) x = H ++ L.set i x := by rw [List.set_append_right _ _ (by omega)]; congr 2; omega
theorem app_lt (k : Nat) (h : k < H.length) : (H ++ L)[k]? = H[k]? := List.getElem?_append_left h
theorem app_set_lt (k : Nat) (h : k < H.length) (x : α) : (H ++ L).set k x = H.set k x ++ L := by rw [List.set_append_left _ _ h]
end
theorem thn_n (a : St → Prop) (b : Exit → St → Prop) : thn a b .normal = a := rfl
theorem thn_r (a : St → Prop) (b : Exit → St → Prop) : thn a b .ret = b .ret := rfl
theorem thn_e (a : St → Prop) (b : Exit → St → Prop) (i : Nat) : thn a b (.exit i) = b (.exit i) := rfl
theorem inB_n (i : Nat) (b : Exit → St → Prop) : inB i b .normal = b .normal := rfl
theorem inB_r (i : Nat) (b : Exit → St → Prop) : inB i b .ret = b .ret := rfl
theorem inB_e (i j : Nat) (b : Exit → St → Prop) (s : St) : inB i b (.exit j) s = if j = i then b .normal s else b (.exit j) s := rfl
theorem ev_tmp (gv : Nat → Option (List Dat)) (tm : Nat → TV) (t : Nat) : ev gv tm (.tmp t) = tm t := rfl
theorem ev_const (gv : Nat → Option (List Dat)) (tm : Nat → TV) (v : Value) : ev gv tm (.const v) = ofK v := rfl
theorem ev_func (gv : Nat → Option (List Dat)) (tm : Nat → TV) (f : Nat) : ev gv tm (.func f) = .c (.fn f []) := rfl
theorem ofK_i (k : IntKind) (n : Int) : ofK (.int k n) = .c (.d (.i k n)) := rfl
theorem ofK_b (b : Bool) : ofK (.bool b) = .c (.d (.b b)) := rfl
theorem ofK_nil : ofK (.slice none 0 0) = .c .nil := rfl
theorem ofK_s (l : List UInt8) (h : l.length ≤ 140737488355328) : ofK (.string ⟨l.toArray⟩) = .c (.d (.s ⟨l.toArray⟩)) := by
  have : (⟨l.toArray⟩ : ByteArray).size ≤ 140737488355328 := h
  simp [ofK, ofV, this]
theorem ofK_m : ofK (.map none) = .c (.k (.map none)) := rfl
theorem ofK_f : ofK .nilFunc = .c (.k .nilFunc) := rfl
theorem st0_eq (args : List TV) (H : List Ob) (nt : Nat) : st0 args H nt = ⟨fun i => (args[i]?).getD (.c .any), H, nt⟩ := rfl
@[congr] theorem callW_congr {K : Kn} {g g' : TV} {ar ar' : List TV} {H H' : List Ob} {Q : TV → List Ob → Prop} (hg : g = g') (ha : ar = ar') (hH : H = H') : callW K g ar H Q = callW K g' ar' H' Q := by rw [hg, ha, hH]
@[congr] theorem callD_congr {K : Kn} {all : Array Oper} {i : Nat} {g g' : TV} {ar ar' : List TV} {H H' : List Ob} {hist hist' : Hist} {rds rds' : Rds} {next : TV → List Ob → Hist → Rds → Prop} (hg : g = g') (ha : ar = ar') (hH : H = H')
    (hh : hist = hist') (hr : rds = rds') : callD K all i g ar H hist rds next = callD K all i g' ar' H' hist' rds' next := by rw [hg, ha, hH, hh, hr]
attribute [irreducible] goW goU callW callD goD goR goE guardV
end Go.Proofs.Ythnnnnaifnddbaa
