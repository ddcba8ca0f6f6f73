/- Frames, regions, code and functions over ideal states. -/
import Derived.Test.YthnnnnaifnddbaaE8
set_option linter.unusedVariables false
set_option linter.unusedSimpArgs false
namespace Go.Proofs.Ythnnnnaifnddbaa
open Go.RowKit (Below)

/-- What is known besides: the program, and the package variables that are laid. -/
structure Kn where
  P : Program
  gv : Nat → Option (List Dat)

/-- The contract of a function, over ideal values: called so, it returns, and the result and the objects are as Φ says. -/
def FunC (K : Kn) (f : FuncId) (args : List TV) (H : List Ob) (Φ : TV → List Ob → Prop) : Prop :=
  ∀ (w0 : World) (B0 : Nat) (Z0 : Zs) (w : World) (Z : Zs) (β : Bl) (vs : List Value), Mem ⟨K.P, w0, B0, K.gv, Z0⟩ w Z β H → args.length = vs.length →
    (∀ (i : Nat) t v, args[i]? = some t → vs[i]? = some v → RelT K.P w Z β H t v) →
    let Post : Value → World → Prop := fun r w' => ∃ tv H' Z' β', Φ tv H' ∧ Mem ⟨K.P, w0, B0, K.gv, Z0⟩ w' Z' β' H' ∧ RelT K.P w' Z' β' H' tv r ∧ Ext w Z β H w' Z' β' H'
    ((callFunc f vs.toArray).run K.P w = .ok (.enter f vs.toArray) w ∧ Calls K.P f vs.toArray w fun e w' => ∃ r, e = .returned r ∧ Post r w') ∨
      ∃ r w', (callFunc f vs.toArray).run K.P w = .ok (.value r) w' ∧ Post r w'

theorem FunC.mono {K : Kn} {f : FuncId} {args : List TV} {H : List Ob} {Φ Ψ : TV → List Ob → Prop} (h : FunC K f args H Φ) (hi : ∀ t H', Φ t H' → Ψ t H') : FunC K f args H Ψ := by
  intro w0 B0 Z0 w Z β vs m hl hr
  rcases h w0 B0 Z0 w Z β vs m hl hr with ⟨h1, h2⟩ | ⟨r, w', h1, tv, H', Z', β', h3, h4⟩
  · exact .inl ⟨h1, h2.mono fun e w' ⟨r, he, tv, H', Z', β', h3, h4⟩ => ⟨r, he, tv, H', Z', β', hi _ _ h3, h4⟩⟩
  · exact .inr ⟨r, w', h1, tv, H', Z', β', hi _ _ h3, h4⟩

/-- Where a function's run began. -/
structure Bs where
  w0 : World
  B0 : Nat
  Z0 : Zs
  w1 : World
  Z1 : Zs
  β1 : Bl
  H1 : List Ob

structure Sim (K : Kn) (B : Bs) (Z : Zs) (β : Bl) (a : Act) (w : World) (s : St) : Prop where
  mem : Mem ⟨K.P, B.w0, B.B0, K.gv, B.Z0⟩ w Z β s.H
  nt : a.tmps.size = s.nt
  df : a.defers = []
  tm : ∀ i, RelT K.P w Z β s.H (s.tm i) (a.tmps.getD i undef)
  ext : Ext B.w1 B.Z1 B.β1 B.H1 w Z β s.H
def SimE (K : Kn) (B : Bs) (a : Act) (w : World) (s : St) : Prop := ∃ Z β, Sim K B Z β a w s

theorem getD_put {a : Act} {d : Option Nat} {r : Value} (i : Nat) (hd : ∀ k, d = some k → k < a.tmps.size) :
    (a.put d r).tmps.getD i undef = if d = some i then r else a.tmps.getD i undef := by
  cases d with
  | none => simp [Act.put]
  | some k =>
    have hk := hd k rfl
    simp only [Act.put, Array.getD_eq_getD_getElem?, Array.getElem?_setIfInBounds, Option.some.injEq]
    by_cases e : k = i
    · subst e; simp [hk]
    · simp [e]

theorem put_tm (s : St) (d : Option Nat) (v : TV) (i : Nat) : (s.put d v).tm i = if d = some i then v else s.tm i := by
  cases d with
  | none => simp [St.put]
  | some k =>
    simp only [St.put, upd, Option.some.injEq]
    by_cases e : i = k
    · subst e; simp
    · simp [e, Ne.symm e]
theorem put_H (s : St) (d : Option Nat) (v : TV) : (s.put d v).H = s.H := by cases d <;> rfl
theorem put_nt (s : St) (d : Option Nat) (v : TV) : (s.put d v).nt = s.nt := by cases d <;> rfl

theorem Sim.put {K : Kn} {B : Bs} {Z Z' : Zs} {β β' : Bl} {a : Act} {w w' : World} {s : St} {H' : List Ob} (h : Sim K B Z β a w s) (m : Mem ⟨K.P, B.w0, B.B0, K.gv, B.Z0⟩ w' Z' β' H')
    (x : Ext w Z β s.H w' Z' β' H') {d : Option Nat} {v : TV} {r : Value} (hr : RelT K.P w' Z' β' H' v r) (hd : ∀ k, d = some k → k < s.nt) :
    Sim K B Z' β' (a.put d r) w' (({ s with H := H' } : St).put d v) := by
  refine ⟨by rw [put_H]; exact m, ?_, ?_, fun i => ?_, by rw [put_H]; exact h.ext.trans x⟩
  · rw [put_nt, ← h.nt]
    cases d <;> simp [Act.put]
  · have := h.df
    cases d <;> simpa [Act.put] using this
  · rw [getD_put i (by rw [h.nt]; exact hd), put_tm, put_H]
    split
    · exact hr
    · exact (h.tm i).ext x

/-! ### Regions -/
def frzT1 (H : List Ob) : TV → TV × List Ob
  | .c (.vs k n) => match frz H (.vs k n) with
    | some (d, H1) => (.c (.d d), H1)
    | none => (.c (.vs k n), H)
  | .c (.mp k) => match frz H (.mp k) with
    | some (d, H1) => (.c (.d d), H1)
    | none => (.c (.mp k), H)
  | .c .nil => (.c (.d (.l [])), H)
  | .c (.fl es) => (.c (.d (.l es)), H)
  | .g xs => match frzs H xs with
    | some (ds, H1) => (.g (ds.map .d), H1)
    | none => (.g xs, H)
  | t => (t, H)
def frzL (H : List Ob) : List TV → List TV × List Ob
  | [] => ([], H)
  | x :: xs => ((frzT1 H x).1 :: (frzL (frzT1 H x).2 xs).1, (frzL (frzT1 H x).2 xs).2)
def frzTV (H : List Ob) : TV → TV × List Ob
  | .t xs => (.t (frzL H xs).1, (frzL H xs).2)
  | t => frzT1 H t
def frzArgs (H : List Ob) : List TV → List TV × List Ob
  | [] => ([], H)
  | x :: xs => ((frzTV H x).1 :: (frzArgs (frzTV H x).2 xs).1, (frzArgs (frzTV H x).2 xs).2)

/-- A slice that is empty, and nil: one may equal the other. -/
def emptyT : TV → Bool
  | .c (.d (.l [])) => true
  | .c (.fl []) => true
  | _ => false
def nilT : TV → Bool
  | .c .nil => true
  | _ => false
def eqOp : BinOp → Bool
  | .eql => true
  | .neq => true
  | _ => false
def unkF (P : Program) (gv : Nat → Option (List Dat)) (tm : Nat → TV) : Op → Bool
  | .binOp op t x y _ => eqOp op && isSlT P t && emptyT (ev gv tm x) && nilT (ev gv tm y)
  | _ => false
theorem unk_sound {P : Program} {w : World} {Z : Zs} {β : Bl} {H : List Ob} {gv : Nat → Option (List Dat)} {tm : Nat → TV} {a : Act} {o : Oper} (htm : ∀ x, RelT P w Z β H (ev gv tm x) (a.eval x)) (h : unkF P gv tm o.op = true) :
    ∃ b, (execOp a.eval o).run P w = .ok (.value (.bool b)) w := by
  cases ho : o.op with
  | binOp op t x y u =>
    simp only [ho, unkF, Bool.and_eq_true] at h
    obtain ⟨⟨⟨h1, h2⟩, h3⟩, h4⟩ := h
    obtain ⟨e, hu⟩ := isSlT_spec h2
    have ex : ∃ A n c, a.eval x = .slice A n c := by
      have hx := htm x
      cases hev : ev gv tm x with
      | c p =>
        rw [hev] at hx h3
        have hc := relT_c hx
        cases p with
        | d z =>
          cases z with
          | l es =>
            cases es with
            | nil =>
              have hd := relC_d hc
              generalize a.eval x = v at hd
              cases hd
              exact ⟨_, _, _, rfl⟩
            | cons => simp [emptyT] at h3
          | _ => simp [emptyT] at h3
        | fl es =>
          generalize a.eval x = v at hc
          cases hc
          exact ⟨_, _, _, rfl⟩
        | _ => simp [emptyT] at h3
      | g => rw [hev] at h3; simp [emptyT] at h3
      | t => rw [hev] at h3; simp [emptyT] at h3
    have ey : a.eval y = .slice none 0 0 := by
      have hy := htm y
      cases hev : ev gv tm y with
      | c p =>
        rw [hev] at hy h4
        have hc := relT_c hy
        cases p with
        | nil =>
          generalize a.eval y = v at hc
          cases hc
          rfl
        | _ => simp [nilT] at h4
      | g => rw [hev] at h4; simp [nilT] at h4
      | t => rw [hev] at h4; simp [nilT] at h4
    obtain ⟨A, n, c, ex⟩ := ex
    have he : ∃ b, (Op.equal t (.slice A n c) (.slice none 0 0)).run P w = .ok b w := by
      cases A with
      | none =>
        have : ∀ d, (Op.equalIn (d + 1) t (.slice none n c) (.slice none 0 0)).run P w = .ok true w := fun d => by simp [Op.equalIn, run_underlying hu]
        exact ⟨true, this 9999⟩
      | some ad => exact ⟨false, eqI2 hu 9999 ad n c⟩
    obtain ⟨b, hb⟩ := he
    have hg : (eqGuard op t x y (.slice A n c) (.slice none 0 0)).run P w = .ok () w := by cases op <;> simp [eqGuard]
    cases op <;> simp only [eqOp, Bool.false_eq_true] at h1
    · exact ⟨b, by simp [execOp, ho, ex, ey, hg, binOp, hb]⟩
    · exact ⟨!b, by simp [execOp, ho, ex, ey, hg, binOp, hb]⟩
  | _ => simp [ho, unkF] at h

/-- One operation: what must hold that K holds behind it. -/
def stepW (K : Kn) (tm : Nat → TV) (H : List Ob) (o : Oper) (Q : TV → List Ob → Prop) : Prop :=
  match o.op with
  | .call ⟨.value f, args, _⟩ => match ev K.gv tm f with
    | .c (.fn g caps) => FunC K g (frzArgs H (args.toList.map (ev K.gv tm) ++ caps.map .c)).1 (frzArgs H (args.toList.map (ev K.gv tm) ++ caps.map .c)).2 Q ∨
        FunC K g (args.toList.map (ev K.gv tm) ++ caps.map .c) H Q
    | _ => False
  | op => match opF K.P K.gv tm H op with
    | some r => Q r.1 r.2
    | none => unkF K.P K.gv tm op = true ∧ ∀ b, Q (.c (.d (.b b))) H

def dstOf (ops : Array Oper) (j : Nat) : Option Nat := (ops[j]?).bind (·.dst)
def dstOk (nt : Nat) (ops : Array Oper) : Bool := ops.all fun o => match o.dst with | some d => decide (d < nt) | none => true

/-- The operations of a list, one behind the other. -/
def opsW (K : Kn) (all : Array Oper) : List Oper → St → (St → Prop) → Prop
  | [], s, Q => Q s
  | o :: r, s, Q => match o.guard with
    | none => stepW K s.tm s.H o fun v H' => opsW K all r (({ s with H := H' } : St).put o.dst v) Q
    | some (j, b) => match dstOf all j with
      | none => False
      | some t => match s.tm t with
        | .c (.d (.b x)) => (x = b → stepW K s.tm s.H o fun v H' => opsW K all r (({ s with H := H' } : St).put o.dst v) Q) ∧ (x = !b → opsW K all r (s.put o.dst (.c .any)) Q)
        | _ => False

theorem frzT1_sound {G : Gl} {w : World} {Z : Zs} {β : Bl} {H : List Ob} (m : Mem G w Z β H) {t : TV} {v : Value} (h : RelT G.P w Z β H t v) :
    ∃ Z', Mem G w Z' β (frzT1 H t).2 ∧ Ext w Z β H w Z' β (frzT1 H t).2 ∧ RelT G.P w Z' β (frzT1 H t).2 (frzT1 H t).1 v := by
  unfold frzT1
  split
  · rename_i k n
    split
    · rename_i d H1 hd
      obtain ⟨Z', m', x', r'⟩ := frz_sound m (relT_c h) hd
      exact ⟨Z', m', x', .c _ _ (.d _ _ r')⟩
    · exact ⟨Z, m, Ext.refl _ _ _ _, h⟩
  · rename_i k
    split
    · rename_i d H1 hd
      obtain ⟨Z', m', x', r'⟩ := frz_sound m (relT_c h) hd
      exact ⟨Z', m', x', .c _ _ (.d _ _ r')⟩
    · exact ⟨Z, m, Ext.refl _ _ _ _, h⟩
  · have := relT_c h
    cases this
    exact ⟨Z, m, Ext.refl _ _ _ _, .c _ _ (.d _ _ (.l [] none 0 0 (fun _ _ => .nilFunc) (by simp) (by simp) (by simp) (by simp) (by simp) (by simp)))⟩
  · have := relT_c h
    cases this
    exact ⟨Z, m, Ext.refl _ _ _ _, .c _ _ (.d _ _ (by assumption))⟩
  · rename_i xs
    split
    · rename_i ds H1 hd
      cases h with
      | g _ vs hr =>
        obtain ⟨Z', m', x', l', r'⟩ := frzs_sound m hr hd
        refine ⟨Z', m', x', .g _ _ ⟨by simp [l'], fun i c v hc hv => ?_⟩⟩
        simp only [List.getElem?_map, Option.map_eq_some_iff] at hc
        obtain ⟨d, hd', rfl⟩ := hc
        exact .d _ _ (r' i d v hd' hv)
    · exact ⟨Z, m, Ext.refl _ _ _ _, h⟩
  · exact ⟨Z, m, Ext.refl _ _ _ _, h⟩

theorem frzL_sound {G : Gl} {w : World} {β : Bl} : ∀ {ts : List TV} {vs : List Value} {Z : Zs} {H : List Ob}, Mem G w Z β H → ts.length = vs.length →
    (∀ (i : Nat) t v, ts[i]? = some t → vs[i]? = some v → RelT G.P w Z β H t v) →
    ∃ Z', Mem G w Z' β (frzL H ts).2 ∧ Ext w Z β H w Z' β (frzL H ts).2 ∧ (frzL H ts).1.length = vs.length ∧
      ∀ (i : Nat) t v, (frzL H ts).1[i]? = some t → vs[i]? = some v → RelT G.P w Z' β (frzL H ts).2 t v
  | [], vs, Z, H, m, hl, hr => ⟨Z, m, Ext.refl _ _ _ _, hl, by simp [frzL]⟩
  | t :: ts, vs, Z, H, m, hl, hr => by
    cases vs with
    | nil => simp at hl
    | cons v vs =>
    obtain ⟨Z1, m1, x1, r1⟩ := frzT1_sound m (hr 0 t v (by simp) (by simp))
    obtain ⟨Z2, m2, x2, l2, r2⟩ := frzL_sound (ts := ts) (vs := vs) m1 (by simpa using hl) (fun i t v h1 h2 => (hr (i + 1) t v (by simpa using h1) (by simpa using h2)).ext x1)
    refine ⟨Z2, m2, x1.trans x2, by simp [frzL, l2], fun i t' v' h1 h2 => ?_⟩
    cases i with
    | zero =>
      simp [frzL] at h1 h2
      subst h1 h2
      exact r1.ext x2
    | succ i => exact r2 i t' v' (by simpa [frzL] using h1) (by simpa using h2)
theorem frzTV_sound {G : Gl} {w : World} {Z : Zs} {β : Bl} {H : List Ob} (m : Mem G w Z β H) {t : TV} {v : Value} (h : RelT G.P w Z β H t v) :
    ∃ Z', Mem G w Z' β (frzTV H t).2 ∧ Ext w Z β H w Z' β (frzTV H t).2 ∧ RelT G.P w Z' β (frzTV H t).2 (frzTV H t).1 v := by
  cases h with
  | t xs vs hl hr =>
    obtain ⟨Z2, m2, x2, l2, r2⟩ := frzL_sound m hl hr
    exact ⟨Z2, m2, x2, .t _ _ l2 r2⟩
  | c x v h => exact frzT1_sound m (.c x v h)
  | g xs vs h => exact frzT1_sound m (.g xs vs h)
theorem frzArgs_sound {G : Gl} {w : World} {β : Bl} : ∀ {ts : List TV} {vs : List Value} {Z : Zs} {H : List Ob}, Mem G w Z β H → ts.length = vs.length →
    (∀ (i : Nat) t v, ts[i]? = some t → vs[i]? = some v → RelT G.P w Z β H t v) →
    ∃ Z', Mem G w Z' β (frzArgs H ts).2 ∧ Ext w Z β H w Z' β (frzArgs H ts).2 ∧ (frzArgs H ts).1.length = vs.length ∧
      ∀ (i : Nat) t v, (frzArgs H ts).1[i]? = some t → vs[i]? = some v → RelT G.P w Z' β (frzArgs H ts).2 t v
  | [], vs, Z, H, m, hl, hr => ⟨Z, m, Ext.refl _ _ _ _, hl, by simp [frzArgs]⟩
  | t :: ts, vs, Z, H, m, hl, hr => by
    cases vs with
    | nil => simp at hl
    | cons v vs =>
    obtain ⟨Z1, m1, x1, r1⟩ := frzTV_sound m (hr 0 t v (by simp) (by simp))
    obtain ⟨Z2, m2, x2, l2, r2⟩ := frzArgs_sound (ts := ts) (vs := vs) m1 (by simpa using hl) (fun i t v h1 h2 => (hr (i + 1) t v (by simpa using h1) (by simpa using h2)).ext x1)
    refine ⟨Z2, m2, x1.trans x2, by simp [frzArgs, l2], fun i t' v' h1 h2 => ?_⟩
    cases i with
    | zero =>
      simp [frzArgs] at h1 h2
      subst h1 h2
      exact r1.ext x2
    | succ i => exact r2 i t' v' (by simpa [frzArgs] using h1) (by simpa using h2)

/-- One operation, on the machine. -/
theorem stepW_sound {K : Kn} {B : Bs} {Z : Zs} {β : Bl} {a : Act} {w : World} {s : St} {o : Oper} {Q : TV → List Ob → Prop} {next : Act → World → Prop} {E : Exit → Act → World → Prop}
    (h : Sim K B Z β a w s) (hq : stepW K s.tm s.H o Q) (hd : ∀ k, o.dst = some k → k < s.nt)
    (hn : ∀ v H' a' w', Q v H' → SimE K B a' w' (({ s with H := H' } : St).put o.dst v) → next a' w') : o.wp K.P a w next E := by
  have htm : ∀ x, RelT K.P w Z β s.H (ev K.gv s.tm x) (a.eval x) := fun x => rel_ev (G := ⟨K.P, B.w0, B.B0, K.gv, B.Z0⟩) h.mem h.tm x
  unfold stepW at hq
  split at hq
  · rename_i f args ts ho
    split at hq
    · rename_i g caps hf
      have hfn := htm f
      rw [hf] at hfn
      have hfc := relT_c hfn
      generalize hev : a.eval f = fv at hfc
      cases hfc with
      | fn _ _ cvs hcl hcr =>
      have hargs : ((args.toList.map (ev K.gv s.tm)) ++ caps.map TV.c).length = (args.toList.map a.eval ++ cvs).length := by simp [hcl]
      have hrel : ∀ (i : Nat) t v, ((args.toList.map (ev K.gv s.tm)) ++ caps.map TV.c)[i]? = some t → (args.toList.map a.eval ++ cvs)[i]? = some v → RelT K.P w Z β s.H t v := by
        intro i t v h1 h2
        rw [List.getElem?_append] at h1 h2
        simp only [List.length_map] at h1 h2
        split at h1
        · rename_i hi
          rw [if_pos hi] at h2
          simp only [List.getElem?_map, Option.map_eq_some_iff] at h1 h2
          obtain ⟨q, hq1, rfl⟩ := h1
          obtain ⟨q', hq2, rfl⟩ := h2
          rw [hq1] at hq2; cases hq2
          exact htm _
        · rename_i hi
          rw [if_neg hi] at h2
          simp only [List.getElem?_map, Option.map_eq_some_iff] at h1
          obtain ⟨q, hq1, rfl⟩ := h1
          exact .c _ _ (hcr _ q v hq1 h2)
      have hrun : (execOp a.eval o).run K.P w = (callFunc g (args.toList.map a.eval ++ cvs).toArray).run K.P w := by
        have e1 : args.map a.eval ++ cvs.toArray = (args.toList.map a.eval ++ cvs).toArray := by apply Array.ext'; simp
        simp only [execOp, ho, resolve, Sem.run_bind]
        rw [hev]
        simp only [Deferred.ofValue, Sem.run_pure, Result.andThen_ok, invoke]
        rw [← e1]
        simp
      have fin : ∀ ts' H0 Z0, Mem ⟨K.P, B.w0, B.B0, K.gv, B.Z0⟩ w Z0 β H0 → Ext w Z β s.H w Z0 β H0 → ts'.length = (args.toList.map a.eval ++ cvs).length →
          (∀ (i : Nat) t v, ts'[i]? = some t → (args.toList.map a.eval ++ cvs)[i]? = some v → RelT K.P w Z0 β H0 t v) → FunC K g ts' H0 Q → o.wp K.P a w next E := by
        intro ts' H0 Z0 m0 x0 hl0 hr0 hfun
        unfold Oper.wp
        rw [hrun]
        rcases hfun B.w0 B.B0 B.Z0 w Z0 β _ m0 hl0 hr0 with ⟨h1, h2⟩ | ⟨r, w', h1, tv, H', Z', β', h3, h4, h5, h6⟩
        · rw [h1, Oper.upon_enter]
          refine h2.mono ?_
          rintro e w' ⟨r, rfl, tv, H', Z', β', h3, h4, h5, h6⟩
          exact hn tv H' _ _ h3 ⟨Z', β', h.put h4 (x0.trans h6) h5 hd⟩
        · rw [h1, Oper.upon_value]
          exact hn tv H' _ _ h3 ⟨Z', β', h.put h4 (x0.trans h6) h5 hd⟩
      rcases hq with hq | hq
      · obtain ⟨Z0, m0, x0, l0, r0⟩ := frzArgs_sound h.mem hargs hrel
        exact fin _ _ Z0 m0 x0 l0 r0 hq
      · exact fin _ _ Z h.mem (Ext.refl _ _ _ _) hargs hrel hq
    · exact hq.elim
  · split at hq
    · rename_i r hr
      obtain ⟨x, w', Z', β', h1, h2, h3, h4⟩ := opF_sound (o := o) (tv := r.1) (H' := r.2) h.mem htm hr
      unfold Oper.wp
      rcases h1 with h1 | ⟨h1, rfl⟩
      · rw [h1, Oper.upon_value]
        exact hn _ _ _ _ hq ⟨Z', β', h.put h3 h4 h2 hd⟩
      · rw [h1, Oper.upon_skip]
        exact hn _ _ _ _ hq ⟨Z', β', h.put h3 h4 h2 hd⟩
    · obtain ⟨b, hb⟩ := unk_sound htm hq.1
      unfold Oper.wp
      rw [hb, Oper.upon_value]
      exact hn _ _ _ _ (hq.2 b) ⟨Z, β, h.put h.mem (Ext.refl _ _ _ _) (.c _ _ (.d _ _ (.b b))) hd⟩

theorem yielded_of {K : Kn} {B : Bs} {Z : Zs} {β : Bl} {a : Act} {w : World} {s : St} (h : Sim K B Z β a w s) {ops : Array Oper} {j t : Nat} {x : Bool} (hd : dstOf ops j = some t) (ht : s.tm t = .c (.d (.b x))) :
    yielded ops a.tmps j = some x := by
  have h1 := h.tm t
  rw [ht] at h1
  have h2 := relD_b (relC_d (relT_c h1))
  unfold yielded
  unfold dstOf at hd
  rw [hd]
  simp only [Option.bind_some]
  rw [Array.getD_eq_getD_getElem?] at h2
  cases h3 : a.tmps[t]? with
  | none => simp [h3, undef] at h2
  | some v => simp [h3] at h2; subst h2; rfl

theorem opsW_sound {K : Kn} {B : Bs} {all : Array Oper} {E : Exit → Act → World → Prop} : ∀ {l : List Oper} {s : St} {Q : St → Prop} {a : Act} {w : World}, opsW K all l s Q → SimE K B a w s →
    (∀ o ∈ l, ∀ k, o.dst = some k → k < s.nt) → (∀ s' a' w', Q s' → SimE K B a' w' s' → E .normal a' w') → wpList K.P all E l a w
  | [], s, Q, a, w, h, hs, hd, hq => hq s a w h hs
  | o :: r, s, Q, a, w, h, hs, hd, hq => by
    obtain ⟨Z, β, hs⟩ := hs
    have hnext : ∀ v H' a' w', opsW K all r (({ s with H := H' } : St).put o.dst v) Q → SimE K B a' w' (({ s with H := H' } : St).put o.dst v) → wpList K.P all E r a' w' :=
      fun v H' a' w' h1 h2 => opsW_sound h1 h2 (fun o' ho' k hk => by rw [put_nt]; exact hd o' (by simp [ho']) k hk) hq
    simp only [opsW] at h
    unfold wpList
    split at h
    · rename_i hg
      rw [if_pos (by simp [Region.wanted, hg])]
      exact .inl (stepW_sound hs h (hd o (by simp)) hnext)
    · rename_i j b hg
      split at h
      · exact h.elim
      · rename_i t ht
        split at h
        · rename_i x hx
          have hy := yielded_of hs ht hx
          by_cases e : x = b
          · rw [if_pos (by simp [Region.wanted, hg, hy, e])]
            exact .inl (stepW_sound hs (h.1 e) (hd o (by simp)) hnext)
          · rw [if_neg (by simp [Region.wanted, hg, hy, e])]
            refine opsW_sound (h.2 (by cases x <;> cases b <;> simp_all)) ⟨Z, β, ?_⟩ (fun o' ho' k hk => by rw [put_nt]; exact hd o' (by simp [ho']) k hk) hq
            exact hs.put hs.mem (Ext.refl _ _ _ _) (.c _ _ (.any _)) (hd o (by simp))
        · exact h.elim
end Go.Proofs.Ythnnnnaifnddbaa
