/- Pure functions from a run without objects; code in the form 'first, rest'. -/
import Derived.Test.YthnnnnaifnddbaaE15
set_option linter.unusedVariables false
set_option linter.unusedSimpArgs false
namespace Go.Proofs.Ythnnnnaifnddbaa
open Go.RowKit (Below)

theorem Mem.nil {G : Gl} {w : World} {Z : Zs} {β : Bl} {H : List Ob} (m : Mem G w Z β H) : Mem ⟨G.P, w, w.heap.size, G.gv, Z⟩ w Z β [] :=
  ⟨Below.refl _ _, Nat.le_refl _, fun k o h => by simp at h, fun k b c ⟨o, h, _⟩ => by simp at h, fun k k' b c c' ⟨o, h, _⟩ => by simp at h, m.zlt, fun b o h => .inr h, m.gl⟩

theorem PureC.of_nil {K : Kn} {g : FuncId} {args : List TV} {v : TV} (ha : closedTs 0 args = true) (h : FunC K g args [] fun t H' => t = v ∧ H' = []) : PureC K g args v := by
  intro H w0 B0 Z0 w Z β vs m hl hr
  have hr' : ∀ (i : Nat) t u, args[i]? = some t → vs[i]? = some u → RelT K.P w Z β [] t u := fun i t u h1 h2 =>
    (show RelT K.P w Z β ([] ++ H) t u from hr i t u h1 h2).drop ((closedTs_iff 0 args).1 ha t (List.mem_of_getElem? h1))
  have key : ∀ (r : Value) (w' : World), (∃ tv H' Z' β', (tv = v ∧ H' = []) ∧ Mem ⟨K.P, w, w.heap.size, K.gv, Z⟩ w' Z' β' H' ∧ RelT K.P w' Z' β' H' tv r ∧ Ext w Z β [] w' Z' β' H') →
      ∃ tv H' Z' β', (tv = v ∧ H' = H) ∧ Mem ⟨K.P, w0, B0, K.gv, Z0⟩ w' Z' β' H' ∧ RelT K.P w' Z' β' H' tv r ∧ Ext w Z β H w' Z' β' H' := by
    rintro r w' ⟨_, _, Z', β', ⟨rfl, rfl⟩, m', r', x⟩
    have hx : Ext w Z β H w' Z' β H := ⟨Nat.le_refl _, x.z, fun _ h => ⟨h, rfl⟩, fun _ h => ⟨h, rfl⟩, fun _ _ es fz h => ⟨es, fz, h, Nat.le_refl _, fun _ => rfl⟩⟩
    have hb := m'.below
    have hz : ∀ b o, b < w.heap.size → Z' b o → Z b o := fun b o hlt h => (m'.zb b o h).elim (fun h' => absurd hlt (Nat.not_lt.2 h')) id
    refine ⟨_, _, Z', β, ⟨rfl, rfl⟩, ⟨m.below.trans (hb.mono m.b0), Nat.le_trans m.b0 hb.size, fun k o h => ?_, fun k b c hl h => ?_, m.inj, m'.zlt, fun b o h => ?_, m'.gl⟩, ?_, hx⟩
    · by_cases hn : o = .none
      · subst hn; trivial
      · exact (m.obj k o h).ext hx rfl fun b c hbc => have hp := (m.pos k b c ⟨o, h, hn⟩ hbc).2; ⟨hb.block b hp, fun o => hz b o hp⟩
    · have := m.pos k b c hl h
      exact ⟨this.1, Nat.lt_of_lt_of_le this.2 hb.size⟩
    · rcases m'.zb b o h with h1 | h1
      · exact .inl (Nat.le_trans m.b0 h1)
      · exact m.zb b o h1
    · exact r'.ext (⟨Nat.zero_le _, fun _ _ h => ⟨h, rfl, fun _ _ h => h⟩, fun k ⟨_, _, h⟩ => by simp at h, fun k ⟨_, _, h⟩ => by simp at h, fun _ _ _ _ h => by simp at h⟩ : Ext w' Z' β' [] w' Z' β H)
  rcases h w w.heap.size Z w Z β vs m.nil hl hr' with ⟨h1, h2⟩ | ⟨r, w', h1, h2⟩
  · exact .inl ⟨h1, h2.mono fun e w' ⟨r, he, hp⟩ => ⟨r, he, key r w' hp⟩⟩
  · exact .inr ⟨r, w', h1, key r w' h2⟩

theorem callW_fz {K : Kn} {g : FuncId} {caps : List CV} {as ts : List TV} {H H1 : List Ob} {Q : TV → List Ob → Prop} {v : TV} (h : PureC K g ts v) (hp : frzArgs H (as ++ caps.map .c) = (ts, H1)) (hq : Q v H1) : callW K (.c (.fn g caps)) as H Q := by
  refine callW_frz hp ((h H1).mono ?_)
  rintro t H' ⟨rfl, rfl⟩
  exact hq

/-! ### Temporaries by a list -/
def ofL : List (Nat × TV) → Nat → TV
  | [], _ => .c .any
  | p :: r, i => if i = p.1 then p.2 else ofL r i
def argsL : Nat → List TV → List (Nat × TV)
  | _, [] => []
  | i, t :: r => (i, t) :: argsL (i + 1) r
theorem ofL_args : ∀ (args : List TV) (i k : Nat), ofL (argsL k args) (k + i) = (args[i]?).getD (.c .any)
  | [], i, k => by simp [argsL, ofL]
  | t :: r, 0, k => by simp [argsL, ofL]
  | t :: r, i + 1, k => by
    have := ofL_args r i (k + 1)
    simp only [argsL, ofL, show ¬ k + (i + 1) = k by omega, if_false, List.getElem?_cons_succ]
    rw [← this]; congr 1; omega
theorem args_ofL (args : List TV) : (fun i => (args[i]?).getD (.c .any)) = ofL (argsL 0 args) := by
  funext i
  rw [← ofL_args args i 0, Nat.zero_add]
theorem ofL_nil (i : Nat) : ofL [] i = .c .any := rfl
theorem ofL_same (k : Nat) (v : TV) (r : List (Nat × TV)) : ofL ((k, v) :: r) k = v := by simp [ofL]
theorem ofL_ne (k i : Nat) (v : TV) (r : List (Nat × TV)) (h : i ≠ k) : ofL ((k, v) :: r) i = ofL r i := by simp [ofL, h]
def keepOk (f : Nat → TV) : List (Nat × TV) → Prop
  | [] => True
  | p :: r => f p.1 = p.2 ∧ keepOk f r
theorem ofL_keep {f : Nat → TV} : ∀ {l : List (Nat × TV)}, keepOk f l → ∀ i, ofL l i = .c .any ∨ ofL l i = f i
  | [], _, i => .inl rfl
  | p :: r, h, i => by
    by_cases e : i = p.1
    · subst e; right; simp [ofL, h.1]
    · simp only [ofL, if_neg e]; exact ofL_keep h.2 i
def closedL (n : Nat) : List (Nat × TV) → Bool
  | [] => true
  | p :: r => closedT n p.2 && closedL n r
theorem ofL_closed {n : Nat} : ∀ {l : List (Nat × TV)}, closedL n l = true → ∀ i, closedT n (ofL l i) = true
  | [], _, i => rfl
  | p :: r, h, i => by
    simp only [closedL, Bool.and_eq_true] at h
    by_cases e : i = p.1
    · simp [ofL, e, h.1]
    · simp only [ofL, if_neg e]; exact ofL_closed h.2 i
def closedHs (n : Nat) : List Ob → Bool
  | [] => true
  | o :: r => closedO n o && closedHs n r
theorem closedHs_all {n : Nat} : ∀ {l : List Ob}, closedHs n l = true → ∀ o ∈ l, closedO n o = true
  | [], _, o, h => by simp at h
  | p :: r, h, o, ho => by
    simp only [closedHs, Bool.and_eq_true] at h
    rcases List.mem_cons.1 ho with rfl | ho
    · exact h.1
    · exact closedHs_all h.2 o ho

section
variable {K : Kn} {H1 : List Ob} {f : Nat → TV} {H : List Ob} {n : Nat} {Φ : Exit → St → Prop} {s : St} {c d e : Code} {id : Nat}

theorem weak_keep {l : List (Nat × TV)} (hk : keepOk f l) : Weak K H1 ⟨f, H, n⟩ ⟨ofL l, H, n⟩ := weak_forget (s := ⟨f, H, n⟩) (ofL_keep hk)
/-- As weak_keep; and the objects behind the first ones are dropped. -/
theorem weak_keepD {H J : List Ob} {l : List (Nat × TV)} (hl : H1.length ≤ H.length) (hc : closedHs H.length H = true) (hk : keepOk f l) (hcl : closedL H.length l = true) : Weak K H1 ⟨f, H ++ J, n⟩ ⟨ofL l, H, n⟩ :=
  weak_drop (s := ⟨f, H ++ J, n⟩) rfl hl (closedHs_all hc) fun i => (ofL_keep hk i).imp_right fun h => ⟨h, ofL_closed hcl i⟩
theorem weak_keepT {H H' J : List Ob} {l : List (Nat × TV)} (hH : H = H' ++ J) (hl : H1.length ≤ H'.length) (hc : closedHs H'.length H' = true) (hk : keepOk f l) (hcl : closedL H'.length l = true) : Weak K H1 ⟨f, H, n⟩ ⟨ofL l, H', n⟩ := by
  subst hH
  exact weak_keepD hl hc hk hcl
theorem can_keep {l : List (Nat × TV)} (hk : keepOk f l) (h : Can K H1 c ⟨ofL l, H, n⟩ Φ) : Can K H1 c ⟨f, H, n⟩ Φ := can_weak (weak_keep hk) h
theorem can_keepD {H J : List Ob} {l : List (Nat × TV)} (hl : H1.length ≤ H.length) (hc : closedHs H.length H = true) (hk : keepOk f l) (hcl : closedL H.length l = true) (h : Can K H1 c ⟨ofL l, H, n⟩ Φ) : Can K H1 c ⟨f, H ++ J, n⟩ Φ :=
  can_weak (weak_keepD hl hc hk hcl) h

/-! ### What follows, as a list -/
inductive Fr where
  | sq (c : Code)
  | bl (id : Nat)
def kon (K : Kn) (H1 : List Ob) : List Fr → (Exit → St → Prop) → Exit → St → Prop
  | [], Φ => Φ
  | .sq d :: κ, Φ => thn (fun s' => Can K H1 d s' (kon K H1 κ Φ)) (kon K H1 κ Φ)
  | .bl id :: κ, Φ => inB id (kon K H1 κ Φ)
variable {κ : List Fr} {i j : Nat}
theorem k_start (h : Can K H1 c s (kon K H1 [] Φ)) : Can K H1 c s Φ := h
theorem k_seq (h : Can K H1 c s (kon K H1 (.sq d :: κ) Φ)) : Can K H1 (.seq c d) s (kon K H1 κ Φ) := can_seq h
theorem k_block (h : Can K H1 c s (kon K H1 (.bl id :: κ) Φ)) : Can K H1 (.block id c) s (kon K H1 κ Φ) := can_block h
/-- Normally to the end: what comes next. -/
def Nx (K : Kn) (H1 : List Ob) (κ : List Fr) (Φ : Exit → St → Prop) (s : St) : Prop := kon K H1 κ Φ .normal s
def Ex (K : Kn) (H1 : List Ob) (κ : List Fr) (Φ : Exit → St → Prop) (i : Nat) (s : St) : Prop := kon K H1 κ Φ (.exit i) s
def Rt (K : Kn) (H1 : List Ob) (κ : List Fr) (Φ : Exit → St → Prop) (s : St) : Prop := kon K H1 κ Φ .ret s
theorem n_sq (h : Can K H1 d s (kon K H1 κ Φ)) : Nx K H1 (.sq d :: κ) Φ s := h
theorem n_bl (h : Nx K H1 κ Φ s) : Nx K H1 (.bl id :: κ) Φ s := h
theorem n_nil (h : Φ .normal s) : Nx K H1 [] Φ s := h
theorem x_sq (h : Ex K H1 κ Φ i s) : Ex K H1 (.sq d :: κ) Φ i s := h
theorem x_hit (h : Nx K H1 κ Φ s) : Ex K H1 (.bl i :: κ) Φ i s := by unfold Ex kon; simp only [inB, if_true]; exact h
theorem x_miss (hi : i ≠ j) (h : Ex K H1 κ Φ i s) : Ex K H1 (.bl j :: κ) Φ i s := by unfold Ex kon; simp only [inB, if_neg hi]; exact h
theorem x_nil (h : Φ (.exit i) s) : Ex K H1 [] Φ i s := h
theorem t_sq (h : Rt K H1 κ Φ s) : Rt K H1 (.sq d :: κ) Φ s := h
theorem t_bl (h : Rt K H1 κ Φ s) : Rt K H1 (.bl i :: κ) Φ s := h
theorem t_nil (h : Φ .ret s) : Rt K H1 [] Φ s := h
theorem k_skip (h : Nx K H1 κ Φ s) : Can K H1 .skip s (kon K H1 κ Φ) := can_skip h
theorem k_exit (h : Ex K H1 κ Φ i s) : Can K H1 (.exit i) s (kon K H1 κ Φ) := can_exit h
theorem k_ret (h : Rt K H1 κ Φ s) : Can K H1 .ret s (kon K H1 κ Φ) := can_ret h
theorem k_cond {o : Operand} {x : Bool} (ho : ev K.gv s.tm o = .c (.d (.b x))) (h1 : x = true → Can K H1 c s (kon K H1 κ Φ)) (h2 : x = false → Can K H1 d s (kon K H1 κ Φ)) : Can K H1 (.cond o c d) s (kon K H1 κ Φ) := can_cond_split ho h1 h2
theorem k_true {o : Operand} (ho : ev K.gv s.tm o = .c (.d (.b true))) (h : Can K H1 c s (kon K H1 κ Φ)) : Can K H1 (.cond o c d) s (kon K H1 κ Φ) := can_cond ho h
theorem k_false {o : Operand} (ho : ev K.gv s.tm o = .c (.d (.b false))) (h : Can K H1 d s (kon K H1 κ Φ)) : Can K H1 (.cond o c d) s (kon K H1 κ Φ) := can_cond ho h
theorem k_keep {l : List (Nat × TV)} (hk : keepOk f l) (h : Can K H1 c ⟨ofL l, H, n⟩ (kon K H1 κ Φ)) : Can K H1 c ⟨f, H, n⟩ (kon K H1 κ Φ) := can_keep hk h
def dstOkL (n : Nat) (l : List Oper) : Bool := l.all fun o => match o.dst with | some d => decide (d < n) | none => true
theorem dstOkL_eq (ops : Array Oper) : dstOk n ops = dstOkL n ops.toList := by
  unfold dstOk dstOkL
  rw [← Array.all_toList]
  congr 1
theorem k_region {ops : Array Oper} (hok : dstOkL n ops.toList = true)
    (h : ∀ (Q : St → Prop) (all : Array Oper), (∀ j, dstOf all j = (ops.toList[j]?).bind (·.dst)) → (∀ s', Nx K H1 κ Φ s' → Q s') → opsW K all ops.toList ⟨f, H, n⟩ Q) : Can K H1 (.region id ops false) ⟨f, H, n⟩ (kon K H1 κ Φ) :=
  can_region (dstOkL_eq (n := n) ops ▸ hok) (h _ ops (fun j => by simp [dstOf]) fun _ h => h)
theorem k_draw {all : Array Oper} (hm : K.P.follows .mixedOrders = true) (hok : (dstOkL n all.toList && drawOk all) = true)
    (h : ∀ (Q : St → Prop) (al : Array Oper), (∀ j, dstOf al j = (all.toList[j]?).bind (·.dst)) → (∀ i j, bf al i j = bf all i j) → (∀ s', Nx K H1 κ Φ s' → Q s') → drawS K al all.toList 0 ⟨f, H, n⟩ [] [] Q) : Can K H1 (.region id all true) ⟨f, H, n⟩ (kon K H1 κ Φ) :=
  can_draw hm (by rw [dstOkL_eq]; exact hok) (h _ all (fun j => by simp [dstOf]) (fun _ _ => rfl) fun _ h => h)
/-- The temporaries of a list, as they are. -/
def liveL (f : Nat → TV) : List Nat → List (Nat × TV)
  | [] => []
  | t :: ts => (t, f t) :: liveL f ts
theorem liveL_ok (f : Nat → TV) : ∀ ts, keepOk f (liveL f ts)
  | [] => trivial
  | t :: ts => ⟨rfl, liveL_ok f ts⟩
theorem k_live (ts : List Nat) (h : Can K H1 c ⟨ofL (liveL f ts), H, n⟩ (kon K H1 κ Φ)) : Can K H1 c ⟨f, H, n⟩ (kon K H1 κ Φ) := k_keep (liveL_ok f ts) h
theorem k_regionL (ts : List Nat) {ops : Array Oper} (hok : dstOkL n ops.toList = true)
    (h : ∀ (Q : St → Prop) (all : Array Oper), (∀ j, dstOf all j = (ops.toList[j]?).bind (·.dst)) → (∀ s', Nx K H1 κ Φ s' → Q s') → opsW K all ops.toList ⟨ofL (liveL f ts), H, n⟩ Q) : Can K H1 (.region id ops false) ⟨f, H, n⟩ (kon K H1 κ Φ) :=
  k_live ts (k_region hok h)
theorem k_drawL (ts : List Nat) {all : Array Oper} (hm : K.P.follows .mixedOrders = true) (hok : (dstOkL n all.toList && drawOk all) = true)
    (h : ∀ (Q : St → Prop) (al : Array Oper), (∀ j, dstOf al j = (all.toList[j]?).bind (·.dst)) → (∀ i j, bf al i j = bf all i j) → (∀ s', Nx K H1 κ Φ s' → Q s') → drawS K al all.toList 0 ⟨ofL (liveL f ts), H, n⟩ [] [] Q) : Can K H1 (.region id all true) ⟨f, H, n⟩ (kon K H1 κ Φ) :=
  k_live ts (k_draw hm hok h)
/-- A loop whose rounds end in a state that I tells again; behind it nothing is reached but by an exit. -/
theorem k_loop (I : Nat → St → Prop) (m : Nat) {s0 : St} (hw : Weak K H1 s s0) (h0 : I m s0)
    (hr : ∀ (m : Nat) (s : St), I m s → ∀ (Ψ : Exit → St → Prop), (∀ m' s' s'', m' < m → Weak K H1 s' s'' → I m' s'' → Ψ .normal s') → (∀ e s', e ≠ .normal → kon K H1 κ Φ e s' → Ψ e s') → Can K H1 c s (kon K H1 [] Ψ)) :
    Can K H1 (.loop c) s (kon K H1 κ Φ) := by
  refine can_loop I m hw h0 fun m s hI => hr m s hI _ (fun m' s' s'' h1 h2 h3 => ⟨m', s'', h1, h2, h3⟩) fun e s' he h => ?_
  cases e with
  | normal => exact absurd rfl he
  | _ => exact h
theorem Ex.of {Ψ : Exit → St → Prop} (hx : ∀ e s', e ≠ .normal → kon K H1 κ Φ e s' → Ψ e s') (h : Ex K H1 κ Φ i s) : Ψ (.exit i) s := hx _ _ (by simp) h
theorem Rt.of {Ψ : Exit → St → Prop} (hx : ∀ e s', e ≠ .normal → kon K H1 κ Φ e s' → Ψ e s') (h : Rt K H1 κ Φ s) : Ψ .ret s := hx _ _ (by simp) h
/-- The result of a function that is run without objects, and leaves none. -/
theorem retP_nil {rs : List ResultVar} {Ξ : TV → List Ob → Prop} {t t' : TV} {J : List Ob} (hr : resT K.P ⟨f, H, n⟩ rs = some t) (hf : frzTV H t = (t', J)) (hc : closedT 0 t' = true) (h : Ξ t' []) {e : Exit} (he : e = .ret ∨ e = .normal) :
    retP K [] rs Ξ e ⟨f, H, n⟩ := by
  have key : ∃ t t' H', resT K.P ⟨f, H, n⟩ rs = some t ∧ WeakR K [] H t H' t' ∧ Ξ t' H' := ⟨t, t', [], hr, weakR_pure (H := []) (J := J) (by simpa using hf) (Nat.le_refl _) (fun o h => by simp at h) hc, h⟩
  rcases he with rfl | rfl
  · exact key
  · exact key
end

theorem pure_of_can {K : Kn} {f : FuncId} {fn : Func} {c : Code} {args : List TV} {v : TV} (hf : K.P.funcs[f]? = some fn) (hb : fn.body = some c) {nt : Nat} {rs : List ResultVar} (hnt : fn.ntmps = nt) (hrs : fn.results.toList = rs)
    (hn : (fn.name == "runtime.NumGoroutine") = false) (hl : args.length ≤ nt) (ha : closedTs 0 args = true)
    (h : ∀ Φ : Exit → St → Prop, (∀ (f' : Nat → TV) (H' : List Ob) (t : TV) (J : List Ob), resT K.P ⟨f', H', nt⟩ rs = some t → frzTV H' t = (v, J) → closedT 0 v = true → Φ .ret ⟨f', H', nt⟩ ∧ Φ .normal ⟨f', H', nt⟩) →
      Can K [] c ⟨ofL (argsL 0 args), [], nt⟩ (kon K [] [] Φ)) : PureC K f args v := by
  subst hnt hrs
  refine .of_nil ha (func_of_can hf hb hn hl fun _ => ?_)
  show Can K [] c ⟨fun i => (args[i]?).getD (.c .any), [], _⟩ _
  rw [args_ofL]
  exact h _ fun f' H' t J h1 h2 h3 => ⟨retP_nil h1 h2 h3 ⟨rfl, rfl⟩ (.inl rfl), retP_nil h1 h2 h3 ⟨rfl, rfl⟩ (.inr rfl)⟩
attribute [irreducible] Nx Ex Rt
theorem splice_s {α : Type} (x : α) (l : List α) (o : Nat) (xs : List α) : splice (x :: l) (o + 1) xs = x :: splice l o xs := by
  simp only [splice, List.take_succ_cons, List.cons_append]
  rw [show o + 1 + xs.length = o + xs.length + 1 by omega, List.drop_succ_cons]
theorem splice_z {α : Type} (x : α) (l : List α) (y : α) (ys : List α) : splice (x :: l) 0 (y :: ys) = y :: splice l 0 ys := by
  simp [splice]
theorem splice_n {α : Type} (l : List α) : splice l 0 [] = l := by simp [splice]
theorem splice_all {α : Type} (l ys : List α) (h : ys.length = l.length) : splice l 0 ys = ys := by
  simp [splice, h]
theorem lit0 {α : Type} (a : α) (l : List α) : (a :: l)[0]? = some a := rfl
theorem litS {α : Type} (a : α) (l : List α) (n : Nat) : (a :: l)[n + 1]? = l[n]? := rfl
attribute [go_sem] List.drop_succ_cons List.drop_zero List.take_succ_cons List.take_zero List.drop_nil List.take_nil List.length_map Nat.add_zero Nat.zero_add
attribute [go_sem] List.all_cons List.all_nil Bool.true_and if_true if_false ne_eq not_false_eq_true Option.map_some Option.map_none Option.bind_some Option.bind_none List.map_cons List.map_nil
attribute [go_sem] liveL
attribute [go_sem] splice_s splice_z splice_n splice_all
attribute [go_sem] ofL_nil ofL_same ofL_ne argsL lit0 litS List.length_nil List.length_cons List.nil_append List.cons_append List.set_cons_zero List.set_cons_succ keepOk and_true true_and closedL closedHs closedO closedCs closedTs closedT closedC Bool.and_true Bool.and_self decide_eq_true_eq
end Go.Proofs.Ythnnnnaifnddbaa
