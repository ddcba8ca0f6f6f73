/- An evaluator of ideal states, for runs on constants. -/
import Derived.Test.YthnnnnaifnddbaaEB
set_option linter.unusedVariables false
set_option linter.unusedSimpArgs false
namespace Go.Proofs.Ythnnnnaifnddbaa

def putE (n : Nat) (t : Nat → TV) (d : Option Nat) (v : TV) : Option (Nat → TV) := match d with
  | some k => cond (Nat.blt k n) (some fun i => cond (Nat.beq i k) v (t i)) none
  | none => some t
theorem putE_some {n : Nat} {t t' : Nat → TV} {k : Nat} {v : TV} (h : putE n t (some k) v = some t') : k < n ∧ t' = upd t k v := by
  simp only [putE] at h
  cases hk : Nat.blt k n with
  | false => rw [hk] at h; cases h
  | true =>
    rw [hk] at h
    simp only [cond_true, Option.some.injEq] at h
    refine ⟨by simpa [Nat.blt_eq] using hk, ?_⟩
    subst h
    funext i
    by_cases e : i = k
    · subst e; simp [upd]
    · have : Nat.beq i k = false := by rw [Bool.eq_false_iff]; intro h; exact e (Nat.eq_of_beq_eq_true h)
      simp [upd, e, this]
theorem putE_st {n : Nat} {t t' : Nat → TV} {d : Option Nat} {v : TV} {H H' : List Ob} (h : putE n t d v = some t') : ({ (⟨t, H, n⟩ : St) with H := H' } : St).put d v = ⟨t', H', n⟩ := by
  cases d with
  | none => simp [putE] at h; subst h; rfl
  | some d => obtain ⟨_, rfl⟩ := putE_some h; rfl

abbrev CallE := FuncId → List TV → List Ob → Option (TV × List Ob)
/-- Functions known as pure. -/
abbrev TabP := FuncId → List TV → Option TV
def TabPOk (K : Kn) (tp : TabP) : Prop := ∀ g as v, tp g as = some v → PureC K g as v

/-- One operation. -/
def opE (K : Kn) (call : CallE) (t : Nat → TV) (H : List Ob) (op : Op) : Option (TV × List Ob) := match op with
  | .call ⟨.value f, args, _⟩ => match ev K.gv t f with
    | .c (.fn g caps) => call g (frzArgs H (args.toList.map (ev K.gv t) ++ caps.map .c)).1 (frzArgs H (args.toList.map (ev K.gv t) ++ caps.map .c)).2
    | _ => none
  | op => opF K.P K.gv t H op
def opsE (K : Kn) (call : CallE) (n : Nat) (all : Array Oper) : List Oper → (Nat → TV) → List Ob → Option ((Nat → TV) × List Ob)
  | [], t, H => some (t, H)
  | o :: r, t, H => match o.guard with
    | none => match opE K call t H o.op with
      | some (v, H') => match putE n t o.dst v with
        | some t' => opsE K call n all r t' H'
        | none => none
      | none => none
    | some (j, b) => match dstOf all j with
      | none => none
      | some q => match t q with
        | .c (.d (.b x)) => if x = b then (match opE K call t H o.op with
            | some (v, H') => match putE n t o.dst v with
              | some t' => opsE K call n all r t' H'
              | none => none
            | none => none)
          else match putE n t o.dst (.c .any) with
            | some t' => opsE K call n all r t' H
            | none => none
        | _ => none

def CallOk (K : Kn) (call : CallE) : Prop := ∀ g as H v H', call g as H = some (v, H') → FunC K g as H fun t H'' => t = v ∧ H'' = H'

section
variable {K : Kn} {call : CallE}

theorem opE_sound (hc : CallOk K call) {t : Nat → TV} {H H' : List Ob} {o : Oper} {v : TV} {n : Nat} (h : opE K call t H o.op = some (v, H')) {Q : TV → List Ob → Prop} (hq : Q v H') : stepW K t H o Q := by
  unfold opE at h
  unfold stepW
  split at h
  · rename_i f args ts ho
    rw [ho]
    simp only
    split at h
    · rename_i g caps hg
      rw [hg]
      refine .inl ((hc _ _ _ _ _ h).mono ?_)
      rintro t' H'' ⟨rfl, rfl⟩
      exact hq
    · cases h
  · rename_i op hne
    split
    · rename_i f args ts ho
      exact absurd ho (hne f args ts)
    · rw [h]; exact hq

theorem opsE_sound (hc : CallOk K call) {all : Array Oper} {n : Nat} : ∀ (l : List Oper) {t t' : Nat → TV} {H H' : List Ob} {Q : St → Prop}, opsE K call n all l t H = some (t', H') → Q ⟨t', H', n⟩ →
    opsW K all l ⟨t, H, n⟩ Q
  | [], t, t', H, H', Q, h, hq => by
    simp only [opsE, Option.some.injEq, Prod.mk.injEq] at h
    obtain ⟨rfl, rfl⟩ := h
    exact hq
  | o :: r, t, t', H, H', Q, h, hq => by
    have run : ∀ (hh : (match opE K call t H o.op with
        | some (v, H') => match putE n t o.dst v with
          | some t' => opsE K call n all r t' H'
          | none => none
        | none => none) = some (t', H')), stepW K t H o (fun v H1 => opsW K all r (({ (⟨t, H, n⟩ : St) with H := H1 } : St).put o.dst v) Q) := by
      intro hh
      split at hh
      · rename_i v H1 ho
        split at hh
        · rename_i t1 hp
          have ih := opsE_sound hc r hh hq
          refine opE_sound (n := n) hc ho ?_
          rw [putE_st hp]
          exact ih
        · cases hh
      · cases hh
    simp only [opsE] at h
    simp only [opsW]
    split at h
    · rename_i hg
      simp only [hg]
      exact run h
    · rename_i j b hg
      simp only [hg]
      split at h
      · cases h
      · rename_i q hd
        split at h
        · rename_i x hx
          simp only [hd, hx]
          split at h
          · rename_i e
            have := run h
            exact ⟨fun _ => this, fun e' => by subst e; cases x <;> simp at e'⟩
          · rename_i e
            split at h
            · rename_i t1 hp
              have ih := opsE_sound hc r h hq
              refine ⟨fun e' => absurd e' e, fun _ => ?_⟩
              have := putE_st (H := H) (H' := H) (n := n) hp
              rw [show ((⟨t, H, n⟩ : St).put o.dst (.c .any)) = ⟨t1, H, n⟩ from this]
              exact ih
            · cases h
        · cases h

/-! ### Regions that draw -/
def rOkE (all : Array Oper) (i : Nat) (rd : List Nat) (H : List Ob) (hist : Hist) : Bool := rd.isEmpty || hist.all fun x => bf all x.1 i || rd.all (sameO H x.2)
def eOkE (all : Array Oper) (i : Nat) (H H' : List Ob) (hist : Hist) (rds : Rds) : Bool := (hist.all fun x => bf all x.1 i) && rds.all fun x => x.2.isEmpty || bf all x.1 i || x.2.all (sameO H H')
theorem rOkE_sound {all : Array Oper} {i : Nat} {rd : List Nat} {H : List Ob} {hist : Hist} (h : rOkE all i rd H hist = true) : rOk all i rd H hist := by
  intro x hx
  simp only [rOkE, Bool.or_eq_true, List.isEmpty_iff, List.all_eq_true] at h
  rcases h with rfl | h
  · exact .inl (by simp)
  · rcases h x hx with e | e
    · exact .inr e
    · exact .inl fun k hk => sameO_sound (e k hk)
theorem eOkE_sound {all : Array Oper} {i : Nat} {H H' : List Ob} {hist : Hist} {rds : Rds} (h : eOkE all i H H' hist rds = true) : eOk all i H H' hist rds := by
  simp only [eOkE, Bool.and_eq_true, List.all_eq_true, Bool.or_eq_true, List.isEmpty_iff] at h
  refine ⟨fun x hx => h.1 _ hx, fun x hx => ?_⟩
  rcases h.2 x hx with (e | e) | e
  · exact .inl (by rw [e]; simp)
  · exact .inr e
  · exact .inl fun k hk => sameO_sound (e k hk)
/-- One operation, and what it looks at ('none': it may turn an object). -/
def drawE1 (K : Kn) (tp : TabP) (call : CallE) (t : Nat → TV) (H : List Ob) (op : Op) : Option (TV × List Ob × Option (List Nat)) := match op with
  | .call ⟨.value f, args, _⟩ => match ev K.gv t f with
    | .c (.fn g caps) => match pureArgs (args.toList.map (ev K.gv t) ++ caps.map .c) with
      | some ts => match tp g ts with
        | some v => some (v, H, some [])
        | none => if closedTs 0 ts then (match call g ts [] with
          | some (v, []) => some (v, H, some [])
          | _ => match call g ts H with
            | some (v, H') => some (v, H', none)
            | none => none) else (match call g ts H with
          | some (v, H') => some (v, H', none)
          | none => none)
      | none => none
    | _ => none
  | op => match opF K.P K.gv t H op with
    | some (v, H') => some (v, H', rdOf K.gv t op)
    | none => none
def drawE (K : Kn) (tp : TabP) (call : CallE) (n : Nat) (all : Array Oper) : List Oper → Nat → (Nat → TV) → List Ob → Hist → Rds → Option ((Nat → TV) × List Ob)
  | [], _, t, H, _, _ => some (t, H)
  | o :: r, i, t, H, hist, rds => match (match o.guard with
      | none => some true
      | some (j, b) => match dstOf all j with
        | none => none
        | some q => match t q with
          | .c (.d (.b x)) => some (x == b)
          | _ => none) with
    | some true => match drawE1 K tp call t H o.op with
      | some (v, H', some rd) => if rOkE all i rd H hist then (match putE n t o.dst v with
          | some t' => drawE K tp call n all r (i + 1) t' H' hist ((i, rd) :: rds)
          | none => none) else none
      | some (v, H', none) => if eOkE all i H H' hist rds then (match putE n t o.dst v with
          | some t' => drawE K tp call n all r (i + 1) t' H' ((i, H) :: hist) rds
          | none => none) else none
      | none => none
    | some false => match putE n t o.dst (.c .any) with
      | some t' => drawE K tp call n all r (i + 1) t' H hist ((i, []) :: rds)
      | none => none
    | none => none
theorem drawE1_sound {tp : TabP} (hp : TabPOk K tp) (hc : CallOk K call) {all : Array Oper} {i : Nat} {t : Nat → TV} {H H' : List Ob} {o : Oper} {v : TV} {n : Nat} {rd : Option (List Nat)} (h : drawE1 K tp call t H o.op = some (v, H', rd)) {hist : Hist} {rds : Rds}
    {next : TV → List Ob → Hist → Rds → Prop} (hk : match rd with
      | some rd => rOk all i rd H hist ∧ next v H' hist ((i, rd) :: rds)
      | none => eOk all i H H' hist rds ∧ next v H' ((i, H) :: hist) rds) : drawO K all i o ⟨t, H, n⟩ hist rds next := by
  unfold drawE1 at h
  unfold drawO
  split at h
  · rename_i f args ts ho
    rw [ho]
    simp only
    split at h
    · rename_i g caps hg
      rw [hg]
      simp only
      split at h
      · rename_i ts' hpa
        rw [hpa]
        simp only
        split at h
        · rename_i v' htp
          cases h
          exact .inl ⟨v, hp _ _ _ htp, hk.2⟩
        split at h
        · rename_i hcl
          split at h
          · rename_i v' hcall
            cases h
            exact .inl ⟨v, PureC.of_nil hcl (hc _ _ _ _ _ hcall), hk.2⟩
          · split at h
            · rename_i v' H1 hcall
              cases h
              exact .inr ⟨v, H', hc _ _ _ _ _ hcall, hk.1, hk.2⟩
            · cases h
        · split at h
          · rename_i v' H1 hcall
            cases h
            exact .inr ⟨v, H', hc _ _ _ _ _ hcall, hk.1, hk.2⟩
          · cases h
      · cases h
    · cases h
  · rename_i op hne
    split
    · rename_i f args ts ho
      exact absurd ho (hne f args ts)
    · split at h
      · rename_i v' H1 ho
        simp only [Option.some.injEq, Prod.mk.injEq] at h
        obtain ⟨rfl, rfl, h3⟩ := h
        simp only [ho, h3]
        cases rd with
        | none => exact hk
        | some rd =>
          have := (opF_R (H' := H) h3 ho).1
          subst this
          exact hk
      · cases h

theorem drawE_sound {tp : TabP} (hp0 : TabPOk K tp) (hc : CallOk K call) {all : Array Oper} {n : Nat} : ∀ (l : List Oper) (i : Nat) {t t' : Nat → TV} {H H' : List Ob} {hist : Hist} {rds : Rds} {Q : St → Prop},
    drawE K tp call n all l i t H hist rds = some (t', H') → Q ⟨t', H', n⟩ → drawS K all l i ⟨t, H, n⟩ hist rds Q
  | [], i, t, t', H, H', hist, rds, Q, h, hq => by
    simp only [drawE, Option.some.injEq, Prod.mk.injEq] at h
    obtain ⟨rfl, rfl⟩ := h
    exact hq
  | o :: r, i, t, t', H, H', hist, rds, Q, h, hq => by
    simp only [drawE] at h
    simp only [drawS]
    have run : (match drawE1 K tp call t H o.op with
      | some (v, H', some rd) => if rOkE all i rd H hist then (match putE n t o.dst v with
          | some t' => drawE K tp call n all r (i + 1) t' H' hist ((i, rd) :: rds)
          | none => none) else none
      | some (v, H', none) => if eOkE all i H H' hist rds then (match putE n t o.dst v with
          | some t' => drawE K tp call n all r (i + 1) t' H' ((i, H) :: hist) rds
          | none => none) else none
      | none => none) = some (t', H') →
        drawO K all i o ⟨t, H, n⟩ hist rds (fun v H' h' r' => drawS K all r (i + 1) (({ (⟨t, H, n⟩ : St) with H := H' } : St).put o.dst v) h' r' Q) := by
      intro h
      split at h
      · rename_i v H1 rd ho
        split at h
        · rename_i hrok
          split at h
          · rename_i t1 hp
            have ih := drawE_sound hp0 hc r (i + 1) (hist := hist) (rds := (i, rd) :: rds) h hq
            refine drawE1_sound (n := n) hp0 hc ho ⟨rOkE_sound hrok, ?_⟩
            rw [show (({ (⟨t, H, n⟩ : St) with H := H1 } : St).put o.dst v) = _ from putE_st hp]
            exact ih
          · cases h
        · cases h
      · rename_i v H1 ho
        split at h
        · rename_i hrok
          split at h
          · rename_i t1 hp
            have ih := drawE_sound hp0 hc r (i + 1) (hist := (i, H) :: hist) (rds := rds) h hq
            refine drawE1_sound (n := n) hp0 hc ho ⟨eOkE_sound hrok, ?_⟩
            rw [show (({ (⟨t, H, n⟩ : St) with H := H1 } : St).put o.dst v) = _ from putE_st hp]
            exact ih
          · cases h
        · cases h
      · cases h
    cases hg : o.guard with
    | none =>
      simp only [hg] at h
      exact run h
    | some p =>
      obtain ⟨j, b⟩ := p
      simp only [hg] at h
      cases hd : dstOf all j with
      | none => simp [hd] at h
      | some q =>
        simp only [hd] at h
        simp only [hd]
        generalize hx : t q = z at h
        cases z with
        | c y => cases y with
          | d y => cases y with
            | b x =>
              simp only at h
              simp only [hx]
              split at h
              · rename_i e
                have e' : x = b := by simpa using e
                have := run h
                exact ⟨fun _ => this, fun e2 => by subst e'; cases x <;> simp at e2⟩
              · rename_i e
                have e' : ¬ x = b := by simpa using e
                split at h
                · rename_i t1 hp
                  have ih := drawE_sound hp0 hc r (i + 1) (hist := hist) (rds := (i, []) :: rds) h hq
                  refine ⟨fun e2 => absurd e2 e', fun _ => ?_⟩
                  have := putE_st (H := H) (H' := H) (n := n) hp
                  rw [show ((⟨t, H, n⟩ : St).put o.dst (.c .any)) = ⟨t1, H, n⟩ from this]
                  exact ih
                · cases h
              · rename_i e; cases e
            | _ => simp at h
          | _ => simp at h
        | _ => simp at h

/-! ### Code -/
inductive EE where
  | n
  | e (i : Nat)
  | r
def loopE (step : (Nat → TV) → List Ob → Option (EE × (Nat → TV) × List Ob)) : Nat → (Nat → TV) → List Ob → Option (EE × (Nat → TV) × List Ob)
  | 0, _, _ => none
  | m + 1, t, H => match step t H with
    | some (.n, t', H') => loopE step m t' H'
    | x => x
def codeE (K : Kn) (tp : TabP) (call : CallE) (m n : Nat) : Code → (Nat → TV) → List Ob → Option (EE × (Nat → TV) × List Ob)
  | .skip, t, H => some (.n, t, H)
  | .ret, t, H => some (.r, t, H)
  | .exit i, t, H => some (.e i, t, H)
  | .seq c d, t, H => match codeE K tp call m n c t H with
    | some (.n, t', H') => codeE K tp call m n d t' H'
    | x => x
  | .block i c, t, H => match codeE K tp call m n c t H with
    | some (.e j, t', H') => if j = i then some (.n, t', H') else some (.e j, t', H')
    | x => x
  | .cond o c d, t, H => match ev K.gv t o with
    | .c (.d (.b x)) => if x then codeE K tp call m n c t H else codeE K tp call m n d t H
    | _ => none
  | .loop c, t, H => loopE (codeE K tp call m n c) m t H
  | .region _ ops false, t, H => match opsE K call n ops ops.toList t H with
    | some (t', H') => some (.n, t', H')
    | none => none
  | .region _ ops true, t, H => if dstOkL n ops.toList && drawOk ops then (match drawE K tp call n ops ops.toList 0 t H [] [] with
    | some (t', H') => some (.n, t', H')
    | none => none) else none
  | _, _, _ => none
def exOf : EE → Exit
  | .n => .normal
  | .e i => .exit i
  | .r => .ret
theorem opsE_dst {all : Array Oper} {n : Nat} : ∀ (l : List Oper) {t t' : Nat → TV} {H H' : List Ob}, opsE K call n all l t H = some (t', H') → dstOkL n l = true
  | [], _, _, _, _, _ => rfl
  | o :: r, t, t', H, H', h => by
    have hd : ∀ {v : TV} {t1 : Nat → TV}, putE n t o.dst v = some t1 → dstOkL n r = true → dstOkL n (o :: r) = true := by
      intro v t1 hp hr
      simp only [dstOkL, List.all_cons, Bool.and_eq_true] at hr ⊢
      refine ⟨?_, hr⟩
      cases hod : o.dst with
      | none => rfl
      | some d =>
        rw [hod] at hp
        simpa using (putE_some hp).1
    have run : (match opE K call t H o.op with
        | some (v, H') => match putE n t o.dst v with
          | some t' => opsE K call n all r t' H'
          | none => none
        | none => none) = some (t', H') → dstOkL n (o :: r) = true := by
      intro hh
      split at hh
      · split at hh
        · rename_i t1 hp
          exact hd hp (opsE_dst r hh)
        · cases hh
      · cases hh
    simp only [opsE] at h
    split at h
    · exact run h
    · split at h
      · cases h
      · split at h
        · split at h
          · exact run h
          · split at h
            · rename_i t1 hp
              exact hd hp (opsE_dst r h)
            · cases h
        · cases h
/-- The evaluator is right. -/
theorem loopE_sound {H1 : List Ob} {c : Code} {n : Nat} {step : (Nat → TV) → List Ob → Option (EE × (Nat → TV) × List Ob)}
    (hs : ∀ t H e t' H', step t H = some (e, t', H') → ∀ Φ : Exit → St → Prop, Φ (exOf e) ⟨t', H', n⟩ → Can K H1 c ⟨t, H, n⟩ Φ) :
    ∀ (m : Nat) t H e t' H', loopE step m t H = some (e, t', H') → ∀ Φ : Exit → St → Prop, Φ (exOf e) ⟨t', H', n⟩ → Can K H1 (.loop c) ⟨t, H, n⟩ Φ := by
  intro m t H e t' H' h Φ hΦ
  refine can_loop (fun k s => ∃ t0 H0, s = ⟨t0, H0, n⟩ ∧ loopE step k t0 H0 = some (e, t', H')) m (Weak.refl _) ⟨t, H, rfl, h⟩ ?_
  rintro k _ ⟨t0, H0, rfl, hk⟩
  cases k with
  | zero => simp [loopE] at hk
  | succ k =>
    simp only [loopE] at hk
    split at hk
    · rename_i t1 H1' hst
      exact hs _ _ _ _ _ hst _ ⟨k, _, Nat.lt_succ_self _, Weak.refl _, t1, H1', rfl, hk⟩
    · rename_i hne
      refine hs _ _ _ _ _ hk _ ?_
      cases e with
      | n => exact absurd hk (hne t' H')
      | e i => exact hΦ
      | r => exact hΦ
theorem codeE_sound {tp : TabP} (hp0 : TabPOk K tp) (hc : CallOk K call) (hm : K.P.follows .mixedOrders = true) {H1 : List Ob} {m n : Nat} : ∀ (c : Code) t H e t' H', codeE K tp call m n c t H = some (e, t', H') →
    ∀ Φ : Exit → St → Prop, Φ (exOf e) ⟨t', H', n⟩ → Can K H1 c ⟨t, H, n⟩ Φ := by
  intro c
  induction c with
  | skip => intro t H e t' H' h; simp only [codeE, Option.some.injEq, Prod.mk.injEq] at h; obtain ⟨rfl, rfl, rfl⟩ := h; exact fun Φ h => can_skip h
  | ret => intro t H e t' H' h; simp only [codeE, Option.some.injEq, Prod.mk.injEq] at h; obtain ⟨rfl, rfl, rfl⟩ := h; exact fun Φ h => can_ret h
  | exit i => intro t H e t' H' h; simp only [codeE, Option.some.injEq, Prod.mk.injEq] at h; obtain ⟨rfl, rfl, rfl⟩ := h; exact fun Φ h => can_exit h
  | seq c d ihc ihd =>
    intro t H e t' H' h
    simp only [codeE] at h
    split at h
    · rename_i t1 H1' hst
      exact fun Φ hΦ => can_seq (ihc _ _ _ _ _ hst _ (ihd _ _ _ _ _ h Φ hΦ))
    · rename_i hne
      refine fun Φ hΦ => can_seq (ihc _ _ _ _ _ h _ ?_)
      cases e with
      | n => exact absurd h (hne t' H')
      | e i => exact hΦ
      | r => exact hΦ
  | block i c ih =>
    intro t H e t' H' h
    simp only [codeE] at h
    split at h
    · rename_i j t1 H1' hst
      have g2 := ih _ _ _ _ _ hst
      split at h
      · rename_i hj
        cases h
        exact fun Φ hΦ => can_block (g2 _ (by subst hj; simp only [exOf, inB, if_true]; exact hΦ))
      · rename_i hj
        cases h
        exact fun Φ hΦ => can_block (g2 _ (by simp only [exOf, inB, if_neg hj]; exact hΦ))
    · rename_i hne
      refine fun Φ hΦ => can_block (ih _ _ _ _ _ h _ ?_)
      cases e with
      | n => exact hΦ
      | e i => exact absurd h (hne i t' H')
      | r => exact hΦ
  | cond o c d ihc ihd =>
    intro t H e t' H' h
    simp only [codeE] at h
    split at h
    · rename_i x hx
      cases x
      · exact fun Φ hΦ => can_cond (x := false) hx (ihd _ _ _ _ _ (by simpa using h) Φ hΦ)
      · exact fun Φ hΦ => can_cond (x := true) hx (ihc _ _ _ _ _ (by simpa using h) Φ hΦ)
    · cases h
  | loop c ih =>
    intro t H e t' H' h
    simp only [codeE] at h
    exact loopE_sound (fun t H e t' H' h => ih t H e t' H' h) m t H e t' H' h
  | region id ops draw =>
    intro t H e t' H' h
    cases draw
    · simp only [codeE] at h
      split at h
      · rename_i t1 H1' hst
        cases h
        have hd := opsE_dst _ hst
        exact fun Φ hΦ => can_region (by rw [dstOkL_eq]; exact hd) (opsE_sound hc _ hst hΦ)
      · cases h
    · simp only [codeE] at h
      split at h
      · rename_i hok
        split at h
        · rename_i t1 H1' hst
          cases h
          exact fun Φ hΦ => can_draw hm (by rw [dstOkL_eq]; exact hok) (drawE_sound (hist := []) hp0 hc _ 0 hst hΦ)
        · cases h
      · cases h
  | _ => intro t H e t' H' h; simp [codeE] at h

/-! ### Functions -/
theorem FunC.dropJ {f : FuncId} {as : List TV} {H H2 J : List Ob} {v : TV} (h : FunC K f as H fun t H' => t = v ∧ H' = H2 ++ J) (hl : H.length ≤ H2.length) (hc : ClosedH H2) (hv : closedT H2.length v = true) :
    FunC K f as H fun t H' => t = v ∧ H' = H2 := by
  intro w0 B0 Z0 w Z β vs m hln hr
  have key : ∀ (r : Value) (w' : World), (∃ tv H' Z' β', (tv = v ∧ H' = H2 ++ J) ∧ Mem ⟨K.P, w0, B0, K.gv, Z0⟩ w' Z' β' H' ∧ RelT K.P w' Z' β' H' tv r ∧ Ext w Z β H w' Z' β' H') →
      ∃ tv H' Z' β', (tv = v ∧ H' = H2) ∧ Mem ⟨K.P, w0, B0, K.gv, Z0⟩ w' Z' β' H' ∧ RelT K.P w' Z' β' H' tv r ∧ Ext w Z β H w' Z' β' H' := by
    rintro r w' ⟨_, _, Z', β', ⟨rfl, rfl⟩, m', r', x⟩
    exact ⟨_, _, Z', β', ⟨rfl, rfl⟩, m'.drop hc, r'.drop hv, x.drop hl⟩
  rcases h w0 B0 Z0 w Z β vs m hln hr with ⟨h1, h2⟩ | ⟨r, w', h1, h2⟩
  · exact .inl ⟨h1, h2.mono fun e w' ⟨r, he, hp⟩ => ⟨r, he, key r w' hp⟩⟩
  · exact .inr ⟨r, w', h1, key r w' h2⟩
def truncE (n : Nat) (x : TV × List Ob) : TV × List Ob := if decide (n ≤ x.2.length) && closedT n x.1 && closedHs n (x.2.take n) then (x.1, x.2.take n) else x
theorem FunC.trunc {f : FuncId} {as : List TV} {H : List Ob} {x : TV × List Ob} (h : FunC K f as H fun t H' => t = x.1 ∧ H' = x.2) : FunC K f as H fun t H' => t = (truncE H.length x).1 ∧ H' = (truncE H.length x).2 := by
  unfold truncE
  split
  · rename_i hh
    simp only [Bool.and_eq_true, decide_eq_true_eq] at hh
    have hl : (x.2.take H.length).length = H.length := by rw [List.length_take]; omega
    refine FunC.dropJ (J := x.2.drop H.length) (H2 := x.2.take H.length) ?_ (by omega) ?_ (by rw [hl]; exact hh.1.2)
    · refine h.mono ?_
      rintro t H' ⟨rfl, rfl⟩
      exact ⟨rfl, (List.take_append_drop _ _).symm⟩
    · intro o ho
      rw [hl]
      exact closedHs_all hh.2 o ho
  · exact h
/-- The arguments, as the first temporaries. -/
def argE : List TV → Nat → TV
  | [], _ => .c .any
  | x :: r, i => match i with
    | 0 => x
    | i + 1 => argE r i
theorem argE_eq : ∀ (l : List TV) (i : Nat), argE l i = (l[i]?).getD (.c .any)
  | [], i => by simp [argE]
  | x :: r, 0 => by simp [argE]
  | x :: r, i + 1 => by simp [argE, argE_eq r i]
def bodyE (K : Kn) (tp : TabP) (call : CallE) (m : Nat) (fn : Func) (c : Code) (as : List TV) (H : List Ob) : Option (TV × List Ob) :=
  match codeE K tp call m fn.ntmps c (argE as) H with
  | some (.e _, _, _) => none
  | some (_, t', H') => match resT K.P ⟨t', H', fn.ntmps⟩ fn.results.toList with
    | some v => some (frzTV H' v)
    | none => none
  | none => none
theorem bodyE_sound {tp : TabP} (hp0 : TabPOk K tp) (hc : CallOk K call) (hm : K.P.follows .mixedOrders = true) {m : Nat} {f : FuncId} {fn : Func} {c : Code} {as : List TV} {H : List Ob} {x : TV × List Ob} (hf : K.P.funcs[f]? = some fn) (hb : fn.body = some c)
    (hn : (fn.name == "runtime.NumGoroutine") = false) (hl : as.length ≤ fn.ntmps) (h : bodyE K tp call m fn c as H = some x) : FunC K f as H fun t H' => t = x.1 ∧ H' = x.2 := by
  refine func_of_can hf hb hn hl fun _ => ?_
  have hst : st0 as H fn.ntmps = ⟨argE as, H, fn.ntmps⟩ := by
    unfold st0
    congr 1
    funext i
    rw [argE_eq]
  rw [hst]
  unfold bodyE at h
  split at h
  · cases h
  · rename_i e t' H' hne hcode
    split at h
    · rename_i v hv
      cases h
      refine codeE_sound (H1 := H) hp0 hc hm c _ _ _ _ _ hcode _ ?_
      have key : ∃ t t1 H2, resT K.P ⟨t', H', fn.ntmps⟩ fn.results.toList = some t ∧ WeakR K H H' t H2 t1 ∧ (t1 = (frzTV H' v).1 ∧ H2 = (frzTV H' v).2) := ⟨v, _, _, hv, weakR_frz H' v, rfl, rfl⟩
      cases e with
      | n => exact key
      | r => exact key
      | e i => first | exact (hne i rfl).elim | exact (hne i _ _ rfl).elim
    · cases h
  · cases h
def TabOk (K : Kn) (tb : CallE) : Prop := CallOk K tb
def runF (K : Kn) (tp : TabP) (tb : CallE) (m : Nat) : Nat → CallE
  | 0, _, _, _ => none
  | n + 1, f, as, H => match tb f as H with
    | some r => some r
    | none => match K.P.funcs[f]? with
      | some fn => match fn.body with
        | some c => if (fn.name == "runtime.NumGoroutine") = false ∧ as.length ≤ fn.ntmps then
            (if closedTs 0 as then (match bodyE K tp (runF K tp tb m n) m fn c as [] with
              | some x => if closedT 0 x.1 then some (x.1, H) else (bodyE K tp (runF K tp tb m n) m fn c as H).map (truncE H.length)
              | none => none) else (bodyE K tp (runF K tp tb m n) m fn c as H).map (truncE H.length)) else none
        | none => none
      | none => none
theorem runF_sound {tp : TabP} {tb : CallE} (hp0 : TabPOk K tp) (ht : CallOk K tb) (hm : K.P.follows .mixedOrders = true) (m : Nat) : ∀ n, CallOk K (runF K tp tb m n)
  | 0 => by intro g as H v H' h; simp [runF] at h
  | n + 1 => by
    have ih := runF_sound hp0 ht hm m n
    intro f as H v H' h
    simp only [runF] at h
    split at h
    · rename_i r hr
      cases h
      exact ht _ _ _ _ _ hr
    · split at h
      · rename_i fn hf
        split at h
        · rename_i c hb
          split at h
          · rename_i hh
            have gen : (bodyE K tp (runF K tp tb m n) m fn c as H).map (truncE H.length) = some (v, H') → FunC K f as H fun t H'' => t = v ∧ H'' = H' := by
              intro he
              simp only [Option.map_eq_some_iff] at he
              obtain ⟨x, hx, hxe⟩ := he
              have := (bodyE_sound hp0 ih hm hf hb hh.1 hh.2 hx).trunc
              rw [hxe] at this
              exact this
            split at h
            · rename_i hcl
              split at h
              · rename_i x hx
                split at h
                · rename_i hv
                  cases h
                  have h1 := bodyE_sound hp0 ih hm hf hb hh.1 hh.2 hx
                  have h2 : FunC K f as [] fun t H' => t = x.1 ∧ H' = [] := FunC.dropJ (J := x.2) (H2 := []) (by simpa using h1) (by simp) (fun o ho => by simp at ho) hv
                  exact PureC.of_nil hcl h2 H
                · exact gen h
              · cases h
            · exact gen h
          · cases h
        · cases h
      · cases h
end
end Go.Proofs.Ythnnnnaifnddbaa
