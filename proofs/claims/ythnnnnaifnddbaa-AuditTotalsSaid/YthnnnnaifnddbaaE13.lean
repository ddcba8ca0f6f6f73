/- Regions that draw: the walk in the text's order, with what must not interfere. -/
import Derived.Test.YthnnnnaifnddbaaE12
set_option linter.unusedVariables false
set_option linter.unusedSimpArgs false
namespace Go.Proofs.Ythnnnnaifnddbaa
open Go.RowKit (Below)

/-- A function that leaves all objects alone. -/
def PureC (K : Kn) (f : FuncId) (args : List TV) (v : TV) : Prop := ∀ H, FunC K f args H fun t H' => t = v ∧ H' = H

def pureTV : TV → Option TV
  | .c (.vs _ _) => none
  | .c (.mp _) => none
  | .t _ => none
  | .c .nil => some (.c (.d (.l [])))
  | .c (.fl es) => some (.c (.d (.l es)))
  | .g xs => if xs.all noVs then some (match frzs [] xs with | some (ds, _) => .g (ds.map .d) | none => .g xs) else none
  | t => some t
def pureArgs : List TV → Option (List TV)
  | [] => some []
  | t :: ts => match pureTV t, pureArgs ts with
    | some a, some as => some (a :: as)
    | _, _ => none

theorem frzs_none : ∀ {H H' : List Ob} {xs : List CV}, xs.all noVs = true → frzs H xs = none → frzs H' xs = none
  | H, H', [], hv, h => by simp [frzs] at h
  | H, H', x :: xs, hv, h => by
    simp only [List.all_cons, Bool.and_eq_true] at hv
    cases h1 : frz H' x with
    | none => simp [frzs, h1]
    | some r =>
      obtain ⟨d, H2⟩ := r
      obtain ⟨rfl, h2⟩ := frz_noVs (H' := H) hv.1 h1
      simp only [frzs, h2] at h
      simp only [frzs, h1]
      cases h3 : frzs H xs with
      | some q => simp [h3] at h
      | none => simp [frzs_none hv.2 h3]

theorem pureTV_spec {t t' : TV} (H : List Ob) (h : pureTV t = some t') : frzTV H t = (t', H) := by
  unfold pureTV at h
  split at h
  · cases h
  · cases h
  · cases h
  · cases h; rfl
  · cases h; rfl
  · rename_i xs
    split at h
    · rename_i hv
      simp only [Option.some.injEq] at h
      subst h
      simp only [frzTV, frzT1]
      cases h1 : frzs [] xs with
      | none => simp [frzs_none (H' := H) hv h1]
      | some q =>
        obtain ⟨ds, H2⟩ := q
        simp [(frzs_noVs H hv h1).2]
    · cases h
  · rename_i h1 h0 h5 h2 h3 h4
    cases h
    unfold frzTV
    split
    · exact absurd rfl (h5 _)
    unfold frzT1
    split
    · exact absurd rfl (h1 _ _)
    · exact absurd rfl (h0 _)
    · exact absurd rfl h2
    · exact absurd rfl (h3 _)
    · exact absurd rfl (h4 _)
    · rfl
theorem pureArgs_spec (H : List Ob) : ∀ {ts ts' : List TV}, pureArgs ts = some ts' → frzArgs H ts = (ts', H)
  | [], ts', h => by simp [pureArgs] at h; subst h; rfl
  | t :: ts, ts', h => by
    simp only [pureArgs] at h
    split at h
    · rename_i a as h1 h2
      cases h
      have e1 := pureTV_spec H h1
      simp only [frzArgs, e1, pureArgs_spec H h2]
    · cases h

abbrev Hist := List (Nat × List Ob)
abbrev Rds := List (Nat × List Nat)
def rOk (all : Array Oper) (i : Nat) (rd : List Nat) (H : List Ob) (hist : Hist) : Prop := ∀ x ∈ hist, (∀ k ∈ rd, x.2[k]? = H[k]?) ∨ bf all x.1 i = true
def eOk (all : Array Oper) (i : Nat) (H H' : List Ob) (hist : Hist) (rds : Rds) : Prop :=
  (∀ x ∈ hist, bf all x.1 i = true) ∧ ∀ x ∈ rds, (∀ k ∈ x.2, H'[k]? = H[k]?) ∨ bf all x.1 i = true

def drawO (K : Kn) (all : Array Oper) (i : Nat) (o : Oper) (s : St) (hist : Hist) (rds : Rds) (next : TV → List Ob → Hist → Rds → Prop) : Prop :=
  match o.op with
  | .call ⟨.value f, args, _⟩ => match ev K.gv s.tm f with
    | .c (.fn g caps) => match pureArgs (args.toList.map (ev K.gv s.tm) ++ caps.map .c) with
      | some ts => (∃ v, PureC K g ts v ∧ next v s.H hist ((i, []) :: rds)) ∨
          ∃ v H', FunC K g ts s.H (fun t H'' => t = v ∧ H'' = H') ∧ eOk all i s.H H' hist rds ∧ next v H' ((i, s.H) :: hist) rds
      | none => False
    | _ => False
  | op => match rdOf K.gv s.tm op with
    | some rd => match opF K.P K.gv s.tm s.H op with
      | some r => rOk all i rd s.H hist ∧ next r.1 s.H hist ((i, rd) :: rds)
      | none => False
    | none => match opF K.P K.gv s.tm s.H op with
      | some r => eOk all i s.H r.2 hist rds ∧ next r.1 r.2 ((i, s.H) :: hist) rds
      | none => False

def drawS (K : Kn) (all : Array Oper) : List Oper → Nat → St → Hist → Rds → (St → Prop) → Prop
  | [], _, s, _, _, Q => Q s
  | o :: r, i, s, hist, rds, Q => match o.guard with
    | none => drawO K all i o s hist rds fun v H' h' r' => drawS K all r (i + 1) (({ s with H := H' } : St).put o.dst v) h' r' Q
    | some (j, b) => match dstOf all j with
      | none => False
      | some t => match s.tm t with
        | .c (.d (.b x)) => (x = b → drawO K all i o s hist rds fun v H' h' r' => drawS K all r (i + 1) (({ s with H := H' } : St).put o.dst v) h' r' Q) ∧
            (x = !b → drawS K all r (i + 1) (s.put o.dst (.c .any)) hist ((i, []) :: rds) Q)
        | _ => False

/-- The first n steps of a run in the text's order. -/
structure TrN (K : Kn) (all : Array Oper) (n : Nat) where
  st : Nat → St
  v : Nat → TV
  eff : Nat → Bool
  rd : Nat → List Nat
  put : ∀ i o, i < n → all[i]? = some o → ∀ t, (st (i + 1)).tm t = if o.dst = some t then v i else (st i).tm t
  nt : ∀ i o, i < n → all[i]? = some o → (st (i + 1)).nt = (st i).nt
  keep : ∀ i o, i < n → all[i]? = some o → eff i = false → (st (i + 1)).H = (st i).H
  rstep : ∀ i o, i < n → all[i]? = some o → eff i = false → ∀ tm' H', (∀ t ∈ namesOf all o, tm' t = (st i).tm t) → (∀ r ∈ rd i, H'[r]? = (st i).H[r]?) → gstep K all o tm' H' (v i) H'
  estep : ∀ i o, i < n → all[i]? = some o → eff i = true → ∀ tm', (∀ t ∈ namesOf all o, tm' t = (st i).tm t) → gstep K all o tm' (st i).H (v i) (st (i + 1)).H
  hist : ∀ i o, i < n → all[i]? = some o → eff i = false → ∀ e, e < i → eff e = true → bf all e i = false → ∀ r ∈ rd i, (st e).H[r]? = (st i).H[r]?
  tot : ∀ i o, i < n → all[i]? = some o → eff i = true → ∀ e, e < i → eff e = true → bf all e i = true
  pend : ∀ i o, i < n → all[i]? = some o → eff i = true → ∀ j, j < i → eff j = false → bf all j i = false → ∀ r ∈ rd j, (st (i + 1)).H[r]? = (st i).H[r]?

section
variable {K : Kn} {all : Array Oper}

def TrN.tr (T : TrN K all all.size) : Tr K all where
  st := T.st
  v := T.v
  eff := T.eff
  rd := T.rd
  put := fun i o h => T.put i o (Array.getElem?_eq_some_iff.1 h).1 h
  nt := fun i o h => T.nt i o (Array.getElem?_eq_some_iff.1 h).1 h
  keep := fun i o h => T.keep i o (Array.getElem?_eq_some_iff.1 h).1 h
  rstep := fun i o h => T.rstep i o (Array.getElem?_eq_some_iff.1 h).1 h
  estep := fun i o h => T.estep i o (Array.getElem?_eq_some_iff.1 h).1 h
  hist := fun i o h => T.hist i o (Array.getElem?_eq_some_iff.1 h).1 h
  tot := fun i o h => T.tot i o (Array.getElem?_eq_some_iff.1 h).1 h
  pend := fun i o h => T.pend i o (Array.getElem?_eq_some_iff.1 h).1 h

def TrN.nil (K : Kn) (all : Array Oper) (s : St) : TrN K all 0 where
  st := fun _ => s
  v := fun _ => .c .any
  eff := fun _ => false
  rd := fun _ => []
  put := fun i o h => absurd h (Nat.not_lt_zero _)
  nt := fun i o h => absurd h (Nat.not_lt_zero _)
  keep := fun i o h => absurd h (Nat.not_lt_zero _)
  rstep := fun i o h => absurd h (Nat.not_lt_zero _)
  estep := fun i o h => absurd h (Nat.not_lt_zero _)
  hist := fun i o h => absurd h (Nat.not_lt_zero _)
  tot := fun i o h => absurd h (Nat.not_lt_zero _)
  pend := fun i o h => absurd h (Nat.not_lt_zero _)

/-- One step more. -/
theorem TrN.snoc {n : Nat} (T : TrN K all n) {o : Oper} (ho : all[n]? = some o) (v : TV) (H' : List Ob) (eff : Bool) (rd : List Nat)
    (hk : eff = false → H' = (T.st n).H)
    (hr : eff = false → ∀ tm' H', (∀ t ∈ namesOf all o, tm' t = (T.st n).tm t) → (∀ r ∈ rd, H'[r]? = (T.st n).H[r]?) → gstep K all o tm' H' v H')
    (he : eff = true → ∀ tm', (∀ t ∈ namesOf all o, tm' t = (T.st n).tm t) → gstep K all o tm' (T.st n).H v H')
    (hh : eff = false → ∀ e, e < n → T.eff e = true → bf all e n = false → ∀ r ∈ rd, (T.st e).H[r]? = (T.st n).H[r]?)
    (ht : eff = true → ∀ e, e < n → T.eff e = true → bf all e n = true)
    (hp : eff = true → ∀ j, j < n → T.eff j = false → bf all j n = false → ∀ r ∈ T.rd j, H'[r]? = (T.st n).H[r]?) :
    ∃ T' : TrN K all (n + 1), T'.st 0 = T.st 0 ∧ T'.st (n + 1) = (({ T.st n with H := H' } : St).put o.dst v) ∧ (∀ i, i ≤ n → T'.st i = T.st i) ∧ (∀ i, i < n → T'.eff i = T.eff i ∧ T'.rd i = T.rd i) ∧
      T'.eff n = eff ∧ T'.rd n = rd := by
  let s' := (({ T.st n with H := H' } : St).put o.dst v)
  have hs'H : s'.H = H' := put_H _ _ _
  have hs'nt : s'.nt = (T.st n).nt := put_nt _ _ _
  have hs'tm : ∀ t, s'.tm t = if o.dst = some t then v else (T.st n).tm t := fun t => put_tm _ _ _ _
  have e1 : ∀ i, i ≤ n → (if i ≤ n then T.st i else s') = T.st i := fun i h => if_pos h
  have e2 : (if n + 1 ≤ n then T.st (n + 1) else s') = s' := if_neg (by omega)
  have b1 : ∀ i, i < n → (if i < n then T.eff i else eff) = T.eff i := fun i h => if_pos h
  have b2 : (if n < n then T.eff n else eff) = eff := if_neg (by omega)
  refine ⟨{ st := fun i => if i ≤ n then T.st i else s', v := fun i => if i < n then T.v i else v, eff := fun i => if i < n then T.eff i else eff, rd := fun i => if i < n then T.rd i else rd,
            put := ?_, nt := ?_, keep := ?_, rstep := ?_, estep := ?_, hist := ?_, tot := ?_, pend := ?_ }, e1 0 (Nat.zero_le _), e2, e1, fun i h => ⟨if_pos h, if_pos h⟩, b2, if_neg (by omega)⟩
  all_goals
    intro i oi hi hoi
    by_cases hin : i < n
    · simp only [if_pos hin, if_pos (Nat.le_of_lt hin), if_pos (Nat.succ_le_of_lt hin)]
      first
        | exact T.put i oi hin hoi
        | exact T.nt i oi hin hoi
        | exact T.keep i oi hin hoi
        | exact T.rstep i oi hin hoi
        | exact T.estep i oi hin hoi
        | (intro h1 e h2 h3 h4; rw [if_pos (Nat.le_of_lt (Nat.lt_trans h2 hin))]; rw [if_pos (Nat.lt_trans h2 hin)] at h3; exact T.hist i oi hin hoi h1 e h2 h3 h4)
        | (intro h1 e h2 h3; rw [if_pos (Nat.lt_trans h2 hin)] at h3; exact T.tot i oi hin hoi h1 e h2 h3)
        | (intro h1 e h2 h3 h4; rw [if_pos (Nat.lt_trans h2 hin)] at h3 ⊢; exact T.pend i oi hin hoi h1 e h2 h3 h4)
    · obtain rfl : i = n := by omega
      rw [ho] at hoi; cases hoi
      simp only [Nat.lt_irrefl, if_false, Nat.le_refl, if_true, show ¬ (i + 1 ≤ i) from by omega]
      first
        | exact hs'tm
        | exact hs'nt
        | exact fun h => hs'H.trans (hk h)
        | exact hr
        | (rw [hs'H]; exact he)
        | (intro h1 e h2 h3 h4; rw [if_pos (Nat.le_of_lt h2)]; rw [if_pos h2] at h3; exact hh h1 e h2 h3 h4)
        | (intro h1 e h2 h3; rw [if_pos h2] at h3; exact ht h1 e h2 h3)
        | (intro h1 e h2 h3 h4; rw [if_pos h2] at h3 ⊢; rw [hs'H]; exact hp h1 e h2 h3 h4)

theorem gstep_plain {o : Oper} {tm : Nat → TV} {H : List Ob} {v : TV} {H' : List Ob} (hg : o.guard = none) (h : stepW K tm H o fun v' H'' => v' = v ∧ H'' = H') : gstep K all o tm H v H' := by
  unfold gstep; rw [hg]; exact h
theorem guard_names {o : Oper} {j : Nat} {b : Bool} {t : Nat} (hg : o.guard = some (j, b)) (ht : dstOf all j = some t) : t ∈ namesOf all o := by
  unfold namesOf; simp [hg, ht]

/-- An operation, guard or none, that runs. -/
theorem gstep_runs {o : Oper} {s : St} {tm' : Nat → TV} {H : List Ob} {v : TV} {H' : List Ob} (hn : ∀ t ∈ namesOf all o, tm' t = s.tm t)
    (hg : o.guard = none ∨ ∃ j b t, o.guard = some (j, b) ∧ dstOf all j = some t ∧ s.tm t = .c (.d (.b b))) (h : stepW K tm' H o fun v' H'' => v' = v ∧ H'' = H') : gstep K all o tm' H v H' := by
  rcases hg with hg | ⟨j, b, t, hg, ht, hx⟩
  · exact gstep_plain hg h
  · unfold gstep
    rw [hg]
    simp only [ht]
    rw [hn t (guard_names hg ht), hx]
    exact ⟨fun _ => h, fun e => by cases b <;> simp at e⟩

theorem stepW_op {o : Oper} {tm : Nat → TV} {H : List Ob} {r : TV × List Ob} (h : opF K.P K.gv tm H o.op = some r) : stepW K tm H o fun v' H'' => v' = r.1 ∧ H'' = r.2 := by
  unfold stepW
  split
  · rename_i f args ts ho
    rw [ho] at h
    simp [opF] at h
  · rw [h]; exact ⟨rfl, rfl⟩

theorem drawS_sound {K : Kn} {all : Array Oper} {Q : St → Prop} : ∀ (l : List Oper) (i : Nat) (hist : Hist) (rds : Rds) (T : TrN K all i), (∀ j, l[j]? = all[i + j]?) → i + l.length = all.size →
    (∀ e, e < i → T.eff e = true → (e, (T.st e).H) ∈ hist) → (∀ j, j < i → T.eff j = false → (j, T.rd j) ∈ rds) → drawS K all l i (T.st i) hist rds Q →
    ∃ T' : TrN K all all.size, T'.st 0 = T.st 0 ∧ Q (T'.st all.size)
  | [], i, hist, rds, T, hl, hn, hh, hr, h => by
    simp only [List.length_nil, Nat.add_zero] at hn
    subst hn
    exact ⟨T, rfl, h⟩
  | o :: l, i, hist, rds, T, hl, hn, hh, hr, h => by
    have ho : all[i]? = some o := by simpa using (hl 0).symm
    have hl' : ∀ j, l[j]? = all[i + 1 + j]? := fun j => by have := hl (j + 1); simpa [Nat.add_assoc, Nat.add_comm 1 j] using this
    have hn' : i + 1 + l.length = all.size := by simp at hn; omega
    -- a step that turns nothing
    have goR : ∀ (v : TV) (rd : List Nat), (∀ tm' H', (∀ t ∈ namesOf all o, tm' t = (T.st i).tm t) → (∀ r ∈ rd, H'[r]? = (T.st i).H[r]?) → gstep K all o tm' H' v H') → rOk all i rd (T.st i).H hist →
        drawS K all l (i + 1) (({ T.st i with H := (T.st i).H } : St).put o.dst v) hist ((i, rd) :: rds) Q → ∃ T' : TrN K all all.size, T'.st 0 = T.st 0 ∧ Q (T'.st all.size) := by
      intro v rd h1 h2 h3
      obtain ⟨T1, t0, t1, t2, t3, t4, t5⟩ := T.snoc ho v (T.st i).H false rd (fun _ => rfl) (fun _ => h1) (fun h => by cases h) (fun _ e he1 he2 he3 r hr' => by
        rcases h2 _ (hh e he1 he2) with h4 | h4
        · exact h4 r hr'
        · rw [he3] at h4; cases h4) (fun h => by cases h) (fun h => by cases h)
      rw [← t1] at h3
      obtain ⟨T', q1, q2⟩ := drawS_sound l (i + 1) hist ((i, rd) :: rds) T1 hl' hn' (fun e he1 he2 => by
        by_cases e1 : e = i
        · subst e1; rw [t4] at he2; cases he2
        · rw [t2 e (by omega)]; rw [(t3 e (by omega)).1] at he2; exact hh e (by omega) he2) (fun j hj1 hj2 => by
        by_cases e1 : j = i
        · subst e1; rw [t5]; exact List.mem_cons_self
        · rw [(t3 j (by omega)).2]; rw [(t3 j (by omega)).1] at hj2; exact List.mem_cons_of_mem _ (hr j (by omega) hj2)) h3
      exact ⟨T', q1.trans t0, q2⟩
    -- a step that does
    have goE : ∀ (v : TV) (H' : List Ob), (∀ tm', (∀ t ∈ namesOf all o, tm' t = (T.st i).tm t) → gstep K all o tm' (T.st i).H v H') → eOk all i (T.st i).H H' hist rds →
        drawS K all l (i + 1) (({ T.st i with H := H' } : St).put o.dst v) ((i, (T.st i).H) :: hist) rds Q → ∃ T' : TrN K all all.size, T'.st 0 = T.st 0 ∧ Q (T'.st all.size) := by
      intro v H' h1 h2 h3
      obtain ⟨T1, t0, t1, t2, t3, t4, t5⟩ := T.snoc ho v H' true [] (fun h => by cases h) (fun h => by cases h) (fun _ => h1) (fun h => by cases h) (fun _ e he1 he2 => h2.1 _ (hh e he1 he2)) (fun _ j hj1 hj2 hj3 r hr' => by
        rcases h2.2 _ (hr j hj1 hj2) with h4 | h4
        · exact h4 r hr'
        · rw [hj3] at h4; cases h4)
      rw [← t1] at h3
      obtain ⟨T', q1, q2⟩ := drawS_sound l (i + 1) ((i, (T.st i).H) :: hist) rds T1 hl' hn' (fun e he1 he2 => by
        by_cases e1 : e = i
        · subst e1; rw [t2 e (Nat.le_refl _)]; exact List.mem_cons_self
        · rw [t2 e (by omega)]; rw [(t3 e (by omega)).1] at he2; exact List.mem_cons_of_mem _ (hh e (by omega) he2)) (fun j hj1 hj2 => by
        by_cases e1 : j = i
        · subst e1; rw [t4] at hj2; cases hj2
        · rw [(t3 j (by omega)).2]; rw [(t3 j (by omega)).1] at hj2; exact hr j (by omega) hj2) h3
      exact ⟨T', q1.trans t0, q2⟩
    -- an operation that runs
    have run : (o.guard = none ∨ ∃ j b t, o.guard = some (j, b) ∧ dstOf all j = some t ∧ (T.st i).tm t = .c (.d (.b b))) →
        drawO K all i o (T.st i) hist rds (fun v H' h' r' => drawS K all l (i + 1) (({ T.st i with H := H' } : St).put o.dst v) h' r' Q) → ∃ T' : TrN K all all.size, T'.st 0 = T.st 0 ∧ Q (T'.st all.size) := by
      intro hg hd
      unfold drawO at hd
      split at hd
      · rename_i f args ts0 hop
        split at hd
        · rename_i g caps hf
          split at hd
          · rename_i ts hts
            have call : ∀ tm' H0 Ψ, (∀ t ∈ namesOf all o, tm' t = (T.st i).tm t) → FunC K g ts H0 Ψ → stepW K tm' H0 o Ψ := by
              intro tm' H0 Ψ hnm hfun
              have hag := agree_of (K := K) hnm
              unfold Agree at hag
              rw [hop] at hag
              have e1 : ev K.gv tm' f = .c (.fn g caps) := by rw [hag f (by simp [Op.operands, Call.operands])]; exact hf
              have e2 : args.toList.map (ev K.gv tm') = args.toList.map (ev K.gv (T.st i).tm) := List.map_congr_left fun x hx => hag x (by
                simp only [Op.operands, Call.operands, Array.mem_append]; exact .inr (by simpa using hx))
              unfold stepW
              rw [hop]
              simp only [e1]
              rw [e2]
              refine .inl ?_
              rw [pureArgs_spec H0 hts]
              exact hfun
            rcases hd with ⟨v, hp, hnext⟩ | ⟨v, H', hf', hok, hnext⟩
            · exact goR v [] (fun tm' H' hnm _ => gstep_runs hnm hg (call tm' H' _ hnm (hp H'))) (fun x _ => .inl (by simp)) hnext
            · exact goE v H' (fun tm' hnm => gstep_runs hnm hg (call tm' _ _ hnm hf')) hok hnext
          · exact hd.elim
        · exact hd.elim
      · split at hd
        · rename_i rd hrd
          split at hd
          · rename_i r hop
            have hR := fun H' => opF_R (P := K.P) (H' := H') (v := r.1) (H2 := r.2) hrd hop
            refine goR r.1 rd (fun tm' H' hnm hrs => gstep_runs hnm hg ?_) hd.1 hd.2
            have hop' : opF K.P K.gv tm' H' o.op = some (r.1, H') := by
              rw [opF_congr (agree_of (K := K) hnm)]
              exact (hR H').2 hrs
            exact stepW_op hop'
          · exact hd.elim
        · split at hd
          · rename_i r hop
            refine goE r.1 r.2 (fun tm' hnm => gstep_runs hnm hg ?_) hd.1 hd.2
            have hop' : opF K.P K.gv tm' (T.st i).H o.op = some r := by
              rw [opF_congr (agree_of (K := K) hnm)]
              exact hop
            exact stepW_op hop'
          · exact hd.elim
    simp only [drawS] at h
    split at h
    · rename_i hg
      exact run (.inl hg) h
    · rename_i j b hg
      split at h
      · exact h.elim
      · rename_i t ht
        split at h
        · rename_i x hx
          by_cases e : x = b
          · subst e
            exact run (.inr ⟨j, x, t, hg, ht, hx⟩) (h.1 rfl)
          · have hxb : x = !b := by cases x <;> cases b <;> simp_all
            refine goR (.c .any) [] (fun tm' H' hnm _ => ?_) (fun x _ => .inl (by simp)) (h.2 hxb)
            unfold gstep
            rw [hg]
            simp only [ht]
            rw [hnm t (guard_names hg ht), hx]
            exact ⟨fun e' => absurd e' e, fun _ => by simp⟩
        · exact h.elim

theorem can_draw {H1 : List Ob} {s : St} {Φ : Exit → St → Prop} {id : Nat} {all : Array Oper} (hm : K.P.follows .mixedOrders = true) (hok : (dstOk s.nt all && drawOk all) = true)
    (h : drawS K all all.toList 0 s [] [] (Φ .normal)) : Can K H1 (.region id all true) s Φ := by
  simp only [Bool.and_eq_true] at hok
  obtain ⟨T, h1, h2⟩ := drawS_sound all.toList 0 [] [] (TrN.nil K all s) (by simp) (by simp) (fun e he => absurd he (Nat.not_lt_zero _)) (fun j hj => absurd hj (Nat.not_lt_zero _)) h
  exact can_region_tr T.tr hm hok.2 h1 hok.1 h2
end
end Go.Proofs.Ythnnnnaifnddbaa
