/- Regions that draw, operation by operation. -/
import Derived.Test.YthnnnnaifnddbaaE11
set_option linter.unusedVariables false
set_option linter.unusedSimpArgs false
namespace Go.Proofs.Ythnnnnaifnddbaa
open Go.RowKit (Below)

theorem ev_congr {gv : Nat → Option (List Dat)} {tm tm' : Nat → TV} {x : Operand} (h : ∀ t, x = .tmp t → tm' t = tm t) : ev gv tm' x = ev gv tm x := by
  cases x with
  | tmp t => exact h t rfl
  | _ => rfl

/-- The operands' values are the same. -/
def Agree (gv : Nat → Option (List Dat)) (o : Op) (tm tm' : Nat → TV) : Prop := ∀ x ∈ o.operands, ev gv tm' x = ev gv tm x

theorem agree_of {K : Kn} {all : Array Oper} {o : Oper} {tm tm' : Nat → TV} (h : ∀ t ∈ namesOf all o, tm' t = tm t) : Agree K.gv o.op tm tm' := by
  intro x hx
  refine ev_congr fun t ht => h t ?_
  subst ht
  unfold namesOf
  simp only [List.mem_append, List.mem_filterMap]
  exact .inl (.inr ⟨_, by simpa using hx, rfl⟩)

theorem evParts_congr {gv : Nat → Option (List Dat)} {tm tm' : Nat → TV} {ps : List (Nat × Operand)} (h : ∀ p ∈ ps, ev gv tm' p.2 = ev gv tm p.2) : evParts gv tm' ps = evParts gv tm ps := by
  unfold evParts
  exact List.map_congr_left fun p hp => by rw [h p hp]

theorem opF_congr {P : Program} {gv : Nat → Option (List Dat)} {tm tm' : Nat → TV} {H : List Ob} {o : Op} (h : Agree gv o tm tm') : opF P gv tm' H o = opF P gv tm H o := by
  unfold Agree at h
  cases o with
  | move x => simp only [opF]; rw [h x (by simp [Op.operands])]
  | assign x => simp only [opF]; rw [h x (by simp [Op.operands])]
  | pick c x y => simp only [opF]; rw [h c (by simp [Op.operands]), h x (by simp [Op.operands]), h y (by simp [Op.operands])]
  | alloc t => rfl
  | box t x => simp only [opF]; rw [h x (by simp [Op.operands])]
  | build t ps =>
    simp only [opF]
    rw [evParts_congr fun p hp => h p.2 (by simp only [Op.operands, List.mem_toArray, List.mem_map]; exact ⟨p, hp, rfl⟩)]
  | buildSlice t n ps =>
    simp only [opF]
    rw [evParts_congr fun p hp => h p.2 (by simp only [Op.operands, List.mem_toArray, List.mem_map]; exact ⟨p, hp, rfl⟩)]
  | load t x => simp only [opF]; rw [h x (by simp [Op.operands])]
  | store t x y => simp only [opF]; rw [h x (by simp [Op.operands]), h y (by simp [Op.operands])]
  | nilCheck x => simp only [opF]; rw [h x (by simp [Op.operands])]
  | binOp op t x y u => simp only [opF]; rw [h x (by simp [Op.operands]), h y (by simp [Op.operands])]
  | makeMap t r => cases r <;> rfl
  | lookup t x i ok => simp only [opF]; rw [h x (by simp [Op.operands]), h i (by simp [Op.operands])]
  | mapUpdate t x i y => simp only [opF]; rw [h x (by simp [Op.operands]), h i (by simp [Op.operands]), h y (by simp [Op.operands])]
  | unOp op t x => simp only [opF]; rw [h x (by simp [Op.operands])]
  | convert s t x => simp only [opF]; rw [h x (by simp [Op.operands])]
  | makeFunc fn first caps =>
    cases fn with
    | func f =>
      simp only [opF]
      rw [List.map_congr_left (l := caps.toList) (g := ev gv tm) fun x hx => h x (by simp only [Op.operands, Array.mem_append]; exact .inr (by simpa using hx))]
    | _ => rfl
  | fieldAddr s x f => simp only [opF]; rw [h x (by simp [Op.operands])]
  | indexAddr t x i => simp only [opF]; rw [h x (by simp [Op.operands]), h i (by simp [Op.operands])]
  | index t x i => simp only [opF]; rw [h x (by simp [Op.operands]), h i (by simp [Op.operands])]
  | slice t x lo hi mx =>
    cases mx with
    | some m => rfl
    | none =>
      simp only [opF]
      rw [h x (by simp [Op.operands])]
      cases lo <;> cases hi <;> simp only
      · rename_i a; rw [h a (by simp [Op.operands])]
      · rename_i a; rw [h a (by simp [Op.operands])]
      · rename_i a b; rw [h a (by simp [Op.operands]), h b (by simp [Op.operands])]
  | extract x i => simp only [opF]; rw [h x (by simp [Op.operands])]
  | call c =>
    obtain ⟨callee, args, ts⟩ := c
    cases callee with
    | value f => rfl
    | invoke r n => rfl
    | builtin b =>
      have hm : ∀ x ∈ args.toList, ev gv tm' x = ev gv tm x := fun x hx => h x (by simpa [Op.operands, Call.operands] using hx)
      cases b with
      | len =>
        simp only [opF]
        match args.toList, hm with
        | [], _ => rfl
        | [x], hm => rcases ts.toList with _ | ⟨t, _ | ⟨t', l⟩⟩ <;> simp [hm x (by simp)]
        | _ :: _ :: _, _ => rfl
      | max =>
        simp only [opF]
        match args.toList, hm with
        | [], _ => rfl
        | [x], hm => rfl
        | [x, y], hm => simp only [hm x (by simp), hm y (by simp)]
        | _ :: _ :: _ :: _, _ => rfl
      | append =>
        simp only [opF]
        match args.toList, hm with
        | [], _ => rfl
        | [x], hm => rfl
        | [x, y], hm => rcases ts.toList with _ | ⟨t, _ | ⟨t', _ | ⟨t'', l⟩⟩⟩ <;> simp [hm x (by simp), hm y (by simp)]
        | _ :: _ :: _ :: _, _ => rfl
      | _ => rfl
  | _ => rfl

/-- Which objects an operation looks at that turns none; 'none': it may turn one. -/
def noVs : CV → Bool
  | .vs _ _ => false
  | .mp _ => false
  | _ => true
def rdP : TV → List Nat
  | .c (.ref k _) => [k]
  | .c (.rp k _ _ _) => [k]
  | .c (.vs k _) => [k]
  | .c (.mp k) => [k]
  | _ => []
def rdOf (gv : Nat → Option (List Dat)) (tm : Nat → TV) : Op → Option (List Nat)
  | .move _ | .assign _ | .pick .. | .unOp .. | .binOp .. | .convert .. | .makeFunc .. | .extract .. | .index .. | .nilCheck _ | .build .. => some []
  | .load _ a => some (rdP (ev gv tm a))
  | .lookup _ x _ _ => some (rdP (ev gv tm x))
  | .fieldAddr _ x _ => some (rdP (ev gv tm x))
  | .indexAddr _ x _ => some (rdP (ev gv tm x))
  | .call ⟨.builtin .len, args, _⟩ => some (args.toList.flatMap fun x => rdP (ev gv tm x))
  | .call ⟨.builtin .max, _, _⟩ => some []
  | .slice _ x _ _ _ => match cOf (ev gv tm x) with
    | some c => if noVs c then some [] else none
    | none => none
  | .buildSlice _ _ ps => if (evParts gv tm ps.toList).all fun p => match p.2 with | .c x => noVs x | .g xs => xs.all noVs | .t _ => false then some [] else none
  | _ => none

section
variable {P : Program} {gv : Nat → Option (List Dat)} {tm : Nat → TV} {H H' : List Ob}

theorem frz_noVs {c : CV} {d : Dat} {H2 : List Ob} (hc : noVs c = true) (h : frz H c = some (d, H2)) : H2 = H ∧ frz H' c = some (d, H') := by
  cases c <;> simp [noVs] at hc <;> simp [frz] at h ⊢ <;> exact ⟨h.2.symm, h.1⟩
theorem frzs_noVs : ∀ (H' : List Ob) {cs : List CV} {ds : List Dat} {H H2 : List Ob}, cs.all noVs = true → frzs H cs = some (ds, H2) → H2 = H ∧ frzs H' cs = some (ds, H')
  | H', [], ds, H, H2, hc, h => by
    simp only [frzs, Option.some.injEq, Prod.mk.injEq] at h
    obtain ⟨rfl, rfl⟩ := h
    exact ⟨rfl, rfl⟩
  | H', c :: cs, ds, H, H2, hc, h => by
    simp only [List.all_cons, Bool.and_eq_true] at hc
    simp only [frzs] at h ⊢
    split at h
    · rename_i d H3 hd
      obtain ⟨rfl, g1⟩ := frz_noVs (H' := H') hc.1 hd
      split at h
      · rename_i ds' H4 hds
        obtain ⟨rfl, g2⟩ := frzs_noVs H' hc.2 hds
        simp only [Option.some.injEq, Prod.mk.injEq] at h
        obtain ⟨rfl, rfl⟩ := h
        exact ⟨rfl, by rw [g1]; simp only [g2]⟩
      · cases h
    · cases h
theorem elems_noVs {sz : Nat} : ∀ (H' : List Ob) {ps : List (Nat × TV)} {n : Nat} {es : List (List Dat)} {H H2 : List Ob}, (ps.all fun p => match p.2 with | .c x => noVs x | .g xs => xs.all noVs | .t _ => false) = true →
    elemsF H sz n ps = some (es, H2) → H2 = H ∧ elemsF H' sz n ps = some (es, H')
  | H', [], n, es, H, H2, hc, h => by
    simp only [elemsF, Option.some.injEq, Prod.mk.injEq] at h
    obtain ⟨rfl, rfl⟩ := h
    exact ⟨rfl, rfl⟩
  | H', (i, x) :: ps, n, es, H, H2, hc, h => by
    simp only [List.all_cons, Bool.and_eq_true] at hc
    simp only [elemsF] at h ⊢
    split at h
    · rename_i hin
      rw [if_pos hin]
      split at h
      · rename_i xs hxs
        have hall : xs.all noVs = true := by
          have hc1 := hc.1
          cases x with
          | c y => simp [cellsT] at hxs; obtain ⟨_, rfl⟩ := hxs; simpa using hc1
          | g ys => simp [cellsT] at hxs; obtain ⟨_, rfl⟩ := hxs; simpa using hc1
          | t ys => simp at hc1
        split at h
        · rename_i hl
          rw [if_pos hl]
          split at h
          · rename_i ds H3 hds
            obtain ⟨rfl, g1⟩ := frzs_noVs H' hall hds
            split at h
            · rename_i es' H4 hes
              obtain ⟨rfl, g2⟩ := elems_noVs H' hc.2 hes
              simp only [Option.some.injEq, Prod.mk.injEq] at h
              obtain ⟨rfl, rfl⟩ := h
              exact ⟨rfl, by rw [g1]; simp only [g2]⟩
            · cases h
          · cases h
        · cases h
      · cases h
    · cases h

theorem readAt_rd {n : Nat} {p : CV} (h : ∀ k ∈ rdP (.c p), H'[k]? = H[k]?) : readAt H' n p = readAt H n p := by
  cases p <;> simp [rdP] at h <;> simp [readAt, h]
theorem addP_rd {n : Nat} {p : CV} (h : ∀ k ∈ rdP (.c p), H'[k]? = H[k]?) : addP H' n p = addP H n p := by
  cases p <;> simp [rdP] at h <;> simp [addP, h]
theorem lenF_rd {c : CV} (h : ∀ k ∈ rdP (.c c), H'[k]? = H[k]?) : lenF H' c = lenF H c := by
  cases c with
  | d x => cases x <;> rfl
  | vs k n => simp [rdP] at h; simp [lenF, h]
  | mp k => simp [rdP] at h; simp [lenF, h]
  | _ => rfl

theorem opF_R {o : Op} {rd : List Nat} {v : TV} {H2 : List Ob} (hr : rdOf gv tm o = some rd) (h : opF P gv tm H o = some (v, H2)) :
    H2 = H ∧ ((∀ k ∈ rd, H'[k]? = H[k]?) → opF P gv tm H' o = some (v, H')) := by
  have mapc : ∀ {α : Type} {x : Option α} {f : α → TV} {v : TV} {H2 : List Ob}, (x.map fun y => (f y, H)) = some (v, H2) → H2 = H ∧ (x.map fun y => (f y, H')) = some (v, H') := by
    intro α x f v H2 hh
    cases x with
    | none => simp at hh
    | some y => simp at hh ⊢; exact ⟨hh.2.symm, hh.1⟩
  have mapv : ∀ {x : Option TV} {v : TV} {H2 : List Ob}, (x.map fun y => (y, H)) = some (v, H2) → H2 = H ∧ (x.map fun y => (y, H')) = some (v, H') := by
    intro x v H2 hh
    cases x with
    | none => simp at hh
    | some y => simp at hh ⊢; exact ⟨hh.2.symm, hh.1⟩
  cases o with
  | move x => simp [opF] at h ⊢; exact ⟨h.2.symm, fun _ => h.1⟩
  | assign x => simp [opF] at h ⊢; exact ⟨h.2.symm, fun _ => h.1⟩
  | pick c x y =>
    simp only [opF] at h ⊢
    split at h
    · simp only [Option.some.injEq, Prod.mk.injEq] at h ⊢; exact ⟨h.2.symm, fun _ => ⟨h.1, trivial⟩⟩
    · cases h
  | build t ps => simp only [opF] at h ⊢; exact ⟨(mapv h).1, fun _ => (mapv h).2⟩
  | buildSlice t n ps =>
    simp only [rdOf] at hr
    split at hr
    · rename_i hc
      simp only [opF, buildSliceF] at h ⊢
      split at h
      · rename_i e hu
        split at h
        · rename_i hok
          split at h
          · rename_i es H3 hes
            obtain ⟨rfl, g⟩ := elems_noVs H' hc hes
            simp only [Option.some.injEq, Prod.mk.injEq] at h
            refine ⟨h.2.symm, fun _ => ?_⟩
            rw [if_pos hok, g]
            simp [h.1]
          · cases h
        · cases h
      · cases h
    · cases hr
  | load t x =>
    simp only [rdOf, Option.some.injEq] at hr
    subst hr
    simp only [opF] at h ⊢
    split at h
    · rename_i hu
      have hl : ∀ (hk : ∀ k ∈ rdP (ev gv tm x), H'[k]? = H[k]?), loadF P H' t (ev gv tm x) = loadF P H t (ev gv tm x) := by
        intro hk
        cases he : ev gv tm x with
        | c p =>
          rw [he] at hk
          simp only [loadF, readAt_rd hk]
        | _ => rfl
      refine ⟨(mapv h).1, fun hk => ?_⟩
      rw [if_pos hu, hl hk]
      exact (mapv h).2
    · cases h
  | nilCheck x =>
    simp only [opF] at h ⊢
    split at h <;> first | (cases h; done) | (simp only [Option.some.injEq, Prod.mk.injEq] at h ⊢; exact ⟨h.2.symm, fun _ => ⟨h.1, trivial⟩⟩)
  | binOp op t x y u =>
    simp only [opF] at h ⊢
    exact ⟨(mapv h).1, fun _ => (mapv h).2⟩
  | lookup t x i ok =>
    simp only [rdOf, Option.some.injEq] at hr
    subst hr
    simp only [opF] at h ⊢
    refine ⟨(mapv h).1, fun hk => ?_⟩
    have hl : lookupF P H' t ok (ev gv tm x) (ev gv tm i) = lookupF P H t ok (ev gv tm x) (ev gv tm i) := by
      cases he : ev gv tm x with
      | c p =>
        rw [he] at hk
        cases p with
        | mp k =>
          simp [rdP] at hk
          generalize ev gv tm i = q
          cases q with
          | c q => cases q <;> simp only [lookupF, hk]
          | _ => rfl
        | k v =>
          generalize ev gv tm i = q
          cases q with
          | c q => cases q <;> cases v <;> first | rfl | (rename_i r; cases r <;> rfl)
          | _ => cases v <;> first | rfl | (rename_i r; cases r <;> rfl)
        | d z =>
          generalize ev gv tm i = q
          cases q with
          | c q => cases q <;> cases z <;> rfl
          | _ => cases z <;> rfl
        | _ => rfl
      | _ => rfl
    rw [hl]
    exact (mapv h).2
  | unOp op t x =>
    simp only [opF] at h ⊢
    split at h
    · exact ⟨(mapc h).1, fun _ => (mapc h).2⟩
    · cases h
  | convert s t x =>
    simp only [opF] at h ⊢
    split at h
    · exact ⟨(mapc h).1, fun _ => (mapc h).2⟩
    · cases h
  | makeFunc fn first caps =>
    cases fn with
    | func f =>
      simp only [opF] at h ⊢
      split at h
      · rename_i h0
        rw [if_pos h0]
        exact ⟨(mapc h).1, fun _ => (mapc h).2⟩
      · cases h
    | _ => simp [opF] at h
  | fieldAddr s x f =>
    simp only [rdOf, Option.some.injEq] at hr
    subst hr
    simp only [opF] at h ⊢
    have hl : ∀ (hk : ∀ k ∈ rdP (ev gv tm x), H'[k]? = H[k]?), fieldF P H' s f (ev gv tm x) = fieldF P H s f (ev gv tm x) := by
      intro hk
      cases he : ev gv tm x with
      | c p =>
        rw [he] at hk
        simp only [fieldF, addP_rd hk]
      | _ => rfl
    exact ⟨(mapv h).1, fun hk => by rw [hl hk]; exact (mapv h).2⟩
  | indexAddr t x i =>
    simp only [rdOf, Option.some.injEq] at hr
    subst hr
    simp only [opF] at h ⊢
    have hl : ∀ (hk : ∀ k ∈ rdP (ev gv tm x), H'[k]? = H[k]?), indexF P H' t (ev gv tm x) (ev gv tm i) = indexF P H t (ev gv tm x) (ev gv tm i) := by
      intro hk
      cases he : ev gv tm x with
      | c p =>
        rw [he] at hk
        have := fun n => addP_rd (n := n) hk
        generalize ev gv tm i = ti
        cases ti with
        | c q => cases q with
          | d y => cases y with
            | i k n => cases p with
              | d z => cases z <;> simp only [indexF, this]
              | vs k n => simp [rdP] at hk; simp only [indexF, this, hk]
              | _ => simp only [indexF, this]
            | _ => rfl
          | _ => rfl
        | _ => rfl
      | _ => rfl
    exact ⟨(mapv h).1, fun hk => by rw [hl hk]; exact (mapv h).2⟩
  | index t x i =>
    simp only [opF] at h ⊢
    split at h
    · split at h
      · exact ⟨(mapc h).1, fun _ => (mapc h).2⟩
      · cases h
    · cases h
  | slice t x lo hi mx =>
    cases mx with
    | some m => simp [opF] at h
    | none =>
      simp only [rdOf] at hr
      simp only [opF] at h ⊢
      split at hr
      · rename_i c hc
        simp only [hc] at h ⊢
        split at hr
        · rename_i hv
          split at h
          · rename_i d H3 hd
            obtain ⟨rfl, g⟩ := frz_noVs (H' := H') hv hd
            rw [g]
            simp only
            split at h
            · exact ⟨(mapc h).1, fun _ => (mapc h).2⟩
            · split at h
              · exact ⟨(mapc h).1, fun _ => (mapc h).2⟩
              · cases h
            · split at h
              · exact ⟨(mapc h).1, fun _ => (mapc h).2⟩
              · cases h
            · split at h
              · exact ⟨(mapc h).1, fun _ => (mapc h).2⟩
              · cases h
          · cases h
        · cases hr
      · cases hr
  | extract x i =>
    simp only [opF] at h ⊢
    split at h
    · exact ⟨(mapv h).1, fun _ => (mapv h).2⟩
    · cases h
  | call c =>
    obtain ⟨callee, args, ts⟩ := c
    cases callee with
    | value f => simp [opF] at h
    | invoke r n => simp [opF] at h
    | builtin b =>
      cases b with
      | len =>
        simp only [rdOf, Option.some.injEq] at hr
        subst hr
        simp only [opF] at h ⊢
        split at h
        · rename_i x t ha ht
          split at h
          · rename_i c hx
            refine ⟨(mapc h).1, fun hk => ?_⟩
            rw [ha] at hk
            simp only [List.flatMap_cons, List.flatMap_nil, List.append_nil, hx] at hk
            have hl : lenOp P H' t c = lenOp P H t c := by unfold lenOp; rw [lenF_rd hk]
            rw [hl]
            exact (mapc h).2
          · cases h
        · cases h
      | max =>
        simp only [opF] at h ⊢
        split at h
        · split at h
          · split at h
            · rename_i hk
              simp only [Option.some.injEq, Prod.mk.injEq] at h ⊢
              simp only [hk, if_true, Option.some.injEq, Prod.mk.injEq, and_true]
              exact ⟨h.2.symm, fun _ => hk ▸ h.1⟩
            · cases h
          · cases h
        · cases h
      | _ => simp [rdOf] at hr
  | _ => simp [rdOf] at hr
end
end Go.Proofs.Ythnnnnaifnddbaa
