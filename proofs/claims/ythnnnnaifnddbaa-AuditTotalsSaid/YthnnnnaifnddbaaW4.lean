/- awake, by evaluation. -/
import Derived.Test.YthnnnnaifnddbaaT
import Derived.Test.YthnnnnaifnddbaaEC
import Derived.Test.YthnnnnaifnddbaaM1
import Derived.Test.YthnnnnaifnddbaaW3
namespace Go.Proofs.Ythnnnnaifnddbaa
set_option maxRecDepth 20000
set_option linter.unusedVariables false
set_option linter.unusedSimpArgs false
def okRow (sz b : Nat) (es : List (List Dat)) : Bool := es.all (fun e => Nat.beq e.length sz) && Nat.ble (es.length * b) 140737488355328
theorem okRow_spec {sz b : Nat} {es : List (List Dat)} (h : okRow sz b es = true) : (∀ e ∈ es, e.length = sz) ∧ es.length * b ≤ 140737488355328 := by
  simp only [okRow, Bool.and_eq_true, List.all_eq_true] at h
  exact ⟨fun e he => Nat.eq_of_beq_eq_true (h.1 e he), Nat.le_of_ble_eq_true h.2⟩
theorem own_at {K : Kn} {f : FuncId} {ar : List TV} {n ty : Nat} {es : List (List Dat)} (ha : closedTs 0 ar = true) (h : FunC K f ar [] fun t H' => t = .c (.vs 0 n) ∧ H' = [.row ty es false]) (H : List Ob) :
    FunC K f ar H fun t H' => t = .c (.vs H.length n) ∧ H' = H ++ [.row ty es false] := by
  have := FunC.shift ha h H
  simpa [shT, shC, shO] using this
def tbC : CallE := fun f ar H => cond (Nat.beq f 43) (match ar with | [.c (.d (.l es))] => cond (okRow 1 16 es) (some (.c (.vs H.length es.length), H ++ [.row 9 es false])) none | _ => none) (cond (Nat.beq f 44) (match ar with | [.c (.d (.l es))] => cond (okRow 3 32 es) (some (.c (.vs H.length es.length), H ++ [.row 81 es false])) none | _ => none) (cond (Nat.beq f 47) (match ar with | [.c (.d (.l es))] => cond (okRow 7 104 es) (some (.c (.vs H.length es.length), H ++ [.row 57 es false])) none | _ => none) (cond (Nat.beq f 69) (match ar with | [.c (.d (.i .u8 n)), .c (.d (.s x))] => some (tB (isIn n x.data.toList), H) | _ => none) none)))
def tpC : TabP := fun f ar => cond (Nat.beq f 43) (match ar with | [.c (.d (.l es))] => cond (okRow 1 16 es) (some (tL es)) none | _ => none) (cond (Nat.beq f 44) (match ar with | [.c (.d (.l es))] => cond (okRow 3 32 es) (some (tL es)) none | _ => none) (cond (Nat.beq f 47) (match ar with | [.c (.d (.l es))] => cond (okRow 7 104 es) (some (tL es)) none | _ => none) (none)))
theorem tbC_ok : CallOk Kx tbC := by
  intro g ar H v H' h
  unfold tbC at h
  by_cases h43 : Nat.beq g 43 = true
  · obtain rfl := Nat.eq_of_beq_eq_true h43
    simp only [h43, cond_true] at h
    split at h
    · rename_i es
      cases hk : okRow 1 16 es with
      | false => simp [hk] at h
      | true =>
        simp only [hk, cond_true, Option.some.injEq, Prod.mk.injEq] at h
        obtain ⟨q1, q2⟩ := okRow_spec hk
        obtain ⟨rfl, rfl⟩ := h
        exact own_at (by simp [closedTs, closedT, closedC]) (cloneS_own es q1 q2) H
    · cases h
  rw [Bool.not_eq_true] at h43
  simp only [h43, cond_false] at h
  by_cases h44 : Nat.beq g 44 = true
  · obtain rfl := Nat.eq_of_beq_eq_true h44
    simp only [h44, cond_true] at h
    split at h
    · rename_i es
      cases hk : okRow 3 32 es with
      | false => simp [hk] at h
      | true =>
        simp only [hk, cond_true, Option.some.injEq, Prod.mk.injEq] at h
        obtain ⟨q1, q2⟩ := okRow_spec hk
        obtain ⟨rfl, rfl⟩ := h
        exact own_at (by simp [closedTs, closedT, closedC]) (cloneV_own es q1 q2) H
    · cases h
  rw [Bool.not_eq_true] at h44
  simp only [h44, cond_false] at h
  by_cases h47 : Nat.beq g 47 = true
  · obtain rfl := Nat.eq_of_beq_eq_true h47
    simp only [h47, cond_true] at h
    split at h
    · rename_i es
      cases hk : okRow 7 104 es with
      | false => simp [hk] at h
      | true =>
        simp only [hk, cond_true, Option.some.injEq, Prod.mk.injEq] at h
        obtain ⟨q1, q2⟩ := okRow_spec hk
        obtain ⟨rfl, rfl⟩ := h
        exact own_at (by simp [closedTs, closedT, closedC]) (cloneP_own es q1 q2) H
    · cases h
  rw [Bool.not_eq_true] at h47
  simp only [h47, cond_false] at h
  cases h1 : Nat.beq g 69 with
  | false => simp [h1] at h
  | true =>
    obtain rfl := Nat.eq_of_beq_eq_true h1
    simp only [h1, cond_true] at h
    split at h
    · cases h
      exact in_pure _ _ H
    · cases h
theorem tpC_ok : TabPOk Kx tpC := by
  intro g ar v h
  unfold tpC at h
  by_cases h43 : Nat.beq g 43 = true
  · obtain rfl := Nat.eq_of_beq_eq_true h43
    simp only [h43, cond_true] at h
    split at h
    · rename_i es
      cases hk : okRow 1 16 es with
      | false => simp [hk] at h
      | true =>
        simp only [hk, cond_true, Option.some.injEq, Prod.mk.injEq] at h
        obtain ⟨q1, q2⟩ := okRow_spec hk
        subst h
        exact cloneS_pure es q1 q2
    · cases h
  rw [Bool.not_eq_true] at h43
  simp only [h43, cond_false] at h
  by_cases h44 : Nat.beq g 44 = true
  · obtain rfl := Nat.eq_of_beq_eq_true h44
    simp only [h44, cond_true] at h
    split at h
    · rename_i es
      cases hk : okRow 3 32 es with
      | false => simp [hk] at h
      | true =>
        simp only [hk, cond_true, Option.some.injEq, Prod.mk.injEq] at h
        obtain ⟨q1, q2⟩ := okRow_spec hk
        subst h
        exact cloneV_pure es q1 q2
    · cases h
  rw [Bool.not_eq_true] at h44
  simp only [h44, cond_false] at h
  by_cases h47 : Nat.beq g 47 = true
  · obtain rfl := Nat.eq_of_beq_eq_true h47
    simp only [h47, cond_true] at h
    split at h
    · rename_i es
      cases hk : okRow 7 104 es with
      | false => simp [hk] at h
      | true =>
        simp only [hk, cond_true, Option.some.injEq, Prod.mk.injEq] at h
        obtain ⟨q1, q2⟩ := okRow_spec hk
        subst h
        exact cloneP_pure es q1 q2
    · cases h
  rw [Bool.not_eq_true] at h47
  simp only [h47, cond_false] at h
  cases h
theorem awake_pure : PureC Kx 5 [] (tB true) :=
  .of_nil rfl (runF_sound tpC_ok tbC_ok mixed 1000 100 _ _ _ _ _ (by kernel_rfl : runF Kx tpC tbC 1000 100 5 [] [] = some (tB true, [])))

end Go.Proofs.Ythnnnnaifnddbaa

