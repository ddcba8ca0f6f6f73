/- The totals of a composition are the sums of those of its parts; behind a prefix, there are no further threads; the prefixes, restrictions and calls are nodes: for every pair of processes, without a condition. -/
import Derived.Test.YthnnnnaifnddbaaRows
import Derived.Test.YthnnnnaifnddbaaW0
import Derived.Test.YthnnnnaifnddbaaLTotals
import Derived.WalkKit
import Derived.ProofKit
import Derived.OpenShut
import Derived.ShutString
import Derived.ChangeOld
import Derived.Below
import Derived.SizedLaws
import Derived.Lib.SmallJoins
namespace Go.Proofs.Ythnnnnaifnddbaa
set_option maxRecDepth 20000
set_option maxHeartbeats 4000000
set_option linter.unusedVariables false
set_option linter.unusedSimpArgs false
open Go.ChangeShapes Go.WideShapes Go.ChangeAt Go.RowKit
open Go.ChangeMaps (open_string shut_string)
namespace auditTotals
theorem own : ownKnob Try.prog.godebug = none := by kernel_rfl
theorem laidOut : laidOutB Try.prog = true := by kernel_rfl
theorem walk (W : World) (args : List TV) (vs : List Value) (hp : PureC Kx 4 args (tB true)) (hl : args.length = vs.length)
    (hr : ∀ (i : Nat) t v, args[i]? = some t → vs[i]? = some v → RelT Try.prog W (oldZ W) (fun _ => none) [] t v) :
    Calls Try.prog 4 vs.toArray W fun e w' => e = .returned (.bool true) ∧ Below W.heap.size W w' := calls_pure_true Try.func4 rfl (by decide) hp hl hr
set_option maxRecDepth 100000 in
theorem lifted (os : Os) (started : os.Started) (H : Type) (enc : TypeId × Value → H) :
    ReturnsInHanded {} Try.checked os 4 .any (Rows.auditTotalsSpec.pre6 enc Try.prog Try.f4 Rows.auditTotalsRow.domain false) (Rows.auditTotalsSpec.post enc Try.prog Try.f4 false true false false) := by
  refine returnsInHanded_of_change_sized (C := Try.checked) own started (by kernel_rfl) Try.func4
    (ChangeSpec.witness6 (enc := enc) (C := Try.checked) false ⟨#[], #[.agg #[(.int .i64 0), (.string ⟨#[]⟩), (.string ⟨#[]⟩), (.slice none 0 0), (.slice none 0 0), (.int .i64 0), (.int .i64 0), (.string ⟨#[]⟩), (.int .i64 0), (.slice none 0 0), (.slice none 0 0), (.slice none 0 0)], .agg #[(.int .i64 0), (.string ⟨#[]⟩), (.string ⟨#[]⟩), (.slice none 0 0), (.slice none 0 0), (.int .i64 0), (.int .i64 0), (.string ⟨#[]⟩), (.int .i64 0), (.slice none 0 0), (.slice none 0 0), (.slice none 0 0)]], []⟩ 8 (by kernel_rfl) (by kernel_rfl) (by kernel_rfl) (by kernel_rfl)) ?_
  intro W base args ds gs before hval0 hW hcnd hsz0 _
  have hsz : (DataW.weightsEach Try.prog (Try.f4.params.toList ++ Rows.auditTotalsSpec.plain.varTypes Try.prog) (ds ++ gs)).all (· ≤ reachBytes) = true := hsz0
  have hval : ∀ (j : Nat) t v, Try.f4.params[j]? = some t → args[j]? = some v → Value.okWide Try.prog W .any base t v := hval0
  have hW' := hW
  obtain ⟨p, q, hA0, hV, rfl, hfz, hnd⟩ := hW
  have hA : DataW.TrodAll enc Try.prog W 0 (fun _ => true) true Try.f4.params.toList args.toList ds p := hA0
  rw [Try.params4] at hA hval hsz
  obtain ⟨v0, vs0, d0, ds0, p0, q0, hargs, rfl, rfl, h0, r0⟩ := trodAll_cons hA
  obtain ⟨v1, vs1, d1, ds1, p1, q1, rfl, rfl, rfl, h1, r1⟩ := trodAll_cons r0
  obtain ⟨rfl, rfl, rfl⟩ := trodAll_nil r1
  obtain rfl : args = #[v0, v1] := by cases args; simp_all
  obtain ⟨rfl, rfl⟩ := trodVars_none hV
  have hsz' : ∀ (j : Nat) t d, ([30, 30] : List TypeId)[j]? = some t → [d0, d1][j]? = some d → (d.weights Try.prog t).all (· ≤ reachBytes) = true := fun j t d h1 h2 => List.all_eq_true.2 fun x hx => List.all_eq_true.1 hsz x (DataW.weights_mem_each (by rw [List.getElem?_append_left (by simpa using (List.getElem?_eq_some_iff.1 h1).1)]; exact h1) (by rw [List.getElem?_append_left (by simpa using (List.getElem?_eq_some_iff.1 h2).1)]; exact h2) x hx)
  have k0 := h0
  have lt0 : ∀ x ∈ p0, x.block < W.heap.size := by obtain ⟨m, hm⟩ := k0; exact DataW.trod_lt m _ _ _ hm
  obtain ⟨cs0, rfl, _⟩ := okWide_struct Try.underlying30 (hval 0 30 v0 rfl rfl)
  obtain ⟨fu0, hf0⟩ := h0
  obtain ⟨e0, rd0, s0⟩ := trod_open plainTs_ok fu0 30 _ _ _ (by decide) hf0 (hsz' 0 _ _ rfl rfl)
  obtain ⟨x0, rfl⟩ := sh_Pr _ _ s0
  have k1 := h1
  have lt1 : ∀ x ∈ p1, x.block < W.heap.size := by obtain ⟨m, hm⟩ := k1; exact DataW.trod_lt m _ _ _ hm
  obtain ⟨cs1, rfl, _⟩ := okWide_struct Try.underlying30 (hval 1 30 v1 rfl rfl)
  obtain ⟨fu1, hf1⟩ := h1
  obtain ⟨e1, rd1, s1⟩ := trod_open plainTs_ok fu1 30 _ _ _ (by decide) hf1 (hsz' 1 _ _ rfl rfl)
  obtain ⟨x1, rfl⟩ := sh_Pr _ _ s1
  refine (walk W [tG x0.enc, tG x1.enc] [.agg cs0, .agg cs1] (totals_pure x0 x1) rfl ?_).mono fun e W' ⟨he, bel⟩ => ?_
  · intro i t v h1 h2
    rcases i with _ | i
    · simp at h1 h2; subst h1 h2; exact relT_agg rd0
    rcases i with _ | i
    · simp at h1 h2; subst h1 h2; exact relT_agg rd1
    simp at h1
  · subst he
    exact ⟨_, rfl, _, _, _, [], _, [], hW', trodAll_mk1 (shut_bool Try.underlying4 _), (trodAll_cons_mk (Below.trod laidOut (by kernel_rfl) (of_decide_eq_true (by kernel_rfl)) k0 bel lt0) (trodAll_cons_mk (Below.trod laidOut (by kernel_rfl) (of_decide_eq_true (by kernel_rfl)) k1 bel lt1) trodAll_mk0)), rfl, bel.frame _, fun h => by cases h⟩
theorem over : Rows.auditTotalsRow.holds Try.pinned (OpenSpec.ofChange Rows.auditTotalsSpec) :=
  OpenClaim.holds_of_wide 4 Try.f4 rfl rfl rfl rfl rfl rfl rfl ⟨rfl, rfl, rfl, rfl, rfl⟩ rfl rfl rfl rfl rfl (by kernel_rfl) Try.func4 (by kernel_rfl)
    (of_decide_eq_true (by kernel_rfl)) (by unfold Func.isWrapper; first | (rw [if_pos (by decide +kernel)]; kernel_rfl) | (rw [if_neg (by decide +kernel)]; exact ⟨rfl, rfl⟩))
    (fun os started H enc _ => lifted os started H enc)
end auditTotals
theorem auditTotals_holds : Rows.AuditTotalsSaid := auditTotals.over
#print axioms auditTotals_holds

end Go.Proofs.Ythnnnnaifnddbaa

