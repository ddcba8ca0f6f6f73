/- 'in'; slices.Clone. -/
import Derived.Test.YthnnnnaifnddbaaT
import Derived.Test.YthnnnnaifnddbaaEC
import Derived.Test.YthnnnnaifnddbaaM1
namespace Go.Proofs.Ythnnnnaifnddbaa
set_option maxRecDepth 20000
set_option maxHeartbeats 4000000
set_option linter.unusedVariables false
set_option linter.unusedSimpArgs false
/-- A byte is among those of a text. -/
def isIn (n : Int) (l : List UInt8) : Bool := l.any fun b => decide ((b.toNat : Int) = n)
theorem strLen (x : ByteArray) : x.size = x.data.toList.length := rfl
theorem in_pure (n : Int) (x : ByteArray) : PureC Kx 69 [.c (.d (.i .u8 n)), tS x] (tB (isIn n x.data.toList)) := by
  refine .fit fun hfit => ?_
  have hx := (show Fit (dS x) from hfit (tS x) (.tail _ (.head _))).str
  clear hfit
  rw [strLen] at hx
  refine pure_of_can Try.func69 rfl (nt := 17) rfl rfl (by decide) (by simp) (by simp (maxSteps := 2000000) only [go_sem, Nat.reduceAdd, Nat.reduceEqDiff, Nat.reduceLeDiff, Nat.reduceSub, ↓reduceIte, reduceIte, Nat.reduceMul, reduceCtorEq, Nat.reduceLT, Int.reduceLT, Int.reduceLE, Int.reduceEq, Int.reduceAdd, Int.reduceSub, Int.reduceNeg, Bool.not_true, Bool.not_false, beq_self_eq_true, Int.reduceBEq, Int.reduceBNe, ge_iff_le, gt_iff_lt, Int.reduceToNat, Bool.and_true, Bool.and_false, Bool.true_and, Bool.false_and]) fun Φ hΦ => ?_
  repeat' first
    | refine k_seq ?_
    | refine k_block ?_
    | refine n_sq ?_
    | refine n_bl ?_
    | refine k_skip ?_
    | refine k_exit ?_
    | refine x_sq ?_
    | refine x_hit ?_
    | refine x_miss (by decide) ?_
    | refine x_nil (Ex.of hE ?_)
    | refine k_ret ?_
    | refine t_sq ?_
    | refine t_bl ?_
    | refine t_nil (Rt.of hE ?_)
    | refine t_nil ?_
    | (refine k_region (by rfl) fun Q all hd hQ => ?_; simp (maxSteps := 2000000) only [go_sem, hd, Nat.reduceAdd, Nat.reduceEqDiff, Nat.reduceLeDiff, Nat.reduceSub, ↓reduceIte, reduceIte, Nat.reduceMul, reduceCtorEq, Nat.reduceLT, Int.reduceLT, Int.reduceLE, Int.reduceEq, Int.reduceAdd, Int.reduceSub, Int.reduceNeg, Bool.not_true, Bool.not_false, beq_self_eq_true, Int.reduceBEq, Int.reduceBNe, ge_iff_le, gt_iff_lt, Int.reduceToNat, Bool.and_true, Bool.and_false, Bool.true_and, Bool.false_and])
    | (refine k_draw mixed (by kernel_rfl) fun Q all hd hbf hQ => ?_; simp (maxSteps := 2000000) only [go_sem, hd, Nat.reduceAdd, Nat.reduceEqDiff, Nat.reduceLeDiff, Nat.reduceSub, ↓reduceIte, reduceIte, Nat.reduceMul, reduceCtorEq, Nat.reduceLT, Int.reduceLT, Int.reduceLE, Int.reduceEq, Int.reduceAdd, Int.reduceSub, Int.reduceNeg, Bool.not_true, Bool.not_false, beq_self_eq_true, Int.reduceBEq, Int.reduceBNe, ge_iff_le, gt_iff_lt, Int.reduceToNat, Bool.and_true, Bool.and_false, Bool.true_and, Bool.false_and])
    | (refine hQ _ ?_; clear hQ hd; (try clear hbf); clear Q all)
    | (refine k_true ?_ ?_; (· (simp (maxSteps := 2000000) only [go_sem, Nat.reduceAdd, Nat.reduceEqDiff, Nat.reduceLeDiff, Nat.reduceSub, ↓reduceIte, reduceIte, Nat.reduceMul, reduceCtorEq, Nat.reduceLT, Int.reduceLT, Int.reduceLE, Int.reduceEq, Int.reduceAdd, Int.reduceSub, Int.reduceNeg, Bool.not_true, Bool.not_false, beq_self_eq_true, Int.reduceBEq, Int.reduceBNe, ge_iff_le, gt_iff_lt, Int.reduceToNat, Bool.and_true, Bool.and_false, Bool.true_and, Bool.false_and]; done)))
    | (refine k_false ?_ ?_; (· (simp (maxSteps := 2000000) only [go_sem, Nat.reduceAdd, Nat.reduceEqDiff, Nat.reduceLeDiff, Nat.reduceSub, ↓reduceIte, reduceIte, Nat.reduceMul, reduceCtorEq, Nat.reduceLT, Int.reduceLT, Int.reduceLE, Int.reduceEq, Int.reduceAdd, Int.reduceSub, Int.reduceNeg, Bool.not_true, Bool.not_false, beq_self_eq_true, Int.reduceBEq, Int.reduceBNe, ge_iff_le, gt_iff_lt, Int.reduceToNat, Bool.and_true, Bool.and_false, Bool.true_and, Bool.false_and]; done)))
    | (rw [wrap64]; rotate_left 1; (· omega); (· omega); (try simp (maxSteps := 2000000) only [go_sem, hd, Nat.reduceAdd, Nat.reduceEqDiff, Nat.reduceLeDiff, Nat.reduceSub, ↓reduceIte, reduceIte, Nat.reduceMul, reduceCtorEq, Nat.reduceLT, Int.reduceLT, Int.reduceLE, Int.reduceEq, Int.reduceAdd, Int.reduceSub, Int.reduceNeg, Bool.not_true, Bool.not_false, beq_self_eq_true, Int.reduceBEq, Int.reduceBNe, ge_iff_le, gt_iff_lt, Int.reduceToNat, Bool.and_true, Bool.and_false, Bool.true_and, Bool.false_and]))
    | fail
  refine k_loop (fun j s => ∃ (i : Nat), j = x.data.toList.length - i ∧ i ≤ x.data.toList.length ∧ isIn n (x.data.toList.drop i) = isIn n x.data.toList ∧ s = ⟨ofL [(0, .c (.d (.i .u8 n))), (1, tS x), (5, tI i)], [], 17⟩) (x.data.toList.length - (0))
    (weak_keep (l := [(0, .c (.d (.i .u8 n))), (1, tS x), (5, tI (0))]) (by simp (maxSteps := 2000000) only [go_sem, Nat.reduceAdd, Nat.reduceEqDiff, Nat.reduceLeDiff, Nat.reduceSub, ↓reduceIte, reduceIte, Nat.reduceMul, reduceCtorEq, Nat.reduceLT, Int.reduceLT, Int.reduceLE, Int.reduceEq, Int.reduceAdd, Int.reduceSub, Int.reduceNeg, Bool.not_true, Bool.not_false, beq_self_eq_true, Int.reduceBEq, Int.reduceBNe, ge_iff_le, gt_iff_lt, Int.reduceToNat, Bool.and_true, Bool.and_false, Bool.true_and, Bool.false_and])) ⟨(0), rfl, by omega, by rw [List.drop_zero], rfl⟩ ?_
  rintro j _ ⟨i, rfl, hi, hin, rfl⟩ Ψ hN hE
  repeat' first
    | refine k_seq ?_
    | refine k_block ?_
    | refine n_sq ?_
    | refine n_bl ?_
    | refine k_skip ?_
    | refine k_exit ?_
    | refine x_sq ?_
    | refine x_hit ?_
    | refine x_miss (by decide) ?_
    | refine x_nil (Ex.of hE ?_)
    | refine k_ret ?_
    | refine t_sq ?_
    | refine t_bl ?_
    | refine t_nil (Rt.of hE ?_)
    | refine t_nil ?_
    | (refine k_region (by rfl) fun Q all hd hQ => ?_; simp (maxSteps := 2000000) only [go_sem, hd, strLen, Nat.reduceAdd, Nat.reduceEqDiff, Nat.reduceLeDiff, Nat.reduceSub, ↓reduceIte, reduceIte, Nat.reduceMul, reduceCtorEq, Nat.reduceLT, Int.reduceLT, Int.reduceLE, Int.reduceEq, Int.reduceAdd, Int.reduceSub, Int.reduceNeg, Bool.not_true, Bool.not_false, beq_self_eq_true, Int.reduceBEq, Int.reduceBNe, ge_iff_le, gt_iff_lt, Int.reduceToNat, Bool.and_true, Bool.and_false, Bool.true_and, Bool.false_and])
    | (refine k_draw mixed (by kernel_rfl) fun Q all hd hbf hQ => ?_; simp (maxSteps := 2000000) only [go_sem, hd, strLen, Nat.reduceAdd, Nat.reduceEqDiff, Nat.reduceLeDiff, Nat.reduceSub, ↓reduceIte, reduceIte, Nat.reduceMul, reduceCtorEq, Nat.reduceLT, Int.reduceLT, Int.reduceLE, Int.reduceEq, Int.reduceAdd, Int.reduceSub, Int.reduceNeg, Bool.not_true, Bool.not_false, beq_self_eq_true, Int.reduceBEq, Int.reduceBNe, ge_iff_le, gt_iff_lt, Int.reduceToNat, Bool.and_true, Bool.and_false, Bool.true_and, Bool.false_and])
    | (refine hQ _ ?_; clear hQ hd; (try clear hbf); clear Q all)
    | (refine k_true ?_ ?_; (· (simp (maxSteps := 2000000) only [go_sem, strLen, Nat.reduceAdd, Nat.reduceEqDiff, Nat.reduceLeDiff, Nat.reduceSub, ↓reduceIte, reduceIte, Nat.reduceMul, reduceCtorEq, Nat.reduceLT, Int.reduceLT, Int.reduceLE, Int.reduceEq, Int.reduceAdd, Int.reduceSub, Int.reduceNeg, Bool.not_true, Bool.not_false, beq_self_eq_true, Int.reduceBEq, Int.reduceBNe, ge_iff_le, gt_iff_lt, Int.reduceToNat, Bool.and_true, Bool.and_false, Bool.true_and, Bool.false_and]; done)))
    | (refine k_false ?_ ?_; (· (simp (maxSteps := 2000000) only [go_sem, strLen, Nat.reduceAdd, Nat.reduceEqDiff, Nat.reduceLeDiff, Nat.reduceSub, ↓reduceIte, reduceIte, Nat.reduceMul, reduceCtorEq, Nat.reduceLT, Int.reduceLT, Int.reduceLE, Int.reduceEq, Int.reduceAdd, Int.reduceSub, Int.reduceNeg, Bool.not_true, Bool.not_false, beq_self_eq_true, Int.reduceBEq, Int.reduceBNe, ge_iff_le, gt_iff_lt, Int.reduceToNat, Bool.and_true, Bool.and_false, Bool.true_and, Bool.false_and]; done)))
    | (rw [wrap64]; rotate_left 1; (· omega); (· omega); (try simp (maxSteps := 2000000) only [go_sem, hd, strLen, Nat.reduceAdd, Nat.reduceEqDiff, Nat.reduceLeDiff, Nat.reduceSub, ↓reduceIte, reduceIte, Nat.reduceMul, reduceCtorEq, Nat.reduceLT, Int.reduceLT, Int.reduceLE, Int.reduceEq, Int.reduceAdd, Int.reduceSub, Int.reduceNeg, Bool.not_true, Bool.not_false, beq_self_eq_true, Int.reduceBEq, Int.reduceBNe, ge_iff_le, gt_iff_lt, Int.reduceToNat, Bool.and_true, Bool.and_false, Bool.true_and, Bool.false_and]))
    | fail
  by_cases hlt : (i : Int) < (x.data.toList.length : Int)
  case neg =>
    repeat' first
      | refine k_seq ?_
      | refine k_block ?_
      | refine n_sq ?_
      | refine n_bl ?_
      | refine k_skip ?_
      | refine k_exit ?_
      | refine x_sq ?_
      | refine x_hit ?_
      | refine x_miss (by decide) ?_
      | refine x_nil (Ex.of hE ?_)
      | refine k_ret ?_
      | refine t_sq ?_
      | refine t_bl ?_
      | refine t_nil (Rt.of hE ?_)
      | refine t_nil ?_
      | (refine k_region (by rfl) fun Q all hd hQ => ?_; simp (maxSteps := 2000000) only [go_sem, hd, hlt, Nat.reduceAdd, Nat.reduceEqDiff, Nat.reduceLeDiff, Nat.reduceSub, ↓reduceIte, reduceIte, Nat.reduceMul, reduceCtorEq, Nat.reduceLT, Int.reduceLT, Int.reduceLE, Int.reduceEq, Int.reduceAdd, Int.reduceSub, Int.reduceNeg, Bool.not_true, Bool.not_false, beq_self_eq_true, Int.reduceBEq, Int.reduceBNe, ge_iff_le, gt_iff_lt, Int.reduceToNat, Bool.and_true, Bool.and_false, Bool.true_and, Bool.false_and])
      | (refine k_draw mixed (by kernel_rfl) fun Q all hd hbf hQ => ?_; simp (maxSteps := 2000000) only [go_sem, hd, hlt, Nat.reduceAdd, Nat.reduceEqDiff, Nat.reduceLeDiff, Nat.reduceSub, ↓reduceIte, reduceIte, Nat.reduceMul, reduceCtorEq, Nat.reduceLT, Int.reduceLT, Int.reduceLE, Int.reduceEq, Int.reduceAdd, Int.reduceSub, Int.reduceNeg, Bool.not_true, Bool.not_false, beq_self_eq_true, Int.reduceBEq, Int.reduceBNe, ge_iff_le, gt_iff_lt, Int.reduceToNat, Bool.and_true, Bool.and_false, Bool.true_and, Bool.false_and])
      | (refine hQ _ ?_; clear hQ hd; (try clear hbf); clear Q all)
      | (refine k_true ?_ ?_; (· (simp (maxSteps := 2000000) only [go_sem, hlt, Nat.reduceAdd, Nat.reduceEqDiff, Nat.reduceLeDiff, Nat.reduceSub, ↓reduceIte, reduceIte, Nat.reduceMul, reduceCtorEq, Nat.reduceLT, Int.reduceLT, Int.reduceLE, Int.reduceEq, Int.reduceAdd, Int.reduceSub, Int.reduceNeg, Bool.not_true, Bool.not_false, beq_self_eq_true, Int.reduceBEq, Int.reduceBNe, ge_iff_le, gt_iff_lt, Int.reduceToNat, Bool.and_true, Bool.and_false, Bool.true_and, Bool.false_and]; done)))
      | (refine k_false ?_ ?_; (· (simp (maxSteps := 2000000) only [go_sem, hlt, Nat.reduceAdd, Nat.reduceEqDiff, Nat.reduceLeDiff, Nat.reduceSub, ↓reduceIte, reduceIte, Nat.reduceMul, reduceCtorEq, Nat.reduceLT, Int.reduceLT, Int.reduceLE, Int.reduceEq, Int.reduceAdd, Int.reduceSub, Int.reduceNeg, Bool.not_true, Bool.not_false, beq_self_eq_true, Int.reduceBEq, Int.reduceBNe, ge_iff_le, gt_iff_lt, Int.reduceToNat, Bool.and_true, Bool.and_false, Bool.true_and, Bool.false_and]; done)))
      | (rw [wrap64]; rotate_left 1; (· omega); (· omega); (try simp (maxSteps := 2000000) only [go_sem, hd, hlt, Nat.reduceAdd, Nat.reduceEqDiff, Nat.reduceLeDiff, Nat.reduceSub, ↓reduceIte, reduceIte, Nat.reduceMul, reduceCtorEq, Nat.reduceLT, Int.reduceLT, Int.reduceLE, Int.reduceEq, Int.reduceAdd, Int.reduceSub, Int.reduceNeg, Bool.not_true, Bool.not_false, beq_self_eq_true, Int.reduceBEq, Int.reduceBNe, ge_iff_le, gt_iff_lt, Int.reduceToNat, Bool.and_true, Bool.and_false, Bool.true_and, Bool.false_and]))
      | fail
    have he : isIn n x.data.toList = false := by rw [← hin, List.drop_eq_nil_of_le (by omega)]; rfl
    apply And.left
    apply hΦ
    · simp (maxSteps := 2000000) only [go_sem, resT, resOne, Nat.reduceAdd, Nat.reduceEqDiff, Nat.reduceLeDiff, Nat.reduceSub, ↓reduceIte, reduceIte, Nat.reduceMul, reduceCtorEq, Nat.reduceLT, Int.reduceLT, Int.reduceLE, Int.reduceEq, Int.reduceAdd, Int.reduceSub, Int.reduceNeg, Bool.not_true, Bool.not_false, beq_self_eq_true, Int.reduceBEq, Int.reduceBNe, ge_iff_le, gt_iff_lt, Int.reduceToNat, Bool.and_true, Bool.and_false, Bool.true_and, Bool.false_and]; rfl
    · rw [he]; rfl
    · simp (maxSteps := 2000000) only [go_sem, Nat.reduceAdd, Nat.reduceEqDiff, Nat.reduceLeDiff, Nat.reduceSub, ↓reduceIte, reduceIte, Nat.reduceMul, reduceCtorEq, Nat.reduceLT, Int.reduceLT, Int.reduceLE, Int.reduceEq, Int.reduceAdd, Int.reduceSub, Int.reduceNeg, Bool.not_true, Bool.not_false, beq_self_eq_true, Int.reduceBEq, Int.reduceBNe, ge_iff_le, gt_iff_lt, Int.reduceToNat, Bool.and_true, Bool.and_false, Bool.true_and, Bool.false_and]
  have hi' : i < x.data.toList.length := by omega
  have hk := List.getElem?_eq_getElem hi'
  have h0 : (0 : Int) ≤ (i : Int) := by omega
  have hd' := List.getElem_cons_drop hi'
  by_cases he : ((x.data.toList[i]).toNat : Int) = n
  case pos =>
    repeat' first
      | refine k_seq ?_
      | refine k_block ?_
      | refine n_sq ?_
      | refine n_bl ?_
      | refine k_skip ?_
      | refine k_exit ?_
      | refine x_sq ?_
      | refine x_hit ?_
      | refine x_miss (by decide) ?_
      | refine x_nil (Ex.of hE ?_)
      | refine k_ret ?_
      | refine t_sq ?_
      | refine t_bl ?_
      | refine t_nil (Rt.of hE ?_)
      | refine t_nil ?_
      | (refine k_region (by rfl) fun Q all hd hQ => ?_; simp (maxSteps := 2000000) only [go_sem, hd, hlt, byteF, h0, hk, he, strLen, Nat.reduceAdd, Nat.reduceEqDiff, Nat.reduceLeDiff, Nat.reduceSub, ↓reduceIte, reduceIte, Nat.reduceMul, reduceCtorEq, Nat.reduceLT, Int.reduceLT, Int.reduceLE, Int.reduceEq, Int.reduceAdd, Int.reduceSub, Int.reduceNeg, Bool.not_true, Bool.not_false, beq_self_eq_true, Int.reduceBEq, Int.reduceBNe, ge_iff_le, gt_iff_lt, Int.reduceToNat, Bool.and_true, Bool.and_false, Bool.true_and, Bool.false_and])
      | (refine k_draw mixed (by kernel_rfl) fun Q all hd hbf hQ => ?_; simp (maxSteps := 2000000) only [go_sem, hd, hlt, byteF, h0, hk, he, strLen, Nat.reduceAdd, Nat.reduceEqDiff, Nat.reduceLeDiff, Nat.reduceSub, ↓reduceIte, reduceIte, Nat.reduceMul, reduceCtorEq, Nat.reduceLT, Int.reduceLT, Int.reduceLE, Int.reduceEq, Int.reduceAdd, Int.reduceSub, Int.reduceNeg, Bool.not_true, Bool.not_false, beq_self_eq_true, Int.reduceBEq, Int.reduceBNe, ge_iff_le, gt_iff_lt, Int.reduceToNat, Bool.and_true, Bool.and_false, Bool.true_and, Bool.false_and])
      | (refine hQ _ ?_; clear hQ hd; (try clear hbf); clear Q all)
      | (refine k_true ?_ ?_; (· (simp (maxSteps := 2000000) only [go_sem, hlt, byteF, h0, hk, he, strLen, Nat.reduceAdd, Nat.reduceEqDiff, Nat.reduceLeDiff, Nat.reduceSub, ↓reduceIte, reduceIte, Nat.reduceMul, reduceCtorEq, Nat.reduceLT, Int.reduceLT, Int.reduceLE, Int.reduceEq, Int.reduceAdd, Int.reduceSub, Int.reduceNeg, Bool.not_true, Bool.not_false, beq_self_eq_true, Int.reduceBEq, Int.reduceBNe, ge_iff_le, gt_iff_lt, Int.reduceToNat, Bool.and_true, Bool.and_false, Bool.true_and, Bool.false_and]; done)))
      | (refine k_false ?_ ?_; (· (simp (maxSteps := 2000000) only [go_sem, hlt, byteF, h0, hk, he, strLen, Nat.reduceAdd, Nat.reduceEqDiff, Nat.reduceLeDiff, Nat.reduceSub, ↓reduceIte, reduceIte, Nat.reduceMul, reduceCtorEq, Nat.reduceLT, Int.reduceLT, Int.reduceLE, Int.reduceEq, Int.reduceAdd, Int.reduceSub, Int.reduceNeg, Bool.not_true, Bool.not_false, beq_self_eq_true, Int.reduceBEq, Int.reduceBNe, ge_iff_le, gt_iff_lt, Int.reduceToNat, Bool.and_true, Bool.and_false, Bool.true_and, Bool.false_and]; done)))
      | (rw [wrap64]; rotate_left 1; (· omega); (· omega); (try simp (maxSteps := 2000000) only [go_sem, hd, hlt, byteF, h0, hk, he, strLen, Nat.reduceAdd, Nat.reduceEqDiff, Nat.reduceLeDiff, Nat.reduceSub, ↓reduceIte, reduceIte, Nat.reduceMul, reduceCtorEq, Nat.reduceLT, Int.reduceLT, Int.reduceLE, Int.reduceEq, Int.reduceAdd, Int.reduceSub, Int.reduceNeg, Bool.not_true, Bool.not_false, beq_self_eq_true, Int.reduceBEq, Int.reduceBNe, ge_iff_le, gt_iff_lt, Int.reduceToNat, Bool.and_true, Bool.and_false, Bool.true_and, Bool.false_and]))
      | fail
    have he : isIn n x.data.toList = true := by rw [← hin, ← hd', isIn, List.any_cons, decide_eq_true he, Bool.true_or]
    apply And.left
    apply hΦ
    · simp (maxSteps := 2000000) only [go_sem, resT, resOne, Nat.reduceAdd, Nat.reduceEqDiff, Nat.reduceLeDiff, Nat.reduceSub, ↓reduceIte, reduceIte, Nat.reduceMul, reduceCtorEq, Nat.reduceLT, Int.reduceLT, Int.reduceLE, Int.reduceEq, Int.reduceAdd, Int.reduceSub, Int.reduceNeg, Bool.not_true, Bool.not_false, beq_self_eq_true, Int.reduceBEq, Int.reduceBNe, ge_iff_le, gt_iff_lt, Int.reduceToNat, Bool.and_true, Bool.and_false, Bool.true_and, Bool.false_and]; rfl
    · rw [he]; rfl
    · simp (maxSteps := 2000000) only [go_sem, Nat.reduceAdd, Nat.reduceEqDiff, Nat.reduceLeDiff, Nat.reduceSub, ↓reduceIte, reduceIte, Nat.reduceMul, reduceCtorEq, Nat.reduceLT, Int.reduceLT, Int.reduceLE, Int.reduceEq, Int.reduceAdd, Int.reduceSub, Int.reduceNeg, Bool.not_true, Bool.not_false, beq_self_eq_true, Int.reduceBEq, Int.reduceBNe, ge_iff_le, gt_iff_lt, Int.reduceToNat, Bool.and_true, Bool.and_false, Bool.true_and, Bool.false_and]
  have hne := beq_eq_false_iff_ne.2 he
  repeat' first
    | refine k_seq ?_
    | refine k_block ?_
    | refine n_sq ?_
    | refine n_bl ?_
    | refine k_skip ?_
    | refine k_exit ?_
    | refine x_sq ?_
    | refine x_hit ?_
    | refine x_miss (by decide) ?_
    | refine x_nil (Ex.of hE ?_)
    | refine k_ret ?_
    | refine t_sq ?_
    | refine t_bl ?_
    | refine t_nil (Rt.of hE ?_)
    | refine t_nil ?_
    | (refine k_region (by rfl) fun Q all hd hQ => ?_; simp (maxSteps := 2000000) only [go_sem, hd, hlt, byteF, h0, hk, hne, strLen, Nat.reduceAdd, Nat.reduceEqDiff, Nat.reduceLeDiff, Nat.reduceSub, ↓reduceIte, reduceIte, Nat.reduceMul, reduceCtorEq, Nat.reduceLT, Int.reduceLT, Int.reduceLE, Int.reduceEq, Int.reduceAdd, Int.reduceSub, Int.reduceNeg, Bool.not_true, Bool.not_false, beq_self_eq_true, Int.reduceBEq, Int.reduceBNe, ge_iff_le, gt_iff_lt, Int.reduceToNat, Bool.and_true, Bool.and_false, Bool.true_and, Bool.false_and])
    | (refine k_draw mixed (by kernel_rfl) fun Q all hd hbf hQ => ?_; simp (maxSteps := 2000000) only [go_sem, hd, hlt, byteF, h0, hk, hne, strLen, Nat.reduceAdd, Nat.reduceEqDiff, Nat.reduceLeDiff, Nat.reduceSub, ↓reduceIte, reduceIte, Nat.reduceMul, reduceCtorEq, Nat.reduceLT, Int.reduceLT, Int.reduceLE, Int.reduceEq, Int.reduceAdd, Int.reduceSub, Int.reduceNeg, Bool.not_true, Bool.not_false, beq_self_eq_true, Int.reduceBEq, Int.reduceBNe, ge_iff_le, gt_iff_lt, Int.reduceToNat, Bool.and_true, Bool.and_false, Bool.true_and, Bool.false_and])
    | (refine hQ _ ?_; clear hQ hd; (try clear hbf); clear Q all)
    | (refine k_true ?_ ?_; (· (simp (maxSteps := 2000000) only [go_sem, hlt, byteF, h0, hk, hne, strLen, Nat.reduceAdd, Nat.reduceEqDiff, Nat.reduceLeDiff, Nat.reduceSub, ↓reduceIte, reduceIte, Nat.reduceMul, reduceCtorEq, Nat.reduceLT, Int.reduceLT, Int.reduceLE, Int.reduceEq, Int.reduceAdd, Int.reduceSub, Int.reduceNeg, Bool.not_true, Bool.not_false, beq_self_eq_true, Int.reduceBEq, Int.reduceBNe, ge_iff_le, gt_iff_lt, Int.reduceToNat, Bool.and_true, Bool.and_false, Bool.true_and, Bool.false_and]; done)))
    | (refine k_false ?_ ?_; (· (simp (maxSteps := 2000000) only [go_sem, hlt, byteF, h0, hk, hne, strLen, Nat.reduceAdd, Nat.reduceEqDiff, Nat.reduceLeDiff, Nat.reduceSub, ↓reduceIte, reduceIte, Nat.reduceMul, reduceCtorEq, Nat.reduceLT, Int.reduceLT, Int.reduceLE, Int.reduceEq, Int.reduceAdd, Int.reduceSub, Int.reduceNeg, Bool.not_true, Bool.not_false, beq_self_eq_true, Int.reduceBEq, Int.reduceBNe, ge_iff_le, gt_iff_lt, Int.reduceToNat, Bool.and_true, Bool.and_false, Bool.true_and, Bool.false_and]; done)))
    | (rw [wrap64]; rotate_left 1; (· omega); (· omega); (try simp (maxSteps := 2000000) only [go_sem, hd, hlt, byteF, h0, hk, hne, strLen, Nat.reduceAdd, Nat.reduceEqDiff, Nat.reduceLeDiff, Nat.reduceSub, ↓reduceIte, reduceIte, Nat.reduceMul, reduceCtorEq, Nat.reduceLT, Int.reduceLT, Int.reduceLE, Int.reduceEq, Int.reduceAdd, Int.reduceSub, Int.reduceNeg, Bool.not_true, Bool.not_false, beq_self_eq_true, Int.reduceBEq, Int.reduceBNe, ge_iff_le, gt_iff_lt, Int.reduceToNat, Bool.and_true, Bool.and_false, Bool.true_and, Bool.false_and]))
    | fail
  refine n_nil (hN (x.data.toList.length - (i + 1)) _ _ (by omega) (weak_keep (l := [(0, .c (.d (.i .u8 n))), (1, tS x), (5, tI (i + 1))]) (by simp (maxSteps := 2000000) only [go_sem, Nat.reduceAdd, Nat.reduceEqDiff, Nat.reduceLeDiff, Nat.reduceSub, ↓reduceIte, reduceIte, Nat.reduceMul, reduceCtorEq, Nat.reduceLT, Int.reduceLT, Int.reduceLE, Int.reduceEq, Int.reduceAdd, Int.reduceSub, Int.reduceNeg, Bool.not_true, Bool.not_false, beq_self_eq_true, Int.reduceBEq, Int.reduceBNe, ge_iff_le, gt_iff_lt, Int.reduceToNat, Bool.and_true, Bool.and_false, Bool.true_and, Bool.false_and]; (try rfl))) ⟨(i + 1), rfl, by omega, by rw [← hin, ← hd', isIn, isIn, List.any_cons, decide_eq_false he, Bool.false_or], rfl⟩)

theorem cloneS_own (es : List (List Dat)) (hl : ∀ e ∈ es, e.length = 1) (hn : es.length * 16 ≤ 140737488355328) : FunC Kx 43 [tL es] [] fun t H' => t = .c (.vs 0 es.length) ∧ H' = [.row 9 es false] := by
  refine own_of_can Try.func43 rfl (nt := 8) rfl rfl (by decide) (by simp) fun Φ hΦ => ?_
  cases es with
  | nil =>
    repeat' first
      | refine k_seq ?_
      | refine k_block ?_
      | refine n_sq ?_
      | refine n_bl ?_
      | refine k_skip ?_
      | refine k_exit ?_
      | refine x_sq ?_
      | refine x_hit ?_
      | refine x_miss (by decide) ?_
      | refine x_nil (Ex.of hE ?_)
      | refine t_sq ?_
      | refine t_bl ?_
      | refine t_nil (Rt.of hE ?_)
      | refine t_nil ?_
      | (refine k_region (by rfl) fun Q all hd hQ => ?_; simp (maxSteps := 2000000) only [go_sem, hd, hn, hl, Nat.reduceAdd, Nat.reduceEqDiff, Nat.reduceLeDiff, Nat.reduceSub, ↓reduceIte, reduceIte, Nat.reduceMul, reduceCtorEq, Nat.reduceLT, Int.reduceLT, Int.reduceLE, Int.reduceEq, Int.reduceAdd, Int.reduceSub, Int.reduceNeg, Bool.not_true, Bool.not_false, beq_self_eq_true, Int.reduceBEq, Int.reduceBNe, ge_iff_le, gt_iff_lt, Int.reduceToNat, Bool.and_true, Bool.and_false, Bool.true_and, Bool.false_and])
      | (refine k_draw mixed (by kernel_rfl) fun Q all hd hbf hQ => ?_; simp (maxSteps := 2000000) only [go_sem, hd, hn, hl, Nat.reduceAdd, Nat.reduceEqDiff, Nat.reduceLeDiff, Nat.reduceSub, ↓reduceIte, reduceIte, Nat.reduceMul, reduceCtorEq, Nat.reduceLT, Int.reduceLT, Int.reduceLE, Int.reduceEq, Int.reduceAdd, Int.reduceSub, Int.reduceNeg, Bool.not_true, Bool.not_false, beq_self_eq_true, Int.reduceBEq, Int.reduceBNe, ge_iff_le, gt_iff_lt, Int.reduceToNat, Bool.and_true, Bool.and_false, Bool.true_and, Bool.false_and])
      | (refine hQ _ ?_; clear hQ hd; (try clear hbf); clear Q all)
      | (refine k_true ?_ ?_; (· (simp (maxSteps := 2000000) only [go_sem, hn, hl, Nat.reduceAdd, Nat.reduceEqDiff, Nat.reduceLeDiff, Nat.reduceSub, ↓reduceIte, reduceIte, Nat.reduceMul, reduceCtorEq, Nat.reduceLT, Int.reduceLT, Int.reduceLE, Int.reduceEq, Int.reduceAdd, Int.reduceSub, Int.reduceNeg, Bool.not_true, Bool.not_false, beq_self_eq_true, Int.reduceBEq, Int.reduceBNe, ge_iff_le, gt_iff_lt, Int.reduceToNat, Bool.and_true, Bool.and_false, Bool.true_and, Bool.false_and]; done)))
      | (refine k_false ?_ ?_; (· (simp (maxSteps := 2000000) only [go_sem, hn, hl, Nat.reduceAdd, Nat.reduceEqDiff, Nat.reduceLeDiff, Nat.reduceSub, ↓reduceIte, reduceIte, Nat.reduceMul, reduceCtorEq, Nat.reduceLT, Int.reduceLT, Int.reduceLE, Int.reduceEq, Int.reduceAdd, Int.reduceSub, Int.reduceNeg, Bool.not_true, Bool.not_false, beq_self_eq_true, Int.reduceBEq, Int.reduceBNe, ge_iff_le, gt_iff_lt, Int.reduceToNat, Bool.and_true, Bool.and_false, Bool.true_and, Bool.false_and]; done)))
      | (rw [wrap64]; rotate_left 1; (· omega); (· omega); (try simp (maxSteps := 2000000) only [go_sem, hd, hn, hl, Nat.reduceAdd, Nat.reduceEqDiff, Nat.reduceLeDiff, Nat.reduceSub, ↓reduceIte, reduceIte, Nat.reduceMul, reduceCtorEq, Nat.reduceLT, Int.reduceLT, Int.reduceLE, Int.reduceEq, Int.reduceAdd, Int.reduceSub, Int.reduceNeg, Bool.not_true, Bool.not_false, beq_self_eq_true, Int.reduceBEq, Int.reduceBNe, ge_iff_le, gt_iff_lt, Int.reduceToNat, Bool.and_true, Bool.and_false, Bool.true_and, Bool.false_and]))
      | fail
    intro b
    cases b
    · repeat' first
        | refine k_seq ?_
        | refine k_block ?_
        | refine n_sq ?_
        | refine n_bl ?_
        | refine k_skip ?_
        | refine k_exit ?_
        | refine x_sq ?_
        | refine x_hit ?_
        | refine x_miss (by decide) ?_
        | refine x_nil (Ex.of hE ?_)
        | refine t_sq ?_
        | refine t_bl ?_
        | refine t_nil (Rt.of hE ?_)
        | refine t_nil ?_
        | (refine k_region (by rfl) fun Q all hd hQ => ?_; simp (maxSteps := 2000000) only [go_sem, hd, Nat.reduceAdd, Nat.reduceEqDiff, Nat.reduceLeDiff, Nat.reduceSub, ↓reduceIte, reduceIte, Nat.reduceMul, reduceCtorEq, Nat.reduceLT, Int.reduceLT, Int.reduceLE, Int.reduceEq, Int.reduceAdd, Int.reduceSub, Int.reduceNeg, Bool.not_true, Bool.not_false, beq_self_eq_true, Int.reduceBEq, Int.reduceBNe, ge_iff_le, gt_iff_lt, Int.reduceToNat, Bool.and_true, Bool.and_false, Bool.true_and, Bool.false_and])
        | (refine k_draw mixed (by kernel_rfl) fun Q all hd hbf hQ => ?_; simp (maxSteps := 2000000) only [go_sem, hd, Nat.reduceAdd, Nat.reduceEqDiff, Nat.reduceLeDiff, Nat.reduceSub, ↓reduceIte, reduceIte, Nat.reduceMul, reduceCtorEq, Nat.reduceLT, Int.reduceLT, Int.reduceLE, Int.reduceEq, Int.reduceAdd, Int.reduceSub, Int.reduceNeg, Bool.not_true, Bool.not_false, beq_self_eq_true, Int.reduceBEq, Int.reduceBNe, ge_iff_le, gt_iff_lt, Int.reduceToNat, Bool.and_true, Bool.and_false, Bool.true_and, Bool.false_and])
        | (refine hQ _ ?_; clear hQ hd; (try clear hbf); clear Q all)
        | (refine k_true ?_ ?_; (· (simp (maxSteps := 2000000) only [go_sem, Nat.reduceAdd, Nat.reduceEqDiff, Nat.reduceLeDiff, Nat.reduceSub, ↓reduceIte, reduceIte, Nat.reduceMul, reduceCtorEq, Nat.reduceLT, Int.reduceLT, Int.reduceLE, Int.reduceEq, Int.reduceAdd, Int.reduceSub, Int.reduceNeg, Bool.not_true, Bool.not_false, beq_self_eq_true, Int.reduceBEq, Int.reduceBNe, ge_iff_le, gt_iff_lt, Int.reduceToNat, Bool.and_true, Bool.and_false, Bool.true_and, Bool.false_and]; done)))
        | (refine k_false ?_ ?_; (· (simp (maxSteps := 2000000) only [go_sem, Nat.reduceAdd, Nat.reduceEqDiff, Nat.reduceLeDiff, Nat.reduceSub, ↓reduceIte, reduceIte, Nat.reduceMul, reduceCtorEq, Nat.reduceLT, Int.reduceLT, Int.reduceLE, Int.reduceEq, Int.reduceAdd, Int.reduceSub, Int.reduceNeg, Bool.not_true, Bool.not_false, beq_self_eq_true, Int.reduceBEq, Int.reduceBNe, ge_iff_le, gt_iff_lt, Int.reduceToNat, Bool.and_true, Bool.and_false, Bool.true_and, Bool.false_and]; done)))
        | (rw [wrap64]; rotate_left 1; (· omega); (· omega); (try simp (maxSteps := 2000000) only [go_sem, hd, Nat.reduceAdd, Nat.reduceEqDiff, Nat.reduceLeDiff, Nat.reduceSub, ↓reduceIte, reduceIte, Nat.reduceMul, reduceCtorEq, Nat.reduceLT, Int.reduceLT, Int.reduceLE, Int.reduceEq, Int.reduceAdd, Int.reduceSub, Int.reduceNeg, Bool.not_true, Bool.not_false, beq_self_eq_true, Int.reduceBEq, Int.reduceBNe, ge_iff_le, gt_iff_lt, Int.reduceToNat, Bool.and_true, Bool.and_false, Bool.true_and, Bool.false_and]))
        | fail
      rw [if_pos (by simp)]
      simp (maxSteps := 2000000) only [go_sem, hd, Nat.reduceAdd, Nat.reduceEqDiff, Nat.reduceLeDiff, Nat.reduceSub, ↓reduceIte, reduceIte, Nat.reduceMul, reduceCtorEq, Nat.reduceLT, Int.reduceLT, Int.reduceLE, Int.reduceEq, Int.reduceAdd, Int.reduceSub, Int.reduceNeg, Bool.not_true, Bool.not_false, beq_self_eq_true, Int.reduceBEq, Int.reduceBNe, ge_iff_le, gt_iff_lt, Int.reduceToNat, Bool.and_true, Bool.and_false, Bool.true_and, Bool.false_and]
      repeat' first
        | refine k_seq ?_
        | refine k_block ?_
        | refine n_sq ?_
        | refine n_bl ?_
        | refine k_skip ?_
        | refine k_exit ?_
        | refine x_sq ?_
        | refine x_hit ?_
        | refine x_miss (by decide) ?_
        | refine x_nil (Ex.of hE ?_)
        | refine t_sq ?_
        | refine t_bl ?_
        | refine t_nil (Rt.of hE ?_)
        | refine t_nil ?_
        | (refine k_region (by rfl) fun Q all hd hQ => ?_; simp (maxSteps := 2000000) only [go_sem, hd, Nat.reduceAdd, Nat.reduceEqDiff, Nat.reduceLeDiff, Nat.reduceSub, ↓reduceIte, reduceIte, Nat.reduceMul, reduceCtorEq, Nat.reduceLT, Int.reduceLT, Int.reduceLE, Int.reduceEq, Int.reduceAdd, Int.reduceSub, Int.reduceNeg, Bool.not_true, Bool.not_false, beq_self_eq_true, Int.reduceBEq, Int.reduceBNe, ge_iff_le, gt_iff_lt, Int.reduceToNat, Bool.and_true, Bool.and_false, Bool.true_and, Bool.false_and])
        | (refine k_draw mixed (by kernel_rfl) fun Q all hd hbf hQ => ?_; simp (maxSteps := 2000000) only [go_sem, hd, Nat.reduceAdd, Nat.reduceEqDiff, Nat.reduceLeDiff, Nat.reduceSub, ↓reduceIte, reduceIte, Nat.reduceMul, reduceCtorEq, Nat.reduceLT, Int.reduceLT, Int.reduceLE, Int.reduceEq, Int.reduceAdd, Int.reduceSub, Int.reduceNeg, Bool.not_true, Bool.not_false, beq_self_eq_true, Int.reduceBEq, Int.reduceBNe, ge_iff_le, gt_iff_lt, Int.reduceToNat, Bool.and_true, Bool.and_false, Bool.true_and, Bool.false_and])
        | (refine hQ _ ?_; clear hQ hd; (try clear hbf); clear Q all)
        | (refine k_true ?_ ?_; (· (simp (maxSteps := 2000000) only [go_sem, Nat.reduceAdd, Nat.reduceEqDiff, Nat.reduceLeDiff, Nat.reduceSub, ↓reduceIte, reduceIte, Nat.reduceMul, reduceCtorEq, Nat.reduceLT, Int.reduceLT, Int.reduceLE, Int.reduceEq, Int.reduceAdd, Int.reduceSub, Int.reduceNeg, Bool.not_true, Bool.not_false, beq_self_eq_true, Int.reduceBEq, Int.reduceBNe, ge_iff_le, gt_iff_lt, Int.reduceToNat, Bool.and_true, Bool.and_false, Bool.true_and, Bool.false_and]; done)))
        | (refine k_false ?_ ?_; (· (simp (maxSteps := 2000000) only [go_sem, Nat.reduceAdd, Nat.reduceEqDiff, Nat.reduceLeDiff, Nat.reduceSub, ↓reduceIte, reduceIte, Nat.reduceMul, reduceCtorEq, Nat.reduceLT, Int.reduceLT, Int.reduceLE, Int.reduceEq, Int.reduceAdd, Int.reduceSub, Int.reduceNeg, Bool.not_true, Bool.not_false, beq_self_eq_true, Int.reduceBEq, Int.reduceBNe, ge_iff_le, gt_iff_lt, Int.reduceToNat, Bool.and_true, Bool.and_false, Bool.true_and, Bool.false_and]; done)))
        | (rw [wrap64]; rotate_left 1; (· omega); (· omega); (try simp (maxSteps := 2000000) only [go_sem, hd, Nat.reduceAdd, Nat.reduceEqDiff, Nat.reduceLeDiff, Nat.reduceSub, ↓reduceIte, reduceIte, Nat.reduceMul, reduceCtorEq, Nat.reduceLT, Int.reduceLT, Int.reduceLE, Int.reduceEq, Int.reduceAdd, Int.reduceSub, Int.reduceNeg, Bool.not_true, Bool.not_false, beq_self_eq_true, Int.reduceBEq, Int.reduceBNe, ge_iff_le, gt_iff_lt, Int.reduceToNat, Bool.and_true, Bool.and_false, Bool.true_and, Bool.false_and]))
        | fail
      refine k_ret ?_
      repeat refine t_sq ?_
      refine t_nil ?_
      refine (hΦ _ _ (.c (.vs 0 _)) ?_ ⟨rfl, ?_⟩).1
      · simp (maxSteps := 2000000) only [go_sem, resT, resOne, Nat.reduceAdd, Nat.reduceEqDiff, Nat.reduceLeDiff, Nat.reduceSub, ↓reduceIte, reduceIte, Nat.reduceMul, reduceCtorEq, Nat.reduceLT, Int.reduceLT, Int.reduceLE, Int.reduceEq, Int.reduceAdd, Int.reduceSub, Int.reduceNeg, Bool.not_true, Bool.not_false, beq_self_eq_true, Int.reduceBEq, Int.reduceBNe, ge_iff_le, gt_iff_lt, Int.reduceToNat, Bool.and_true, Bool.and_false, Bool.true_and, Bool.false_and]; rfl
      · simp (maxSteps := 2000000) only [go_sem, Nat.reduceAdd, Nat.reduceEqDiff, Nat.reduceLeDiff, Nat.reduceSub, ↓reduceIte, reduceIte, Nat.reduceMul, reduceCtorEq, Nat.reduceLT, Int.reduceLT, Int.reduceLE, Int.reduceEq, Int.reduceAdd, Int.reduceSub, Int.reduceNeg, Bool.not_true, Bool.not_false, beq_self_eq_true, Int.reduceBEq, Int.reduceBNe, ge_iff_le, gt_iff_lt, Int.reduceToNat, Bool.and_true, Bool.and_false, Bool.true_and, Bool.false_and]; try rfl
    · repeat' first
        | refine k_seq ?_
        | refine k_block ?_
        | refine n_sq ?_
        | refine n_bl ?_
        | refine k_skip ?_
        | refine k_exit ?_
        | refine x_sq ?_
        | refine x_hit ?_
        | refine x_miss (by decide) ?_
        | refine x_nil (Ex.of hE ?_)
        | refine t_sq ?_
        | refine t_bl ?_
        | refine t_nil (Rt.of hE ?_)
        | refine t_nil ?_
        | (refine k_region (by rfl) fun Q all hd hQ => ?_; simp (maxSteps := 2000000) only [go_sem, hd, hn, hl, Nat.reduceAdd, Nat.reduceEqDiff, Nat.reduceLeDiff, Nat.reduceSub, ↓reduceIte, reduceIte, Nat.reduceMul, reduceCtorEq, Nat.reduceLT, Int.reduceLT, Int.reduceLE, Int.reduceEq, Int.reduceAdd, Int.reduceSub, Int.reduceNeg, Bool.not_true, Bool.not_false, beq_self_eq_true, Int.reduceBEq, Int.reduceBNe, ge_iff_le, gt_iff_lt, Int.reduceToNat, Bool.and_true, Bool.and_false, Bool.true_and, Bool.false_and])
        | (refine k_draw mixed (by kernel_rfl) fun Q all hd hbf hQ => ?_; simp (maxSteps := 2000000) only [go_sem, hd, hn, hl, Nat.reduceAdd, Nat.reduceEqDiff, Nat.reduceLeDiff, Nat.reduceSub, ↓reduceIte, reduceIte, Nat.reduceMul, reduceCtorEq, Nat.reduceLT, Int.reduceLT, Int.reduceLE, Int.reduceEq, Int.reduceAdd, Int.reduceSub, Int.reduceNeg, Bool.not_true, Bool.not_false, beq_self_eq_true, Int.reduceBEq, Int.reduceBNe, ge_iff_le, gt_iff_lt, Int.reduceToNat, Bool.and_true, Bool.and_false, Bool.true_and, Bool.false_and])
        | (refine hQ _ ?_; clear hQ hd; (try clear hbf); clear Q all)
        | (refine k_true ?_ ?_; (· (simp (maxSteps := 2000000) only [go_sem, hn, hl, Nat.reduceAdd, Nat.reduceEqDiff, Nat.reduceLeDiff, Nat.reduceSub, ↓reduceIte, reduceIte, Nat.reduceMul, reduceCtorEq, Nat.reduceLT, Int.reduceLT, Int.reduceLE, Int.reduceEq, Int.reduceAdd, Int.reduceSub, Int.reduceNeg, Bool.not_true, Bool.not_false, beq_self_eq_true, Int.reduceBEq, Int.reduceBNe, ge_iff_le, gt_iff_lt, Int.reduceToNat, Bool.and_true, Bool.and_false, Bool.true_and, Bool.false_and]; done)))
        | (refine k_false ?_ ?_; (· (simp (maxSteps := 2000000) only [go_sem, hn, hl, Nat.reduceAdd, Nat.reduceEqDiff, Nat.reduceLeDiff, Nat.reduceSub, ↓reduceIte, reduceIte, Nat.reduceMul, reduceCtorEq, Nat.reduceLT, Int.reduceLT, Int.reduceLE, Int.reduceEq, Int.reduceAdd, Int.reduceSub, Int.reduceNeg, Bool.not_true, Bool.not_false, beq_self_eq_true, Int.reduceBEq, Int.reduceBNe, ge_iff_le, gt_iff_lt, Int.reduceToNat, Bool.and_true, Bool.and_false, Bool.true_and, Bool.false_and]; done)))
        | (rw [wrap64]; rotate_left 1; (· omega); (· omega); (try simp (maxSteps := 2000000) only [go_sem, hd, hn, hl, Nat.reduceAdd, Nat.reduceEqDiff, Nat.reduceLeDiff, Nat.reduceSub, ↓reduceIte, reduceIte, Nat.reduceMul, reduceCtorEq, Nat.reduceLT, Int.reduceLT, Int.reduceLE, Int.reduceEq, Int.reduceAdd, Int.reduceSub, Int.reduceNeg, Bool.not_true, Bool.not_false, beq_self_eq_true, Int.reduceBEq, Int.reduceBNe, ge_iff_le, gt_iff_lt, Int.reduceToNat, Bool.and_true, Bool.and_false, Bool.true_and, Bool.false_and]))
        | fail
      refine can_weak (weak_own 2 9 (by simp (maxSteps := 2000000) only [go_sem, Nat.reduceAdd, Nat.reduceEqDiff, Nat.reduceLeDiff, Nat.reduceSub, ↓reduceIte, reduceIte, Nat.reduceMul, reduceCtorEq, Nat.reduceLT, Int.reduceLT, Int.reduceLE, Int.reduceEq, Int.reduceAdd, Int.reduceSub, Int.reduceNeg, Bool.not_true, Bool.not_false, beq_self_eq_true, Int.reduceBEq, Int.reduceBNe, ge_iff_le, gt_iff_lt, Int.reduceToNat, Bool.and_true, Bool.and_false, Bool.true_and, Bool.false_and])) ?_
      refine k_ret ?_
      repeat refine t_sq ?_
      refine t_nil ?_
      refine (hΦ _ _ (.c (.vs 0 _)) ?_ ⟨rfl, ?_⟩).1
      · simp (maxSteps := 2000000) only [go_sem, resT, resOne, Nat.reduceAdd, Nat.reduceEqDiff, Nat.reduceLeDiff, Nat.reduceSub, ↓reduceIte, reduceIte, Nat.reduceMul, reduceCtorEq, Nat.reduceLT, Int.reduceLT, Int.reduceLE, Int.reduceEq, Int.reduceAdd, Int.reduceSub, Int.reduceNeg, Bool.not_true, Bool.not_false, beq_self_eq_true, Int.reduceBEq, Int.reduceBNe, ge_iff_le, gt_iff_lt, Int.reduceToNat, Bool.and_true, Bool.and_false, Bool.true_and, Bool.false_and]; rfl
      · simp (maxSteps := 2000000) only [go_sem, Nat.reduceAdd, Nat.reduceEqDiff, Nat.reduceLeDiff, Nat.reduceSub, ↓reduceIte, reduceIte, Nat.reduceMul, reduceCtorEq, Nat.reduceLT, Int.reduceLT, Int.reduceLE, Int.reduceEq, Int.reduceAdd, Int.reduceSub, Int.reduceNeg, Bool.not_true, Bool.not_false, beq_self_eq_true, Int.reduceBEq, Int.reduceBNe, ge_iff_le, gt_iff_lt, Int.reduceToNat, Bool.and_true, Bool.and_false, Bool.true_and, Bool.false_and]; try rfl
  | cons e es =>
    repeat' first
      | refine k_seq ?_
      | refine k_block ?_
      | refine n_sq ?_
      | refine n_bl ?_
      | refine k_skip ?_
      | refine k_exit ?_
      | refine x_sq ?_
      | refine x_hit ?_
      | refine x_miss (by decide) ?_
      | refine x_nil (Ex.of hE ?_)
      | refine t_sq ?_
      | refine t_bl ?_
      | refine t_nil (Rt.of hE ?_)
      | refine t_nil ?_
      | (refine k_region (by rfl) fun Q all hd hQ => ?_; simp (maxSteps := 2000000) only [go_sem, hd, Nat.reduceAdd, Nat.reduceEqDiff, Nat.reduceLeDiff, Nat.reduceSub, ↓reduceIte, reduceIte, Nat.reduceMul, reduceCtorEq, Nat.reduceLT, Int.reduceLT, Int.reduceLE, Int.reduceEq, Int.reduceAdd, Int.reduceSub, Int.reduceNeg, Bool.not_true, Bool.not_false, beq_self_eq_true, Int.reduceBEq, Int.reduceBNe, ge_iff_le, gt_iff_lt, Int.reduceToNat, Bool.and_true, Bool.and_false, Bool.true_and, Bool.false_and])
      | (refine k_draw mixed (by kernel_rfl) fun Q all hd hbf hQ => ?_; simp (maxSteps := 2000000) only [go_sem, hd, Nat.reduceAdd, Nat.reduceEqDiff, Nat.reduceLeDiff, Nat.reduceSub, ↓reduceIte, reduceIte, Nat.reduceMul, reduceCtorEq, Nat.reduceLT, Int.reduceLT, Int.reduceLE, Int.reduceEq, Int.reduceAdd, Int.reduceSub, Int.reduceNeg, Bool.not_true, Bool.not_false, beq_self_eq_true, Int.reduceBEq, Int.reduceBNe, ge_iff_le, gt_iff_lt, Int.reduceToNat, Bool.and_true, Bool.and_false, Bool.true_and, Bool.false_and])
      | (refine hQ _ ?_; clear hQ hd; (try clear hbf); clear Q all)
      | (refine k_true ?_ ?_; (· (simp (maxSteps := 2000000) only [go_sem, Nat.reduceAdd, Nat.reduceEqDiff, Nat.reduceLeDiff, Nat.reduceSub, ↓reduceIte, reduceIte, Nat.reduceMul, reduceCtorEq, Nat.reduceLT, Int.reduceLT, Int.reduceLE, Int.reduceEq, Int.reduceAdd, Int.reduceSub, Int.reduceNeg, Bool.not_true, Bool.not_false, beq_self_eq_true, Int.reduceBEq, Int.reduceBNe, ge_iff_le, gt_iff_lt, Int.reduceToNat, Bool.and_true, Bool.and_false, Bool.true_and, Bool.false_and]; done)))
      | (refine k_false ?_ ?_; (· (simp (maxSteps := 2000000) only [go_sem, Nat.reduceAdd, Nat.reduceEqDiff, Nat.reduceLeDiff, Nat.reduceSub, ↓reduceIte, reduceIte, Nat.reduceMul, reduceCtorEq, Nat.reduceLT, Int.reduceLT, Int.reduceLE, Int.reduceEq, Int.reduceAdd, Int.reduceSub, Int.reduceNeg, Bool.not_true, Bool.not_false, beq_self_eq_true, Int.reduceBEq, Int.reduceBNe, ge_iff_le, gt_iff_lt, Int.reduceToNat, Bool.and_true, Bool.and_false, Bool.true_and, Bool.false_and]; done)))
      | (rw [wrap64]; rotate_left 1; (· omega); (· omega); (try simp (maxSteps := 2000000) only [go_sem, hd, Nat.reduceAdd, Nat.reduceEqDiff, Nat.reduceLeDiff, Nat.reduceSub, ↓reduceIte, reduceIte, Nat.reduceMul, reduceCtorEq, Nat.reduceLT, Int.reduceLT, Int.reduceLE, Int.reduceEq, Int.reduceAdd, Int.reduceSub, Int.reduceNeg, Bool.not_true, Bool.not_false, beq_self_eq_true, Int.reduceBEq, Int.reduceBNe, ge_iff_le, gt_iff_lt, Int.reduceToNat, Bool.and_true, Bool.and_false, Bool.true_and, Bool.false_and]))
      | fail
    rw [if_pos ⟨hn, hl, by simp, by simp⟩]
    simp (maxSteps := 2000000) only [go_sem, hd, Nat.reduceAdd, Nat.reduceEqDiff, Nat.reduceLeDiff, Nat.reduceSub, ↓reduceIte, reduceIte, Nat.reduceMul, reduceCtorEq, Nat.reduceLT, Int.reduceLT, Int.reduceLE, Int.reduceEq, Int.reduceAdd, Int.reduceSub, Int.reduceNeg, Bool.not_true, Bool.not_false, beq_self_eq_true, Int.reduceBEq, Int.reduceBNe, ge_iff_le, gt_iff_lt, Int.reduceToNat, Bool.and_true, Bool.and_false, Bool.true_and, Bool.false_and]
    repeat' first
      | refine k_seq ?_
      | refine k_block ?_
      | refine n_sq ?_
      | refine n_bl ?_
      | refine k_skip ?_
      | refine k_exit ?_
      | refine x_sq ?_
      | refine x_hit ?_
      | refine x_miss (by decide) ?_
      | refine x_nil (Ex.of hE ?_)
      | refine t_sq ?_
      | refine t_bl ?_
      | refine t_nil (Rt.of hE ?_)
      | refine t_nil ?_
      | (refine k_region (by rfl) fun Q all hd hQ => ?_; simp (maxSteps := 2000000) only [go_sem, hd, Nat.reduceAdd, Nat.reduceEqDiff, Nat.reduceLeDiff, Nat.reduceSub, ↓reduceIte, reduceIte, Nat.reduceMul, reduceCtorEq, Nat.reduceLT, Int.reduceLT, Int.reduceLE, Int.reduceEq, Int.reduceAdd, Int.reduceSub, Int.reduceNeg, Bool.not_true, Bool.not_false, beq_self_eq_true, Int.reduceBEq, Int.reduceBNe, ge_iff_le, gt_iff_lt, Int.reduceToNat, Bool.and_true, Bool.and_false, Bool.true_and, Bool.false_and])
      | (refine k_draw mixed (by kernel_rfl) fun Q all hd hbf hQ => ?_; simp (maxSteps := 2000000) only [go_sem, hd, Nat.reduceAdd, Nat.reduceEqDiff, Nat.reduceLeDiff, Nat.reduceSub, ↓reduceIte, reduceIte, Nat.reduceMul, reduceCtorEq, Nat.reduceLT, Int.reduceLT, Int.reduceLE, Int.reduceEq, Int.reduceAdd, Int.reduceSub, Int.reduceNeg, Bool.not_true, Bool.not_false, beq_self_eq_true, Int.reduceBEq, Int.reduceBNe, ge_iff_le, gt_iff_lt, Int.reduceToNat, Bool.and_true, Bool.and_false, Bool.true_and, Bool.false_and])
      | (refine hQ _ ?_; clear hQ hd; (try clear hbf); clear Q all)
      | (refine k_true ?_ ?_; (· (simp (maxSteps := 2000000) only [go_sem, Nat.reduceAdd, Nat.reduceEqDiff, Nat.reduceLeDiff, Nat.reduceSub, ↓reduceIte, reduceIte, Nat.reduceMul, reduceCtorEq, Nat.reduceLT, Int.reduceLT, Int.reduceLE, Int.reduceEq, Int.reduceAdd, Int.reduceSub, Int.reduceNeg, Bool.not_true, Bool.not_false, beq_self_eq_true, Int.reduceBEq, Int.reduceBNe, ge_iff_le, gt_iff_lt, Int.reduceToNat, Bool.and_true, Bool.and_false, Bool.true_and, Bool.false_and]; done)))
      | (refine k_false ?_ ?_; (· (simp (maxSteps := 2000000) only [go_sem, Nat.reduceAdd, Nat.reduceEqDiff, Nat.reduceLeDiff, Nat.reduceSub, ↓reduceIte, reduceIte, Nat.reduceMul, reduceCtorEq, Nat.reduceLT, Int.reduceLT, Int.reduceLE, Int.reduceEq, Int.reduceAdd, Int.reduceSub, Int.reduceNeg, Bool.not_true, Bool.not_false, beq_self_eq_true, Int.reduceBEq, Int.reduceBNe, ge_iff_le, gt_iff_lt, Int.reduceToNat, Bool.and_true, Bool.and_false, Bool.true_and, Bool.false_and]; done)))
      | (rw [wrap64]; rotate_left 1; (· omega); (· omega); (try simp (maxSteps := 2000000) only [go_sem, hd, Nat.reduceAdd, Nat.reduceEqDiff, Nat.reduceLeDiff, Nat.reduceSub, ↓reduceIte, reduceIte, Nat.reduceMul, reduceCtorEq, Nat.reduceLT, Int.reduceLT, Int.reduceLE, Int.reduceEq, Int.reduceAdd, Int.reduceSub, Int.reduceNeg, Bool.not_true, Bool.not_false, beq_self_eq_true, Int.reduceBEq, Int.reduceBNe, ge_iff_le, gt_iff_lt, Int.reduceToNat, Bool.and_true, Bool.and_false, Bool.true_and, Bool.false_and]))
      | fail
    refine k_ret ?_
    repeat refine t_sq ?_
    refine t_nil ?_
    refine (hΦ _ _ (.c (.vs 0 _)) ?_ ⟨rfl, ?_⟩).1
    · simp (maxSteps := 2000000) only [go_sem, resT, resOne, Nat.reduceAdd, Nat.reduceEqDiff, Nat.reduceLeDiff, Nat.reduceSub, ↓reduceIte, reduceIte, Nat.reduceMul, reduceCtorEq, Nat.reduceLT, Int.reduceLT, Int.reduceLE, Int.reduceEq, Int.reduceAdd, Int.reduceSub, Int.reduceNeg, Bool.not_true, Bool.not_false, beq_self_eq_true, Int.reduceBEq, Int.reduceBNe, ge_iff_le, gt_iff_lt, Int.reduceToNat, Bool.and_true, Bool.and_false, Bool.true_and, Bool.false_and]; rfl
    · simp (maxSteps := 2000000) only [go_sem, Nat.reduceAdd, Nat.reduceEqDiff, Nat.reduceLeDiff, Nat.reduceSub, ↓reduceIte, reduceIte, Nat.reduceMul, reduceCtorEq, Nat.reduceLT, Int.reduceLT, Int.reduceLE, Int.reduceEq, Int.reduceAdd, Int.reduceSub, Int.reduceNeg, Bool.not_true, Bool.not_false, beq_self_eq_true, Int.reduceBEq, Int.reduceBNe, ge_iff_le, gt_iff_lt, Int.reduceToNat, Bool.and_true, Bool.and_false, Bool.true_and, Bool.false_and]; try rfl
theorem cloneS_pure (es : List (List Dat)) (hl : ∀ e ∈ es, e.length = 1) (hn : es.length * 16 ≤ 140737488355328) : PureC Kx 43 [tL es] (tL es) := pure_of_row (by simp [closedTs, closedT, closedC]) (cloneS_own es hl hn)
theorem cloneV_own (es : List (List Dat)) (hl : ∀ e ∈ es, e.length = 3) (hn : es.length * 32 ≤ 140737488355328) : FunC Kx 44 [tL es] [] fun t H' => t = .c (.vs 0 es.length) ∧ H' = [.row 81 es false] := by
  refine own_of_can Try.func44 rfl (nt := 8) rfl rfl (by decide) (by simp) fun Φ hΦ => ?_
  cases es with
  | nil =>
    repeat' first
      | refine k_seq ?_
      | refine k_block ?_
      | refine n_sq ?_
      | refine n_bl ?_
      | refine k_skip ?_
      | refine k_exit ?_
      | refine x_sq ?_
      | refine x_hit ?_
      | refine x_miss (by decide) ?_
      | refine x_nil (Ex.of hE ?_)
      | refine t_sq ?_
      | refine t_bl ?_
      | refine t_nil (Rt.of hE ?_)
      | refine t_nil ?_
      | (refine k_region (by rfl) fun Q all hd hQ => ?_; simp (maxSteps := 2000000) only [go_sem, hd, hn, hl, Nat.reduceAdd, Nat.reduceEqDiff, Nat.reduceLeDiff, Nat.reduceSub, ↓reduceIte, reduceIte, Nat.reduceMul, reduceCtorEq, Nat.reduceLT, Int.reduceLT, Int.reduceLE, Int.reduceEq, Int.reduceAdd, Int.reduceSub, Int.reduceNeg, Bool.not_true, Bool.not_false, beq_self_eq_true, Int.reduceBEq, Int.reduceBNe, ge_iff_le, gt_iff_lt, Int.reduceToNat, Bool.and_true, Bool.and_false, Bool.true_and, Bool.false_and])
      | (refine k_draw mixed (by kernel_rfl) fun Q all hd hbf hQ => ?_; simp (maxSteps := 2000000) only [go_sem, hd, hn, hl, Nat.reduceAdd, Nat.reduceEqDiff, Nat.reduceLeDiff, Nat.reduceSub, ↓reduceIte, reduceIte, Nat.reduceMul, reduceCtorEq, Nat.reduceLT, Int.reduceLT, Int.reduceLE, Int.reduceEq, Int.reduceAdd, Int.reduceSub, Int.reduceNeg, Bool.not_true, Bool.not_false, beq_self_eq_true, Int.reduceBEq, Int.reduceBNe, ge_iff_le, gt_iff_lt, Int.reduceToNat, Bool.and_true, Bool.and_false, Bool.true_and, Bool.false_and])
      | (refine hQ _ ?_; clear hQ hd; (try clear hbf); clear Q all)
      | (refine k_true ?_ ?_; (· (simp (maxSteps := 2000000) only [go_sem, hn, hl, Nat.reduceAdd, Nat.reduceEqDiff, Nat.reduceLeDiff, Nat.reduceSub, ↓reduceIte, reduceIte, Nat.reduceMul, reduceCtorEq, Nat.reduceLT, Int.reduceLT, Int.reduceLE, Int.reduceEq, Int.reduceAdd, Int.reduceSub, Int.reduceNeg, Bool.not_true, Bool.not_false, beq_self_eq_true, Int.reduceBEq, Int.reduceBNe, ge_iff_le, gt_iff_lt, Int.reduceToNat, Bool.and_true, Bool.and_false, Bool.true_and, Bool.false_and]; done)))
      | (refine k_false ?_ ?_; (· (simp (maxSteps := 2000000) only [go_sem, hn, hl, Nat.reduceAdd, Nat.reduceEqDiff, Nat.reduceLeDiff, Nat.reduceSub, ↓reduceIte, reduceIte, Nat.reduceMul, reduceCtorEq, Nat.reduceLT, Int.reduceLT, Int.reduceLE, Int.reduceEq, Int.reduceAdd, Int.reduceSub, Int.reduceNeg, Bool.not_true, Bool.not_false, beq_self_eq_true, Int.reduceBEq, Int.reduceBNe, ge_iff_le, gt_iff_lt, Int.reduceToNat, Bool.and_true, Bool.and_false, Bool.true_and, Bool.false_and]; done)))
      | (rw [wrap64]; rotate_left 1; (· omega); (· omega); (try simp (maxSteps := 2000000) only [go_sem, hd, hn, hl, Nat.reduceAdd, Nat.reduceEqDiff, Nat.reduceLeDiff, Nat.reduceSub, ↓reduceIte, reduceIte, Nat.reduceMul, reduceCtorEq, Nat.reduceLT, Int.reduceLT, Int.reduceLE, Int.reduceEq, Int.reduceAdd, Int.reduceSub, Int.reduceNeg, Bool.not_true, Bool.not_false, beq_self_eq_true, Int.reduceBEq, Int.reduceBNe, ge_iff_le, gt_iff_lt, Int.reduceToNat, Bool.and_true, Bool.and_false, Bool.true_and, Bool.false_and]))
      | fail
    intro b
    cases b
    · repeat' first
        | refine k_seq ?_
        | refine k_block ?_
        | refine n_sq ?_
        | refine n_bl ?_
        | refine k_skip ?_
        | refine k_exit ?_
        | refine x_sq ?_
        | refine x_hit ?_
        | refine x_miss (by decide) ?_
        | refine x_nil (Ex.of hE ?_)
        | refine t_sq ?_
        | refine t_bl ?_
        | refine t_nil (Rt.of hE ?_)
        | refine t_nil ?_
        | (refine k_region (by rfl) fun Q all hd hQ => ?_; simp (maxSteps := 2000000) only [go_sem, hd, Nat.reduceAdd, Nat.reduceEqDiff, Nat.reduceLeDiff, Nat.reduceSub, ↓reduceIte, reduceIte, Nat.reduceMul, reduceCtorEq, Nat.reduceLT, Int.reduceLT, Int.reduceLE, Int.reduceEq, Int.reduceAdd, Int.reduceSub, Int.reduceNeg, Bool.not_true, Bool.not_false, beq_self_eq_true, Int.reduceBEq, Int.reduceBNe, ge_iff_le, gt_iff_lt, Int.reduceToNat, Bool.and_true, Bool.and_false, Bool.true_and, Bool.false_and])
        | (refine k_draw mixed (by kernel_rfl) fun Q all hd hbf hQ => ?_; simp (maxSteps := 2000000) only [go_sem, hd, Nat.reduceAdd, Nat.reduceEqDiff, Nat.reduceLeDiff, Nat.reduceSub, ↓reduceIte, reduceIte, Nat.reduceMul, reduceCtorEq, Nat.reduceLT, Int.reduceLT, Int.reduceLE, Int.reduceEq, Int.reduceAdd, Int.reduceSub, Int.reduceNeg, Bool.not_true, Bool.not_false, beq_self_eq_true, Int.reduceBEq, Int.reduceBNe, ge_iff_le, gt_iff_lt, Int.reduceToNat, Bool.and_true, Bool.and_false, Bool.true_and, Bool.false_and])
        | (refine hQ _ ?_; clear hQ hd; (try clear hbf); clear Q all)
        | (refine k_true ?_ ?_; (· (simp (maxSteps := 2000000) only [go_sem, Nat.reduceAdd, Nat.reduceEqDiff, Nat.reduceLeDiff, Nat.reduceSub, ↓reduceIte, reduceIte, Nat.reduceMul, reduceCtorEq, Nat.reduceLT, Int.reduceLT, Int.reduceLE, Int.reduceEq, Int.reduceAdd, Int.reduceSub, Int.reduceNeg, Bool.not_true, Bool.not_false, beq_self_eq_true, Int.reduceBEq, Int.reduceBNe, ge_iff_le, gt_iff_lt, Int.reduceToNat, Bool.and_true, Bool.and_false, Bool.true_and, Bool.false_and]; done)))
        | (refine k_false ?_ ?_; (· (simp (maxSteps := 2000000) only [go_sem, Nat.reduceAdd, Nat.reduceEqDiff, Nat.reduceLeDiff, Nat.reduceSub, ↓reduceIte, reduceIte, Nat.reduceMul, reduceCtorEq, Nat.reduceLT, Int.reduceLT, Int.reduceLE, Int.reduceEq, Int.reduceAdd, Int.reduceSub, Int.reduceNeg, Bool.not_true, Bool.not_false, beq_self_eq_true, Int.reduceBEq, Int.reduceBNe, ge_iff_le, gt_iff_lt, Int.reduceToNat, Bool.and_true, Bool.and_false, Bool.true_and, Bool.false_and]; done)))
        | (rw [wrap64]; rotate_left 1; (· omega); (· omega); (try simp (maxSteps := 2000000) only [go_sem, hd, Nat.reduceAdd, Nat.reduceEqDiff, Nat.reduceLeDiff, Nat.reduceSub, ↓reduceIte, reduceIte, Nat.reduceMul, reduceCtorEq, Nat.reduceLT, Int.reduceLT, Int.reduceLE, Int.reduceEq, Int.reduceAdd, Int.reduceSub, Int.reduceNeg, Bool.not_true, Bool.not_false, beq_self_eq_true, Int.reduceBEq, Int.reduceBNe, ge_iff_le, gt_iff_lt, Int.reduceToNat, Bool.and_true, Bool.and_false, Bool.true_and, Bool.false_and]))
        | fail
      rw [if_pos (by simp)]
      simp (maxSteps := 2000000) only [go_sem, hd, Nat.reduceAdd, Nat.reduceEqDiff, Nat.reduceLeDiff, Nat.reduceSub, ↓reduceIte, reduceIte, Nat.reduceMul, reduceCtorEq, Nat.reduceLT, Int.reduceLT, Int.reduceLE, Int.reduceEq, Int.reduceAdd, Int.reduceSub, Int.reduceNeg, Bool.not_true, Bool.not_false, beq_self_eq_true, Int.reduceBEq, Int.reduceBNe, ge_iff_le, gt_iff_lt, Int.reduceToNat, Bool.and_true, Bool.and_false, Bool.true_and, Bool.false_and]
      repeat' first
        | refine k_seq ?_
        | refine k_block ?_
        | refine n_sq ?_
        | refine n_bl ?_
        | refine k_skip ?_
        | refine k_exit ?_
        | refine x_sq ?_
        | refine x_hit ?_
        | refine x_miss (by decide) ?_
        | refine x_nil (Ex.of hE ?_)
        | refine t_sq ?_
        | refine t_bl ?_
        | refine t_nil (Rt.of hE ?_)
        | refine t_nil ?_
        | (refine k_region (by rfl) fun Q all hd hQ => ?_; simp (maxSteps := 2000000) only [go_sem, hd, Nat.reduceAdd, Nat.reduceEqDiff, Nat.reduceLeDiff, Nat.reduceSub, ↓reduceIte, reduceIte, Nat.reduceMul, reduceCtorEq, Nat.reduceLT, Int.reduceLT, Int.reduceLE, Int.reduceEq, Int.reduceAdd, Int.reduceSub, Int.reduceNeg, Bool.not_true, Bool.not_false, beq_self_eq_true, Int.reduceBEq, Int.reduceBNe, ge_iff_le, gt_iff_lt, Int.reduceToNat, Bool.and_true, Bool.and_false, Bool.true_and, Bool.false_and])
        | (refine k_draw mixed (by kernel_rfl) fun Q all hd hbf hQ => ?_; simp (maxSteps := 2000000) only [go_sem, hd, Nat.reduceAdd, Nat.reduceEqDiff, Nat.reduceLeDiff, Nat.reduceSub, ↓reduceIte, reduceIte, Nat.reduceMul, reduceCtorEq, Nat.reduceLT, Int.reduceLT, Int.reduceLE, Int.reduceEq, Int.reduceAdd, Int.reduceSub, Int.reduceNeg, Bool.not_true, Bool.not_false, beq_self_eq_true, Int.reduceBEq, Int.reduceBNe, ge_iff_le, gt_iff_lt, Int.reduceToNat, Bool.and_true, Bool.and_false, Bool.true_and, Bool.false_and])
        | (refine hQ _ ?_; clear hQ hd; (try clear hbf); clear Q all)
        | (refine k_true ?_ ?_; (· (simp (maxSteps := 2000000) only [go_sem, Nat.reduceAdd, Nat.reduceEqDiff, Nat.reduceLeDiff, Nat.reduceSub, ↓reduceIte, reduceIte, Nat.reduceMul, reduceCtorEq, Nat.reduceLT, Int.reduceLT, Int.reduceLE, Int.reduceEq, Int.reduceAdd, Int.reduceSub, Int.reduceNeg, Bool.not_true, Bool.not_false, beq_self_eq_true, Int.reduceBEq, Int.reduceBNe, ge_iff_le, gt_iff_lt, Int.reduceToNat, Bool.and_true, Bool.and_false, Bool.true_and, Bool.false_and]; done)))
        | (refine k_false ?_ ?_; (· (simp (maxSteps := 2000000) only [go_sem, Nat.reduceAdd, Nat.reduceEqDiff, Nat.reduceLeDiff, Nat.reduceSub, ↓reduceIte, reduceIte, Nat.reduceMul, reduceCtorEq, Nat.reduceLT, Int.reduceLT, Int.reduceLE, Int.reduceEq, Int.reduceAdd, Int.reduceSub, Int.reduceNeg, Bool.not_true, Bool.not_false, beq_self_eq_true, Int.reduceBEq, Int.reduceBNe, ge_iff_le, gt_iff_lt, Int.reduceToNat, Bool.and_true, Bool.and_false, Bool.true_and, Bool.false_and]; done)))
        | (rw [wrap64]; rotate_left 1; (· omega); (· omega); (try simp (maxSteps := 2000000) only [go_sem, hd, Nat.reduceAdd, Nat.reduceEqDiff, Nat.reduceLeDiff, Nat.reduceSub, ↓reduceIte, reduceIte, Nat.reduceMul, reduceCtorEq, Nat.reduceLT, Int.reduceLT, Int.reduceLE, Int.reduceEq, Int.reduceAdd, Int.reduceSub, Int.reduceNeg, Bool.not_true, Bool.not_false, beq_self_eq_true, Int.reduceBEq, Int.reduceBNe, ge_iff_le, gt_iff_lt, Int.reduceToNat, Bool.and_true, Bool.and_false, Bool.true_and, Bool.false_and]))
        | fail
      refine k_ret ?_
      repeat refine t_sq ?_
      refine t_nil ?_
      refine (hΦ _ _ (.c (.vs 0 _)) ?_ ⟨rfl, ?_⟩).1
      · simp (maxSteps := 2000000) only [go_sem, resT, resOne, Nat.reduceAdd, Nat.reduceEqDiff, Nat.reduceLeDiff, Nat.reduceSub, ↓reduceIte, reduceIte, Nat.reduceMul, reduceCtorEq, Nat.reduceLT, Int.reduceLT, Int.reduceLE, Int.reduceEq, Int.reduceAdd, Int.reduceSub, Int.reduceNeg, Bool.not_true, Bool.not_false, beq_self_eq_true, Int.reduceBEq, Int.reduceBNe, ge_iff_le, gt_iff_lt, Int.reduceToNat, Bool.and_true, Bool.and_false, Bool.true_and, Bool.false_and]; rfl
      · simp (maxSteps := 2000000) only [go_sem, Nat.reduceAdd, Nat.reduceEqDiff, Nat.reduceLeDiff, Nat.reduceSub, ↓reduceIte, reduceIte, Nat.reduceMul, reduceCtorEq, Nat.reduceLT, Int.reduceLT, Int.reduceLE, Int.reduceEq, Int.reduceAdd, Int.reduceSub, Int.reduceNeg, Bool.not_true, Bool.not_false, beq_self_eq_true, Int.reduceBEq, Int.reduceBNe, ge_iff_le, gt_iff_lt, Int.reduceToNat, Bool.and_true, Bool.and_false, Bool.true_and, Bool.false_and]; try rfl
    · repeat' first
        | refine k_seq ?_
        | refine k_block ?_
        | refine n_sq ?_
        | refine n_bl ?_
        | refine k_skip ?_
        | refine k_exit ?_
        | refine x_sq ?_
        | refine x_hit ?_
        | refine x_miss (by decide) ?_
        | refine x_nil (Ex.of hE ?_)
        | refine t_sq ?_
        | refine t_bl ?_
        | refine t_nil (Rt.of hE ?_)
        | refine t_nil ?_
        | (refine k_region (by rfl) fun Q all hd hQ => ?_; simp (maxSteps := 2000000) only [go_sem, hd, hn, hl, Nat.reduceAdd, Nat.reduceEqDiff, Nat.reduceLeDiff, Nat.reduceSub, ↓reduceIte, reduceIte, Nat.reduceMul, reduceCtorEq, Nat.reduceLT, Int.reduceLT, Int.reduceLE, Int.reduceEq, Int.reduceAdd, Int.reduceSub, Int.reduceNeg, Bool.not_true, Bool.not_false, beq_self_eq_true, Int.reduceBEq, Int.reduceBNe, ge_iff_le, gt_iff_lt, Int.reduceToNat, Bool.and_true, Bool.and_false, Bool.true_and, Bool.false_and])
        | (refine k_draw mixed (by kernel_rfl) fun Q all hd hbf hQ => ?_; simp (maxSteps := 2000000) only [go_sem, hd, hn, hl, Nat.reduceAdd, Nat.reduceEqDiff, Nat.reduceLeDiff, Nat.reduceSub, ↓reduceIte, reduceIte, Nat.reduceMul, reduceCtorEq, Nat.reduceLT, Int.reduceLT, Int.reduceLE, Int.reduceEq, Int.reduceAdd, Int.reduceSub, Int.reduceNeg, Bool.not_true, Bool.not_false, beq_self_eq_true, Int.reduceBEq, Int.reduceBNe, ge_iff_le, gt_iff_lt, Int.reduceToNat, Bool.and_true, Bool.and_false, Bool.true_and, Bool.false_and])
        | (refine hQ _ ?_; clear hQ hd; (try clear hbf); clear Q all)
        | (refine k_true ?_ ?_; (· (simp (maxSteps := 2000000) only [go_sem, hn, hl, Nat.reduceAdd, Nat.reduceEqDiff, Nat.reduceLeDiff, Nat.reduceSub, ↓reduceIte, reduceIte, Nat.reduceMul, reduceCtorEq, Nat.reduceLT, Int.reduceLT, Int.reduceLE, Int.reduceEq, Int.reduceAdd, Int.reduceSub, Int.reduceNeg, Bool.not_true, Bool.not_false, beq_self_eq_true, Int.reduceBEq, Int.reduceBNe, ge_iff_le, gt_iff_lt, Int.reduceToNat, Bool.and_true, Bool.and_false, Bool.true_and, Bool.false_and]; done)))
        | (refine k_false ?_ ?_; (· (simp (maxSteps := 2000000) only [go_sem, hn, hl, Nat.reduceAdd, Nat.reduceEqDiff, Nat.reduceLeDiff, Nat.reduceSub, ↓reduceIte, reduceIte, Nat.reduceMul, reduceCtorEq, Nat.reduceLT, Int.reduceLT, Int.reduceLE, Int.reduceEq, Int.reduceAdd, Int.reduceSub, Int.reduceNeg, Bool.not_true, Bool.not_false, beq_self_eq_true, Int.reduceBEq, Int.reduceBNe, ge_iff_le, gt_iff_lt, Int.reduceToNat, Bool.and_true, Bool.and_false, Bool.true_and, Bool.false_and]; done)))
        | (rw [wrap64]; rotate_left 1; (· omega); (· omega); (try simp (maxSteps := 2000000) only [go_sem, hd, hn, hl, Nat.reduceAdd, Nat.reduceEqDiff, Nat.reduceLeDiff, Nat.reduceSub, ↓reduceIte, reduceIte, Nat.reduceMul, reduceCtorEq, Nat.reduceLT, Int.reduceLT, Int.reduceLE, Int.reduceEq, Int.reduceAdd, Int.reduceSub, Int.reduceNeg, Bool.not_true, Bool.not_false, beq_self_eq_true, Int.reduceBEq, Int.reduceBNe, ge_iff_le, gt_iff_lt, Int.reduceToNat, Bool.and_true, Bool.and_false, Bool.true_and, Bool.false_and]))
        | fail
      refine can_weak (weak_own 2 81 (by simp (maxSteps := 2000000) only [go_sem, Nat.reduceAdd, Nat.reduceEqDiff, Nat.reduceLeDiff, Nat.reduceSub, ↓reduceIte, reduceIte, Nat.reduceMul, reduceCtorEq, Nat.reduceLT, Int.reduceLT, Int.reduceLE, Int.reduceEq, Int.reduceAdd, Int.reduceSub, Int.reduceNeg, Bool.not_true, Bool.not_false, beq_self_eq_true, Int.reduceBEq, Int.reduceBNe, ge_iff_le, gt_iff_lt, Int.reduceToNat, Bool.and_true, Bool.and_false, Bool.true_and, Bool.false_and])) ?_
      refine k_ret ?_
      repeat refine t_sq ?_
      refine t_nil ?_
      refine (hΦ _ _ (.c (.vs 0 _)) ?_ ⟨rfl, ?_⟩).1
      · simp (maxSteps := 2000000) only [go_sem, resT, resOne, Nat.reduceAdd, Nat.reduceEqDiff, Nat.reduceLeDiff, Nat.reduceSub, ↓reduceIte, reduceIte, Nat.reduceMul, reduceCtorEq, Nat.reduceLT, Int.reduceLT, Int.reduceLE, Int.reduceEq, Int.reduceAdd, Int.reduceSub, Int.reduceNeg, Bool.not_true, Bool.not_false, beq_self_eq_true, Int.reduceBEq, Int.reduceBNe, ge_iff_le, gt_iff_lt, Int.reduceToNat, Bool.and_true, Bool.and_false, Bool.true_and, Bool.false_and]; rfl
      · simp (maxSteps := 2000000) only [go_sem, Nat.reduceAdd, Nat.reduceEqDiff, Nat.reduceLeDiff, Nat.reduceSub, ↓reduceIte, reduceIte, Nat.reduceMul, reduceCtorEq, Nat.reduceLT, Int.reduceLT, Int.reduceLE, Int.reduceEq, Int.reduceAdd, Int.reduceSub, Int.reduceNeg, Bool.not_true, Bool.not_false, beq_self_eq_true, Int.reduceBEq, Int.reduceBNe, ge_iff_le, gt_iff_lt, Int.reduceToNat, Bool.and_true, Bool.and_false, Bool.true_and, Bool.false_and]; try rfl
  | cons e es =>
    repeat' first
      | refine k_seq ?_
      | refine k_block ?_
      | refine n_sq ?_
      | refine n_bl ?_
      | refine k_skip ?_
      | refine k_exit ?_
      | refine x_sq ?_
      | refine x_hit ?_
      | refine x_miss (by decide) ?_
      | refine x_nil (Ex.of hE ?_)
      | refine t_sq ?_
      | refine t_bl ?_
      | refine t_nil (Rt.of hE ?_)
      | refine t_nil ?_
      | (refine k_region (by rfl) fun Q all hd hQ => ?_; simp (maxSteps := 2000000) only [go_sem, hd, Nat.reduceAdd, Nat.reduceEqDiff, Nat.reduceLeDiff, Nat.reduceSub, ↓reduceIte, reduceIte, Nat.reduceMul, reduceCtorEq, Nat.reduceLT, Int.reduceLT, Int.reduceLE, Int.reduceEq, Int.reduceAdd, Int.reduceSub, Int.reduceNeg, Bool.not_true, Bool.not_false, beq_self_eq_true, Int.reduceBEq, Int.reduceBNe, ge_iff_le, gt_iff_lt, Int.reduceToNat, Bool.and_true, Bool.and_false, Bool.true_and, Bool.false_and])
      | (refine k_draw mixed (by kernel_rfl) fun Q all hd hbf hQ => ?_; simp (maxSteps := 2000000) only [go_sem, hd, Nat.reduceAdd, Nat.reduceEqDiff, Nat.reduceLeDiff, Nat.reduceSub, ↓reduceIte, reduceIte, Nat.reduceMul, reduceCtorEq, Nat.reduceLT, Int.reduceLT, Int.reduceLE, Int.reduceEq, Int.reduceAdd, Int.reduceSub, Int.reduceNeg, Bool.not_true, Bool.not_false, beq_self_eq_true, Int.reduceBEq, Int.reduceBNe, ge_iff_le, gt_iff_lt, Int.reduceToNat, Bool.and_true, Bool.and_false, Bool.true_and, Bool.false_and])
      | (refine hQ _ ?_; clear hQ hd; (try clear hbf); clear Q all)
      | (refine k_true ?_ ?_; (· (simp (maxSteps := 2000000) only [go_sem, Nat.reduceAdd, Nat.reduceEqDiff, Nat.reduceLeDiff, Nat.reduceSub, ↓reduceIte, reduceIte, Nat.reduceMul, reduceCtorEq, Nat.reduceLT, Int.reduceLT, Int.reduceLE, Int.reduceEq, Int.reduceAdd, Int.reduceSub, Int.reduceNeg, Bool.not_true, Bool.not_false, beq_self_eq_true, Int.reduceBEq, Int.reduceBNe, ge_iff_le, gt_iff_lt, Int.reduceToNat, Bool.and_true, Bool.and_false, Bool.true_and, Bool.false_and]; done)))
      | (refine k_false ?_ ?_; (· (simp (maxSteps := 2000000) only [go_sem, Nat.reduceAdd, Nat.reduceEqDiff, Nat.reduceLeDiff, Nat.reduceSub, ↓reduceIte, reduceIte, Nat.reduceMul, reduceCtorEq, Nat.reduceLT, Int.reduceLT, Int.reduceLE, Int.reduceEq, Int.reduceAdd, Int.reduceSub, Int.reduceNeg, Bool.not_true, Bool.not_false, beq_self_eq_true, Int.reduceBEq, Int.reduceBNe, ge_iff_le, gt_iff_lt, Int.reduceToNat, Bool.and_true, Bool.and_false, Bool.true_and, Bool.false_and]; done)))
      | (rw [wrap64]; rotate_left 1; (· omega); (· omega); (try simp (maxSteps := 2000000) only [go_sem, hd, Nat.reduceAdd, Nat.reduceEqDiff, Nat.reduceLeDiff, Nat.reduceSub, ↓reduceIte, reduceIte, Nat.reduceMul, reduceCtorEq, Nat.reduceLT, Int.reduceLT, Int.reduceLE, Int.reduceEq, Int.reduceAdd, Int.reduceSub, Int.reduceNeg, Bool.not_true, Bool.not_false, beq_self_eq_true, Int.reduceBEq, Int.reduceBNe, ge_iff_le, gt_iff_lt, Int.reduceToNat, Bool.and_true, Bool.and_false, Bool.true_and, Bool.false_and]))
      | fail
    rw [if_pos ⟨hn, hl, by simp, by simp⟩]
    simp (maxSteps := 2000000) only [go_sem, hd, Nat.reduceAdd, Nat.reduceEqDiff, Nat.reduceLeDiff, Nat.reduceSub, ↓reduceIte, reduceIte, Nat.reduceMul, reduceCtorEq, Nat.reduceLT, Int.reduceLT, Int.reduceLE, Int.reduceEq, Int.reduceAdd, Int.reduceSub, Int.reduceNeg, Bool.not_true, Bool.not_false, beq_self_eq_true, Int.reduceBEq, Int.reduceBNe, ge_iff_le, gt_iff_lt, Int.reduceToNat, Bool.and_true, Bool.and_false, Bool.true_and, Bool.false_and]
    repeat' first
      | refine k_seq ?_
      | refine k_block ?_
      | refine n_sq ?_
      | refine n_bl ?_
      | refine k_skip ?_
      | refine k_exit ?_
      | refine x_sq ?_
      | refine x_hit ?_
      | refine x_miss (by decide) ?_
      | refine x_nil (Ex.of hE ?_)
      | refine t_sq ?_
      | refine t_bl ?_
      | refine t_nil (Rt.of hE ?_)
      | refine t_nil ?_
      | (refine k_region (by rfl) fun Q all hd hQ => ?_; simp (maxSteps := 2000000) only [go_sem, hd, Nat.reduceAdd, Nat.reduceEqDiff, Nat.reduceLeDiff, Nat.reduceSub, ↓reduceIte, reduceIte, Nat.reduceMul, reduceCtorEq, Nat.reduceLT, Int.reduceLT, Int.reduceLE, Int.reduceEq, Int.reduceAdd, Int.reduceSub, Int.reduceNeg, Bool.not_true, Bool.not_false, beq_self_eq_true, Int.reduceBEq, Int.reduceBNe, ge_iff_le, gt_iff_lt, Int.reduceToNat, Bool.and_true, Bool.and_false, Bool.true_and, Bool.false_and])
      | (refine k_draw mixed (by kernel_rfl) fun Q all hd hbf hQ => ?_; simp (maxSteps := 2000000) only [go_sem, hd, Nat.reduceAdd, Nat.reduceEqDiff, Nat.reduceLeDiff, Nat.reduceSub, ↓reduceIte, reduceIte, Nat.reduceMul, reduceCtorEq, Nat.reduceLT, Int.reduceLT, Int.reduceLE, Int.reduceEq, Int.reduceAdd, Int.reduceSub, Int.reduceNeg, Bool.not_true, Bool.not_false, beq_self_eq_true, Int.reduceBEq, Int.reduceBNe, ge_iff_le, gt_iff_lt, Int.reduceToNat, Bool.and_true, Bool.and_false, Bool.true_and, Bool.false_and])
      | (refine hQ _ ?_; clear hQ hd; (try clear hbf); clear Q all)
      | (refine k_true ?_ ?_; (· (simp (maxSteps := 2000000) only [go_sem, Nat.reduceAdd, Nat.reduceEqDiff, Nat.reduceLeDiff, Nat.reduceSub, ↓reduceIte, reduceIte, Nat.reduceMul, reduceCtorEq, Nat.reduceLT, Int.reduceLT, Int.reduceLE, Int.reduceEq, Int.reduceAdd, Int.reduceSub, Int.reduceNeg, Bool.not_true, Bool.not_false, beq_self_eq_true, Int.reduceBEq, Int.reduceBNe, ge_iff_le, gt_iff_lt, Int.reduceToNat, Bool.and_true, Bool.and_false, Bool.true_and, Bool.false_and]; done)))
      | (refine k_false ?_ ?_; (· (simp (maxSteps := 2000000) only [go_sem, Nat.reduceAdd, Nat.reduceEqDiff, Nat.reduceLeDiff, Nat.reduceSub, ↓reduceIte, reduceIte, Nat.reduceMul, reduceCtorEq, Nat.reduceLT, Int.reduceLT, Int.reduceLE, Int.reduceEq, Int.reduceAdd, Int.reduceSub, Int.reduceNeg, Bool.not_true, Bool.not_false, beq_self_eq_true, Int.reduceBEq, Int.reduceBNe, ge_iff_le, gt_iff_lt, Int.reduceToNat, Bool.and_true, Bool.and_false, Bool.true_and, Bool.false_and]; done)))
      | (rw [wrap64]; rotate_left 1; (· omega); (· omega); (try simp (maxSteps := 2000000) only [go_sem, hd, Nat.reduceAdd, Nat.reduceEqDiff, Nat.reduceLeDiff, Nat.reduceSub, ↓reduceIte, reduceIte, Nat.reduceMul, reduceCtorEq, Nat.reduceLT, Int.reduceLT, Int.reduceLE, Int.reduceEq, Int.reduceAdd, Int.reduceSub, Int.reduceNeg, Bool.not_true, Bool.not_false, beq_self_eq_true, Int.reduceBEq, Int.reduceBNe, ge_iff_le, gt_iff_lt, Int.reduceToNat, Bool.and_true, Bool.and_false, Bool.true_and, Bool.false_and]))
      | fail
    refine k_ret ?_
    repeat refine t_sq ?_
    refine t_nil ?_
    refine (hΦ _ _ (.c (.vs 0 _)) ?_ ⟨rfl, ?_⟩).1
    · simp (maxSteps := 2000000) only [go_sem, resT, resOne, Nat.reduceAdd, Nat.reduceEqDiff, Nat.reduceLeDiff, Nat.reduceSub, ↓reduceIte, reduceIte, Nat.reduceMul, reduceCtorEq, Nat.reduceLT, Int.reduceLT, Int.reduceLE, Int.reduceEq, Int.reduceAdd, Int.reduceSub, Int.reduceNeg, Bool.not_true, Bool.not_false, beq_self_eq_true, Int.reduceBEq, Int.reduceBNe, ge_iff_le, gt_iff_lt, Int.reduceToNat, Bool.and_true, Bool.and_false, Bool.true_and, Bool.false_and]; rfl
    · simp (maxSteps := 2000000) only [go_sem, Nat.reduceAdd, Nat.reduceEqDiff, Nat.reduceLeDiff, Nat.reduceSub, ↓reduceIte, reduceIte, Nat.reduceMul, reduceCtorEq, Nat.reduceLT, Int.reduceLT, Int.reduceLE, Int.reduceEq, Int.reduceAdd, Int.reduceSub, Int.reduceNeg, Bool.not_true, Bool.not_false, beq_self_eq_true, Int.reduceBEq, Int.reduceBNe, ge_iff_le, gt_iff_lt, Int.reduceToNat, Bool.and_true, Bool.and_false, Bool.true_and, Bool.false_and]; try rfl
theorem cloneV_pure (es : List (List Dat)) (hl : ∀ e ∈ es, e.length = 3) (hn : es.length * 32 ≤ 140737488355328) : PureC Kx 44 [tL es] (tL es) := pure_of_row (by simp [closedTs, closedT, closedC]) (cloneV_own es hl hn)
theorem cloneP_own (es : List (List Dat)) (hl : ∀ e ∈ es, e.length = 7) (hn : es.length * 104 ≤ 140737488355328) : FunC Kx 47 [tL es] [] fun t H' => t = .c (.vs 0 es.length) ∧ H' = [.row 57 es false] := by
  refine own_of_can Try.func47 rfl (nt := 8) rfl rfl (by decide) (by simp) fun Φ hΦ => ?_
  cases es with
  | nil =>
    repeat' first
      | refine k_seq ?_
      | refine k_block ?_
      | refine n_sq ?_
      | refine n_bl ?_
      | refine k_skip ?_
      | refine k_exit ?_
      | refine x_sq ?_
      | refine x_hit ?_
      | refine x_miss (by decide) ?_
      | refine x_nil (Ex.of hE ?_)
      | refine t_sq ?_
      | refine t_bl ?_
      | refine t_nil (Rt.of hE ?_)
      | refine t_nil ?_
      | (refine k_region (by rfl) fun Q all hd hQ => ?_; simp (maxSteps := 2000000) only [go_sem, hd, hn, hl, Nat.reduceAdd, Nat.reduceEqDiff, Nat.reduceLeDiff, Nat.reduceSub, ↓reduceIte, reduceIte, Nat.reduceMul, reduceCtorEq, Nat.reduceLT, Int.reduceLT, Int.reduceLE, Int.reduceEq, Int.reduceAdd, Int.reduceSub, Int.reduceNeg, Bool.not_true, Bool.not_false, beq_self_eq_true, Int.reduceBEq, Int.reduceBNe, ge_iff_le, gt_iff_lt, Int.reduceToNat, Bool.and_true, Bool.and_false, Bool.true_and, Bool.false_and])
      | (refine k_draw mixed (by kernel_rfl) fun Q all hd hbf hQ => ?_; simp (maxSteps := 2000000) only [go_sem, hd, hn, hl, Nat.reduceAdd, Nat.reduceEqDiff, Nat.reduceLeDiff, Nat.reduceSub, ↓reduceIte, reduceIte, Nat.reduceMul, reduceCtorEq, Nat.reduceLT, Int.reduceLT, Int.reduceLE, Int.reduceEq, Int.reduceAdd, Int.reduceSub, Int.reduceNeg, Bool.not_true, Bool.not_false, beq_self_eq_true, Int.reduceBEq, Int.reduceBNe, ge_iff_le, gt_iff_lt, Int.reduceToNat, Bool.and_true, Bool.and_false, Bool.true_and, Bool.false_and])
      | (refine hQ _ ?_; clear hQ hd; (try clear hbf); clear Q all)
      | (refine k_true ?_ ?_; (· (simp (maxSteps := 2000000) only [go_sem, hn, hl, Nat.reduceAdd, Nat.reduceEqDiff, Nat.reduceLeDiff, Nat.reduceSub, ↓reduceIte, reduceIte, Nat.reduceMul, reduceCtorEq, Nat.reduceLT, Int.reduceLT, Int.reduceLE, Int.reduceEq, Int.reduceAdd, Int.reduceSub, Int.reduceNeg, Bool.not_true, Bool.not_false, beq_self_eq_true, Int.reduceBEq, Int.reduceBNe, ge_iff_le, gt_iff_lt, Int.reduceToNat, Bool.and_true, Bool.and_false, Bool.true_and, Bool.false_and]; done)))
      | (refine k_false ?_ ?_; (· (simp (maxSteps := 2000000) only [go_sem, hn, hl, Nat.reduceAdd, Nat.reduceEqDiff, Nat.reduceLeDiff, Nat.reduceSub, ↓reduceIte, reduceIte, Nat.reduceMul, reduceCtorEq, Nat.reduceLT, Int.reduceLT, Int.reduceLE, Int.reduceEq, Int.reduceAdd, Int.reduceSub, Int.reduceNeg, Bool.not_true, Bool.not_false, beq_self_eq_true, Int.reduceBEq, Int.reduceBNe, ge_iff_le, gt_iff_lt, Int.reduceToNat, Bool.and_true, Bool.and_false, Bool.true_and, Bool.false_and]; done)))
      | (rw [wrap64]; rotate_left 1; (· omega); (· omega); (try simp (maxSteps := 2000000) only [go_sem, hd, hn, hl, Nat.reduceAdd, Nat.reduceEqDiff, Nat.reduceLeDiff, Nat.reduceSub, ↓reduceIte, reduceIte, Nat.reduceMul, reduceCtorEq, Nat.reduceLT, Int.reduceLT, Int.reduceLE, Int.reduceEq, Int.reduceAdd, Int.reduceSub, Int.reduceNeg, Bool.not_true, Bool.not_false, beq_self_eq_true, Int.reduceBEq, Int.reduceBNe, ge_iff_le, gt_iff_lt, Int.reduceToNat, Bool.and_true, Bool.and_false, Bool.true_and, Bool.false_and]))
      | fail
    intro b
    cases b
    · repeat' first
        | refine k_seq ?_
        | refine k_block ?_
        | refine n_sq ?_
        | refine n_bl ?_
        | refine k_skip ?_
        | refine k_exit ?_
        | refine x_sq ?_
        | refine x_hit ?_
        | refine x_miss (by decide) ?_
        | refine x_nil (Ex.of hE ?_)
        | refine t_sq ?_
        | refine t_bl ?_
        | refine t_nil (Rt.of hE ?_)
        | refine t_nil ?_
        | (refine k_region (by rfl) fun Q all hd hQ => ?_; simp (maxSteps := 2000000) only [go_sem, hd, Nat.reduceAdd, Nat.reduceEqDiff, Nat.reduceLeDiff, Nat.reduceSub, ↓reduceIte, reduceIte, Nat.reduceMul, reduceCtorEq, Nat.reduceLT, Int.reduceLT, Int.reduceLE, Int.reduceEq, Int.reduceAdd, Int.reduceSub, Int.reduceNeg, Bool.not_true, Bool.not_false, beq_self_eq_true, Int.reduceBEq, Int.reduceBNe, ge_iff_le, gt_iff_lt, Int.reduceToNat, Bool.and_true, Bool.and_false, Bool.true_and, Bool.false_and])
        | (refine k_draw mixed (by kernel_rfl) fun Q all hd hbf hQ => ?_; simp (maxSteps := 2000000) only [go_sem, hd, Nat.reduceAdd, Nat.reduceEqDiff, Nat.reduceLeDiff, Nat.reduceSub, ↓reduceIte, reduceIte, Nat.reduceMul, reduceCtorEq, Nat.reduceLT, Int.reduceLT, Int.reduceLE, Int.reduceEq, Int.reduceAdd, Int.reduceSub, Int.reduceNeg, Bool.not_true, Bool.not_false, beq_self_eq_true, Int.reduceBEq, Int.reduceBNe, ge_iff_le, gt_iff_lt, Int.reduceToNat, Bool.and_true, Bool.and_false, Bool.true_and, Bool.false_and])
        | (refine hQ _ ?_; clear hQ hd; (try clear hbf); clear Q all)
        | (refine k_true ?_ ?_; (· (simp (maxSteps := 2000000) only [go_sem, Nat.reduceAdd, Nat.reduceEqDiff, Nat.reduceLeDiff, Nat.reduceSub, ↓reduceIte, reduceIte, Nat.reduceMul, reduceCtorEq, Nat.reduceLT, Int.reduceLT, Int.reduceLE, Int.reduceEq, Int.reduceAdd, Int.reduceSub, Int.reduceNeg, Bool.not_true, Bool.not_false, beq_self_eq_true, Int.reduceBEq, Int.reduceBNe, ge_iff_le, gt_iff_lt, Int.reduceToNat, Bool.and_true, Bool.and_false, Bool.true_and, Bool.false_and]; done)))
        | (refine k_false ?_ ?_; (· (simp (maxSteps := 2000000) only [go_sem, Nat.reduceAdd, Nat.reduceEqDiff, Nat.reduceLeDiff, Nat.reduceSub, ↓reduceIte, reduceIte, Nat.reduceMul, reduceCtorEq, Nat.reduceLT, Int.reduceLT, Int.reduceLE, Int.reduceEq, Int.reduceAdd, Int.reduceSub, Int.reduceNeg, Bool.not_true, Bool.not_false, beq_self_eq_true, Int.reduceBEq, Int.reduceBNe, ge_iff_le, gt_iff_lt, Int.reduceToNat, Bool.and_true, Bool.and_false, Bool.true_and, Bool.false_and]; done)))
        | (rw [wrap64]; rotate_left 1; (· omega); (· omega); (try simp (maxSteps := 2000000) only [go_sem, hd, Nat.reduceAdd, Nat.reduceEqDiff, Nat.reduceLeDiff, Nat.reduceSub, ↓reduceIte, reduceIte, Nat.reduceMul, reduceCtorEq, Nat.reduceLT, Int.reduceLT, Int.reduceLE, Int.reduceEq, Int.reduceAdd, Int.reduceSub, Int.reduceNeg, Bool.not_true, Bool.not_false, beq_self_eq_true, Int.reduceBEq, Int.reduceBNe, ge_iff_le, gt_iff_lt, Int.reduceToNat, Bool.and_true, Bool.and_false, Bool.true_and, Bool.false_and]))
        | fail
      rw [if_pos (by simp)]
      simp (maxSteps := 2000000) only [go_sem, hd, Nat.reduceAdd, Nat.reduceEqDiff, Nat.reduceLeDiff, Nat.reduceSub, ↓reduceIte, reduceIte, Nat.reduceMul, reduceCtorEq, Nat.reduceLT, Int.reduceLT, Int.reduceLE, Int.reduceEq, Int.reduceAdd, Int.reduceSub, Int.reduceNeg, Bool.not_true, Bool.not_false, beq_self_eq_true, Int.reduceBEq, Int.reduceBNe, ge_iff_le, gt_iff_lt, Int.reduceToNat, Bool.and_true, Bool.and_false, Bool.true_and, Bool.false_and]
      repeat' first
        | refine k_seq ?_
        | refine k_block ?_
        | refine n_sq ?_
        | refine n_bl ?_
        | refine k_skip ?_
        | refine k_exit ?_
        | refine x_sq ?_
        | refine x_hit ?_
        | refine x_miss (by decide) ?_
        | refine x_nil (Ex.of hE ?_)
        | refine t_sq ?_
        | refine t_bl ?_
        | refine t_nil (Rt.of hE ?_)
        | refine t_nil ?_
        | (refine k_region (by rfl) fun Q all hd hQ => ?_; simp (maxSteps := 2000000) only [go_sem, hd, Nat.reduceAdd, Nat.reduceEqDiff, Nat.reduceLeDiff, Nat.reduceSub, ↓reduceIte, reduceIte, Nat.reduceMul, reduceCtorEq, Nat.reduceLT, Int.reduceLT, Int.reduceLE, Int.reduceEq, Int.reduceAdd, Int.reduceSub, Int.reduceNeg, Bool.not_true, Bool.not_false, beq_self_eq_true, Int.reduceBEq, Int.reduceBNe, ge_iff_le, gt_iff_lt, Int.reduceToNat, Bool.and_true, Bool.and_false, Bool.true_and, Bool.false_and])
        | (refine k_draw mixed (by kernel_rfl) fun Q all hd hbf hQ => ?_; simp (maxSteps := 2000000) only [go_sem, hd, Nat.reduceAdd, Nat.reduceEqDiff, Nat.reduceLeDiff, Nat.reduceSub, ↓reduceIte, reduceIte, Nat.reduceMul, reduceCtorEq, Nat.reduceLT, Int.reduceLT, Int.reduceLE, Int.reduceEq, Int.reduceAdd, Int.reduceSub, Int.reduceNeg, Bool.not_true, Bool.not_false, beq_self_eq_true, Int.reduceBEq, Int.reduceBNe, ge_iff_le, gt_iff_lt, Int.reduceToNat, Bool.and_true, Bool.and_false, Bool.true_and, Bool.false_and])
        | (refine hQ _ ?_; clear hQ hd; (try clear hbf); clear Q all)
        | (refine k_true ?_ ?_; (· (simp (maxSteps := 2000000) only [go_sem, Nat.reduceAdd, Nat.reduceEqDiff, Nat.reduceLeDiff, Nat.reduceSub, ↓reduceIte, reduceIte, Nat.reduceMul, reduceCtorEq, Nat.reduceLT, Int.reduceLT, Int.reduceLE, Int.reduceEq, Int.reduceAdd, Int.reduceSub, Int.reduceNeg, Bool.not_true, Bool.not_false, beq_self_eq_true, Int.reduceBEq, Int.reduceBNe, ge_iff_le, gt_iff_lt, Int.reduceToNat, Bool.and_true, Bool.and_false, Bool.true_and, Bool.false_and]; done)))
        | (refine k_false ?_ ?_; (· (simp (maxSteps := 2000000) only [go_sem, Nat.reduceAdd, Nat.reduceEqDiff, Nat.reduceLeDiff, Nat.reduceSub, ↓reduceIte, reduceIte, Nat.reduceMul, reduceCtorEq, Nat.reduceLT, Int.reduceLT, Int.reduceLE, Int.reduceEq, Int.reduceAdd, Int.reduceSub, Int.reduceNeg, Bool.not_true, Bool.not_false, beq_self_eq_true, Int.reduceBEq, Int.reduceBNe, ge_iff_le, gt_iff_lt, Int.reduceToNat, Bool.and_true, Bool.and_false, Bool.true_and, Bool.false_and]; done)))
        | (rw [wrap64]; rotate_left 1; (· omega); (· omega); (try simp (maxSteps := 2000000) only [go_sem, hd, Nat.reduceAdd, Nat.reduceEqDiff, Nat.reduceLeDiff, Nat.reduceSub, ↓reduceIte, reduceIte, Nat.reduceMul, reduceCtorEq, Nat.reduceLT, Int.reduceLT, Int.reduceLE, Int.reduceEq, Int.reduceAdd, Int.reduceSub, Int.reduceNeg, Bool.not_true, Bool.not_false, beq_self_eq_true, Int.reduceBEq, Int.reduceBNe, ge_iff_le, gt_iff_lt, Int.reduceToNat, Bool.and_true, Bool.and_false, Bool.true_and, Bool.false_and]))
        | fail
      refine k_ret ?_
      repeat refine t_sq ?_
      refine t_nil ?_
      refine (hΦ _ _ (.c (.vs 0 _)) ?_ ⟨rfl, ?_⟩).1
      · simp (maxSteps := 2000000) only [go_sem, resT, resOne, Nat.reduceAdd, Nat.reduceEqDiff, Nat.reduceLeDiff, Nat.reduceSub, ↓reduceIte, reduceIte, Nat.reduceMul, reduceCtorEq, Nat.reduceLT, Int.reduceLT, Int.reduceLE, Int.reduceEq, Int.reduceAdd, Int.reduceSub, Int.reduceNeg, Bool.not_true, Bool.not_false, beq_self_eq_true, Int.reduceBEq, Int.reduceBNe, ge_iff_le, gt_iff_lt, Int.reduceToNat, Bool.and_true, Bool.and_false, Bool.true_and, Bool.false_and]; rfl
      · simp (maxSteps := 2000000) only [go_sem, Nat.reduceAdd, Nat.reduceEqDiff, Nat.reduceLeDiff, Nat.reduceSub, ↓reduceIte, reduceIte, Nat.reduceMul, reduceCtorEq, Nat.reduceLT, Int.reduceLT, Int.reduceLE, Int.reduceEq, Int.reduceAdd, Int.reduceSub, Int.reduceNeg, Bool.not_true, Bool.not_false, beq_self_eq_true, Int.reduceBEq, Int.reduceBNe, ge_iff_le, gt_iff_lt, Int.reduceToNat, Bool.and_true, Bool.and_false, Bool.true_and, Bool.false_and]; try rfl
    · repeat' first
        | refine k_seq ?_
        | refine k_block ?_
        | refine n_sq ?_
        | refine n_bl ?_
        | refine k_skip ?_
        | refine k_exit ?_
        | refine x_sq ?_
        | refine x_hit ?_
        | refine x_miss (by decide) ?_
        | refine x_nil (Ex.of hE ?_)
        | refine t_sq ?_
        | refine t_bl ?_
        | refine t_nil (Rt.of hE ?_)
        | refine t_nil ?_
        | (refine k_region (by rfl) fun Q all hd hQ => ?_; simp (maxSteps := 2000000) only [go_sem, hd, hn, hl, Nat.reduceAdd, Nat.reduceEqDiff, Nat.reduceLeDiff, Nat.reduceSub, ↓reduceIte, reduceIte, Nat.reduceMul, reduceCtorEq, Nat.reduceLT, Int.reduceLT, Int.reduceLE, Int.reduceEq, Int.reduceAdd, Int.reduceSub, Int.reduceNeg, Bool.not_true, Bool.not_false, beq_self_eq_true, Int.reduceBEq, Int.reduceBNe, ge_iff_le, gt_iff_lt, Int.reduceToNat, Bool.and_true, Bool.and_false, Bool.true_and, Bool.false_and])
        | (refine k_draw mixed (by kernel_rfl) fun Q all hd hbf hQ => ?_; simp (maxSteps := 2000000) only [go_sem, hd, hn, hl, Nat.reduceAdd, Nat.reduceEqDiff, Nat.reduceLeDiff, Nat.reduceSub, ↓reduceIte, reduceIte, Nat.reduceMul, reduceCtorEq, Nat.reduceLT, Int.reduceLT, Int.reduceLE, Int.reduceEq, Int.reduceAdd, Int.reduceSub, Int.reduceNeg, Bool.not_true, Bool.not_false, beq_self_eq_true, Int.reduceBEq, Int.reduceBNe, ge_iff_le, gt_iff_lt, Int.reduceToNat, Bool.and_true, Bool.and_false, Bool.true_and, Bool.false_and])
        | (refine hQ _ ?_; clear hQ hd; (try clear hbf); clear Q all)
        | (refine k_true ?_ ?_; (· (simp (maxSteps := 2000000) only [go_sem, hn, hl, Nat.reduceAdd, Nat.reduceEqDiff, Nat.reduceLeDiff, Nat.reduceSub, ↓reduceIte, reduceIte, Nat.reduceMul, reduceCtorEq, Nat.reduceLT, Int.reduceLT, Int.reduceLE, Int.reduceEq, Int.reduceAdd, Int.reduceSub, Int.reduceNeg, Bool.not_true, Bool.not_false, beq_self_eq_true, Int.reduceBEq, Int.reduceBNe, ge_iff_le, gt_iff_lt, Int.reduceToNat, Bool.and_true, Bool.and_false, Bool.true_and, Bool.false_and]; done)))
        | (refine k_false ?_ ?_; (· (simp (maxSteps := 2000000) only [go_sem, hn, hl, Nat.reduceAdd, Nat.reduceEqDiff, Nat.reduceLeDiff, Nat.reduceSub, ↓reduceIte, reduceIte, Nat.reduceMul, reduceCtorEq, Nat.reduceLT, Int.reduceLT, Int.reduceLE, Int.reduceEq, Int.reduceAdd, Int.reduceSub, Int.reduceNeg, Bool.not_true, Bool.not_false, beq_self_eq_true, Int.reduceBEq, Int.reduceBNe, ge_iff_le, gt_iff_lt, Int.reduceToNat, Bool.and_true, Bool.and_false, Bool.true_and, Bool.false_and]; done)))
        | (rw [wrap64]; rotate_left 1; (· omega); (· omega); (try simp (maxSteps := 2000000) only [go_sem, hd, hn, hl, Nat.reduceAdd, Nat.reduceEqDiff, Nat.reduceLeDiff, Nat.reduceSub, ↓reduceIte, reduceIte, Nat.reduceMul, reduceCtorEq, Nat.reduceLT, Int.reduceLT, Int.reduceLE, Int.reduceEq, Int.reduceAdd, Int.reduceSub, Int.reduceNeg, Bool.not_true, Bool.not_false, beq_self_eq_true, Int.reduceBEq, Int.reduceBNe, ge_iff_le, gt_iff_lt, Int.reduceToNat, Bool.and_true, Bool.and_false, Bool.true_and, Bool.false_and]))
        | fail
      refine can_weak (weak_own 2 57 (by simp (maxSteps := 2000000) only [go_sem, Nat.reduceAdd, Nat.reduceEqDiff, Nat.reduceLeDiff, Nat.reduceSub, ↓reduceIte, reduceIte, Nat.reduceMul, reduceCtorEq, Nat.reduceLT, Int.reduceLT, Int.reduceLE, Int.reduceEq, Int.reduceAdd, Int.reduceSub, Int.reduceNeg, Bool.not_true, Bool.not_false, beq_self_eq_true, Int.reduceBEq, Int.reduceBNe, ge_iff_le, gt_iff_lt, Int.reduceToNat, Bool.and_true, Bool.and_false, Bool.true_and, Bool.false_and])) ?_
      refine k_ret ?_
      repeat refine t_sq ?_
      refine t_nil ?_
      refine (hΦ _ _ (.c (.vs 0 _)) ?_ ⟨rfl, ?_⟩).1
      · simp (maxSteps := 2000000) only [go_sem, resT, resOne, Nat.reduceAdd, Nat.reduceEqDiff, Nat.reduceLeDiff, Nat.reduceSub, ↓reduceIte, reduceIte, Nat.reduceMul, reduceCtorEq, Nat.reduceLT, Int.reduceLT, Int.reduceLE, Int.reduceEq, Int.reduceAdd, Int.reduceSub, Int.reduceNeg, Bool.not_true, Bool.not_false, beq_self_eq_true, Int.reduceBEq, Int.reduceBNe, ge_iff_le, gt_iff_lt, Int.reduceToNat, Bool.and_true, Bool.and_false, Bool.true_and, Bool.false_and]; rfl
      · simp (maxSteps := 2000000) only [go_sem, Nat.reduceAdd, Nat.reduceEqDiff, Nat.reduceLeDiff, Nat.reduceSub, ↓reduceIte, reduceIte, Nat.reduceMul, reduceCtorEq, Nat.reduceLT, Int.reduceLT, Int.reduceLE, Int.reduceEq, Int.reduceAdd, Int.reduceSub, Int.reduceNeg, Bool.not_true, Bool.not_false, beq_self_eq_true, Int.reduceBEq, Int.reduceBNe, ge_iff_le, gt_iff_lt, Int.reduceToNat, Bool.and_true, Bool.and_false, Bool.true_and, Bool.false_and]; try rfl
  | cons e es =>
    repeat' first
      | refine k_seq ?_
      | refine k_block ?_
      | refine n_sq ?_
      | refine n_bl ?_
      | refine k_skip ?_
      | refine k_exit ?_
      | refine x_sq ?_
      | refine x_hit ?_
      | refine x_miss (by decide) ?_
      | refine x_nil (Ex.of hE ?_)
      | refine t_sq ?_
      | refine t_bl ?_
      | refine t_nil (Rt.of hE ?_)
      | refine t_nil ?_
      | (refine k_region (by rfl) fun Q all hd hQ => ?_; simp (maxSteps := 2000000) only [go_sem, hd, Nat.reduceAdd, Nat.reduceEqDiff, Nat.reduceLeDiff, Nat.reduceSub, ↓reduceIte, reduceIte, Nat.reduceMul, reduceCtorEq, Nat.reduceLT, Int.reduceLT, Int.reduceLE, Int.reduceEq, Int.reduceAdd, Int.reduceSub, Int.reduceNeg, Bool.not_true, Bool.not_false, beq_self_eq_true, Int.reduceBEq, Int.reduceBNe, ge_iff_le, gt_iff_lt, Int.reduceToNat, Bool.and_true, Bool.and_false, Bool.true_and, Bool.false_and])
      | (refine k_draw mixed (by kernel_rfl) fun Q all hd hbf hQ => ?_; simp (maxSteps := 2000000) only [go_sem, hd, Nat.reduceAdd, Nat.reduceEqDiff, Nat.reduceLeDiff, Nat.reduceSub, ↓reduceIte, reduceIte, Nat.reduceMul, reduceCtorEq, Nat.reduceLT, Int.reduceLT, Int.reduceLE, Int.reduceEq, Int.reduceAdd, Int.reduceSub, Int.reduceNeg, Bool.not_true, Bool.not_false, beq_self_eq_true, Int.reduceBEq, Int.reduceBNe, ge_iff_le, gt_iff_lt, Int.reduceToNat, Bool.and_true, Bool.and_false, Bool.true_and, Bool.false_and])
      | (refine hQ _ ?_; clear hQ hd; (try clear hbf); clear Q all)
      | (refine k_true ?_ ?_; (· (simp (maxSteps := 2000000) only [go_sem, Nat.reduceAdd, Nat.reduceEqDiff, Nat.reduceLeDiff, Nat.reduceSub, ↓reduceIte, reduceIte, Nat.reduceMul, reduceCtorEq, Nat.reduceLT, Int.reduceLT, Int.reduceLE, Int.reduceEq, Int.reduceAdd, Int.reduceSub, Int.reduceNeg, Bool.not_true, Bool.not_false, beq_self_eq_true, Int.reduceBEq, Int.reduceBNe, ge_iff_le, gt_iff_lt, Int.reduceToNat, Bool.and_true, Bool.and_false, Bool.true_and, Bool.false_and]; done)))
      | (refine k_false ?_ ?_; (· (simp (maxSteps := 2000000) only [go_sem, Nat.reduceAdd, Nat.reduceEqDiff, Nat.reduceLeDiff, Nat.reduceSub, ↓reduceIte, reduceIte, Nat.reduceMul, reduceCtorEq, Nat.reduceLT, Int.reduceLT, Int.reduceLE, Int.reduceEq, Int.reduceAdd, Int.reduceSub, Int.reduceNeg, Bool.not_true, Bool.not_false, beq_self_eq_true, Int.reduceBEq, Int.reduceBNe, ge_iff_le, gt_iff_lt, Int.reduceToNat, Bool.and_true, Bool.and_false, Bool.true_and, Bool.false_and]; done)))
      | (rw [wrap64]; rotate_left 1; (· omega); (· omega); (try simp (maxSteps := 2000000) only [go_sem, hd, Nat.reduceAdd, Nat.reduceEqDiff, Nat.reduceLeDiff, Nat.reduceSub, ↓reduceIte, reduceIte, Nat.reduceMul, reduceCtorEq, Nat.reduceLT, Int.reduceLT, Int.reduceLE, Int.reduceEq, Int.reduceAdd, Int.reduceSub, Int.reduceNeg, Bool.not_true, Bool.not_false, beq_self_eq_true, Int.reduceBEq, Int.reduceBNe, ge_iff_le, gt_iff_lt, Int.reduceToNat, Bool.and_true, Bool.and_false, Bool.true_and, Bool.false_and]))
      | fail
    rw [if_pos ⟨hn, hl, by simp, by simp⟩]
    simp (maxSteps := 2000000) only [go_sem, hd, Nat.reduceAdd, Nat.reduceEqDiff, Nat.reduceLeDiff, Nat.reduceSub, ↓reduceIte, reduceIte, Nat.reduceMul, reduceCtorEq, Nat.reduceLT, Int.reduceLT, Int.reduceLE, Int.reduceEq, Int.reduceAdd, Int.reduceSub, Int.reduceNeg, Bool.not_true, Bool.not_false, beq_self_eq_true, Int.reduceBEq, Int.reduceBNe, ge_iff_le, gt_iff_lt, Int.reduceToNat, Bool.and_true, Bool.and_false, Bool.true_and, Bool.false_and]
    repeat' first
      | refine k_seq ?_
      | refine k_block ?_
      | refine n_sq ?_
      | refine n_bl ?_
      | refine k_skip ?_
      | refine k_exit ?_
      | refine x_sq ?_
      | refine x_hit ?_
      | refine x_miss (by decide) ?_
      | refine x_nil (Ex.of hE ?_)
      | refine t_sq ?_
      | refine t_bl ?_
      | refine t_nil (Rt.of hE ?_)
      | refine t_nil ?_
      | (refine k_region (by rfl) fun Q all hd hQ => ?_; simp (maxSteps := 2000000) only [go_sem, hd, Nat.reduceAdd, Nat.reduceEqDiff, Nat.reduceLeDiff, Nat.reduceSub, ↓reduceIte, reduceIte, Nat.reduceMul, reduceCtorEq, Nat.reduceLT, Int.reduceLT, Int.reduceLE, Int.reduceEq, Int.reduceAdd, Int.reduceSub, Int.reduceNeg, Bool.not_true, Bool.not_false, beq_self_eq_true, Int.reduceBEq, Int.reduceBNe, ge_iff_le, gt_iff_lt, Int.reduceToNat, Bool.and_true, Bool.and_false, Bool.true_and, Bool.false_and])
      | (refine k_draw mixed (by kernel_rfl) fun Q all hd hbf hQ => ?_; simp (maxSteps := 2000000) only [go_sem, hd, Nat.reduceAdd, Nat.reduceEqDiff, Nat.reduceLeDiff, Nat.reduceSub, ↓reduceIte, reduceIte, Nat.reduceMul, reduceCtorEq, Nat.reduceLT, Int.reduceLT, Int.reduceLE, Int.reduceEq, Int.reduceAdd, Int.reduceSub, Int.reduceNeg, Bool.not_true, Bool.not_false, beq_self_eq_true, Int.reduceBEq, Int.reduceBNe, ge_iff_le, gt_iff_lt, Int.reduceToNat, Bool.and_true, Bool.and_false, Bool.true_and, Bool.false_and])
      | (refine hQ _ ?_; clear hQ hd; (try clear hbf); clear Q all)
      | (refine k_true ?_ ?_; (· (simp (maxSteps := 2000000) only [go_sem, Nat.reduceAdd, Nat.reduceEqDiff, Nat.reduceLeDiff, Nat.reduceSub, ↓reduceIte, reduceIte, Nat.reduceMul, reduceCtorEq, Nat.reduceLT, Int.reduceLT, Int.reduceLE, Int.reduceEq, Int.reduceAdd, Int.reduceSub, Int.reduceNeg, Bool.not_true, Bool.not_false, beq_self_eq_true, Int.reduceBEq, Int.reduceBNe, ge_iff_le, gt_iff_lt, Int.reduceToNat, Bool.and_true, Bool.and_false, Bool.true_and, Bool.false_and]; done)))
      | (refine k_false ?_ ?_; (· (simp (maxSteps := 2000000) only [go_sem, Nat.reduceAdd, Nat.reduceEqDiff, Nat.reduceLeDiff, Nat.reduceSub, ↓reduceIte, reduceIte, Nat.reduceMul, reduceCtorEq, Nat.reduceLT, Int.reduceLT, Int.reduceLE, Int.reduceEq, Int.reduceAdd, Int.reduceSub, Int.reduceNeg, Bool.not_true, Bool.not_false, beq_self_eq_true, Int.reduceBEq, Int.reduceBNe, ge_iff_le, gt_iff_lt, Int.reduceToNat, Bool.and_true, Bool.and_false, Bool.true_and, Bool.false_and]; done)))
      | (rw [wrap64]; rotate_left 1; (· omega); (· omega); (try simp (maxSteps := 2000000) only [go_sem, hd, Nat.reduceAdd, Nat.reduceEqDiff, Nat.reduceLeDiff, Nat.reduceSub, ↓reduceIte, reduceIte, Nat.reduceMul, reduceCtorEq, Nat.reduceLT, Int.reduceLT, Int.reduceLE, Int.reduceEq, Int.reduceAdd, Int.reduceSub, Int.reduceNeg, Bool.not_true, Bool.not_false, beq_self_eq_true, Int.reduceBEq, Int.reduceBNe, ge_iff_le, gt_iff_lt, Int.reduceToNat, Bool.and_true, Bool.and_false, Bool.true_and, Bool.false_and]))
      | fail
    refine k_ret ?_
    repeat refine t_sq ?_
    refine t_nil ?_
    refine (hΦ _ _ (.c (.vs 0 _)) ?_ ⟨rfl, ?_⟩).1
    · simp (maxSteps := 2000000) only [go_sem, resT, resOne, Nat.reduceAdd, Nat.reduceEqDiff, Nat.reduceLeDiff, Nat.reduceSub, ↓reduceIte, reduceIte, Nat.reduceMul, reduceCtorEq, Nat.reduceLT, Int.reduceLT, Int.reduceLE, Int.reduceEq, Int.reduceAdd, Int.reduceSub, Int.reduceNeg, Bool.not_true, Bool.not_false, beq_self_eq_true, Int.reduceBEq, Int.reduceBNe, ge_iff_le, gt_iff_lt, Int.reduceToNat, Bool.and_true, Bool.and_false, Bool.true_and, Bool.false_and]; rfl
    · simp (maxSteps := 2000000) only [go_sem, Nat.reduceAdd, Nat.reduceEqDiff, Nat.reduceLeDiff, Nat.reduceSub, ↓reduceIte, reduceIte, Nat.reduceMul, reduceCtorEq, Nat.reduceLT, Int.reduceLT, Int.reduceLE, Int.reduceEq, Int.reduceAdd, Int.reduceSub, Int.reduceNeg, Bool.not_true, Bool.not_false, beq_self_eq_true, Int.reduceBEq, Int.reduceBNe, ge_iff_le, gt_iff_lt, Int.reduceToNat, Bool.and_true, Bool.and_false, Bool.true_and, Bool.false_and]; try rfl
theorem cloneP_pure (es : List (List Dat)) (hl : ∀ e ∈ es, e.length = 7) (hn : es.length * 104 ≤ 140737488355328) : PureC Kx 47 [tL es] (tL es) := pure_of_row (by simp [closedTs, closedT, closedC]) (cloneP_own es hl hn)

end Go.Proofs.Ythnnnnaifnddbaa

