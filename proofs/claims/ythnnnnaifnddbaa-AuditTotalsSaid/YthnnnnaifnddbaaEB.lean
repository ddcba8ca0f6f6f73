/- Equality of objects, as a test. -/
import Derived.Test.YthnnnnaifnddbaaE18
set_option linter.unusedVariables false
set_option linter.unusedSimpArgs false
namespace Go.Proofs.Ythnnnnaifnddbaa
mutual
def eqD : Dat → Dat → Bool
  | .b x, .b y => x == y
  | .i k n, .i k' n' => decide (k = k') && decide (n = n')
  | .s x, .s y => decide (x = y)
  | .l a, .l b => eqDss a b
  | .m a b, .m a' b' => eqDs a a' && eqDs b b'
  | _, _ => false
def eqDs : List Dat → List Dat → Bool
  | [], [] => true
  | x :: a, y :: b => eqD x y && eqDs a b
  | _, _ => false
def eqDss : List (List Dat) → List (List Dat) → Bool
  | [], [] => true
  | x :: a, y :: b => eqDs x y && eqDss a b
  | _, _ => false
end
mutual
theorem eqD_sound : ∀ {a b : Dat}, eqD a b = true → a = b
  | .b x, b, h => by cases b <;> simp [eqD] at h; rw [h]
  | .i k n, b, h => by cases b <;> simp [eqD] at h; rw [h.1, h.2]
  | .s x, b, h => by cases b <;> simp [eqD] at h; rw [h]
  | .l a, b, h => by
    cases b <;> simp [eqD] at h
    rw [eqDss_sound h]
  | .m p q, b, h => by
    cases b <;> simp [eqD] at h
    rw [eqDs_sound h.1, eqDs_sound h.2]
theorem eqDs_sound : ∀ {a b : List Dat}, eqDs a b = true → a = b
  | [], b, h => by cases b <;> simp [eqDs] at h; rfl
  | x :: a, b, h => by
    cases b <;> simp [eqDs] at h
    rw [eqD_sound h.1, eqDs_sound h.2]
theorem eqDss_sound : ∀ {a b : List (List Dat)}, eqDss a b = true → a = b
  | [], b, h => by cases b <;> simp [eqDss] at h; rfl
  | x :: a, b, h => by
    cases b <;> simp [eqDss] at h
    rw [eqDs_sound h.1, eqDss_sound h.2]
end
def eqK : Value → Value → Bool
  | .pointer none, .pointer none => true
  | .map none, .map none => true
  | .nilFunc, .nilFunc => true
  | .nilIface, .nilIface => true
  | _, _ => false
theorem eqK_sound {a b : Value} (h : eqK a b = true) : a = b := by
  unfold eqK at h
  split at h <;> first | rfl | cases h
mutual
def eqC : CV → CV → Bool
  | .d x, .d y => eqD x y
  | .ref k o, .ref k' o' => Nat.beq k k' && Nat.beq o o'
  | .ep cs o, .ep cs' o' => eqDs cs cs' && Nat.beq o o'
  | .rp a b c d, .rp a' b' c' d' => Nat.beq a a' && Nat.beq b b' && Nat.beq c c' && Nat.beq d d'
  | .vs a b, .vs a' b' => Nat.beq a a' && Nat.beq b b'
  | .fl a, .fl b => eqDss a b
  | .nil, .nil => true
  | .fn f c, .fn f' c' => Nat.beq f f' && eqCs c c'
  | .mp k, .mp k' => Nat.beq k k'
  | .k v, .k v' => eqK v v'
  | _, _ => false
def eqCs : List CV → List CV → Bool
  | [], [] => true
  | x :: a, y :: b => eqC x y && eqCs a b
  | _, _ => false
end
mutual
theorem eqC_sound : ∀ {a b : CV}, eqC a b = true → a = b
  | .d x, b, h => by cases b <;> simp [eqC] at h; rw [eqD_sound h]
  | .ref k o, b, h => by cases b <;> simp [eqC] at h; rw [h.1, h.2]
  | .ep cs o, b, h => by cases b <;> simp [eqC] at h; rw [eqDs_sound h.1, h.2]
  | .rp p q r s, b, h => by cases b <;> simp [eqC] at h; rw [h.1.1.1, h.1.1.2, h.1.2, h.2]
  | .vs p q, b, h => by cases b <;> simp [eqC] at h; rw [h.1, h.2]
  | .fl a, b, h => by cases b <;> simp [eqC] at h; rw [eqDss_sound h]
  | .nil, b, h => by cases b <;> simp [eqC] at h; rfl
  | .fn f c, b, h => by cases b <;> simp [eqC] at h; rw [h.1, eqCs_sound h.2]
  | .mp k, b, h => by cases b <;> simp [eqC] at h; rw [h]
  | .k v, b, h => by cases b <;> simp [eqC] at h; rw [eqK_sound h]
  | .any, b, h => by cases b <;> simp [eqC] at h
theorem eqCs_sound : ∀ {a b : List CV}, eqCs a b = true → a = b
  | [], b, h => by cases b <;> simp [eqCs] at h; rfl
  | x :: a, b, h => by
    cases b <;> simp [eqCs] at h
    rw [eqC_sound h.1, eqCs_sound h.2]
end
def eqO : Ob → Ob → Bool
  | .none, .none => true
  | .box t c, .box t' c' => Nat.beq t t' && eqCs c c'
  | .row t e f, .row t' e' f' => Nat.beq t t' && eqDss e e' && f == f'
  | _, _ => false
theorem eqO_sound {a b : Ob} (h : eqO a b = true) : a = b := by
  cases a <;> cases b <;> simp [eqO] at h
  · rfl
  · rw [h.1, eqCs_sound h.2]
  · rw [h.1.1, eqDss_sound h.1.2, h.2]
/-- Object k is in both the same. -/
def sameO (H H' : List Ob) (k : Nat) : Bool := match H[k]?, H'[k]? with
  | some a, some b => eqO a b
  | _, _ => false
theorem sameO_sound {H H' : List Ob} {k : Nat} (h : sameO H H' k = true) : H'[k]? = H[k]? := by
  unfold sameO at h
  split at h
  · rename_i a b h1 h2
    rw [h1, h2, eqO_sound h]
  · cases h
end Go.Proofs.Ythnnnnaifnddbaa
