/- What comes in of the program's types is the program's data. -/
import Derived.Test.YthnnnnaifnddbaaT
import Derived.Test.YthnnnnaifnddbaaEO
namespace Go.Proofs.Ythnnnnaifnddbaa
set_option maxRecDepth 20000
set_option maxHeartbeats 4000000
set_option linter.unusedVariables false
set_option linter.unusedSimpArgs false
theorem list_of {α : Type} {f : α → List Dat} : ∀ (es : List (List Dat)), (∀ x ∈ es, ∃ a, x = f a) → ∃ l : List α, es = l.map f
  | [], _ => ⟨[], rfl⟩
  | x :: es, h => by
    obtain ⟨a, rfl⟩ := h x (by simp)
    obtain ⟨l, rfl⟩ := list_of es fun y hy => h y (by simp [hy])
    exact ⟨a :: l, rfl⟩
theorem sh_int {n : Nat} {ds : List Dat} (h : Sh Try.prog n 3 ds) : ∃ i, ds = [dI i] := by
  cases n with
  | zero => exact h.elim
  | succ n => unfold Sh at h; simp only [Try.underlying3] at h; obtain ⟨i, rfl, _⟩ := h; exact ⟨i, rfl⟩
theorem sh_i64 {n : Nat} {ds : List Dat} (h : Sh Try.prog n 2 ds) : ∃ i, ds = [dI i] := by
  cases n with
  | zero => exact h.elim
  | succ n => unfold Sh at h; simp only [Try.underlying2] at h; obtain ⟨i, rfl, _⟩ := h; exact ⟨i, rfl⟩
theorem sh_str {n : Nat} {ds : List Dat} (h : Sh Try.prog n 9 ds) : ∃ i, ds = [dS i] := by
  cases n with
  | zero => exact h.elim
  | succ n => unfold Sh at h; simp only [Try.underlying9] at h; obtain ⟨i, rfl⟩ := h; exact ⟨i, rfl⟩
theorem sh_strs {n : Nat} {ds : List Dat} (h : Sh Try.prog n 23 ds) : ∃ l : List ByteArray, ds = [.l (l.map (fun x => [dS x]))] := by
  cases n with
  | zero => exact h.elim
  | succ n => unfold Sh at h; simp only [Try.underlying23] at h; obtain ⟨es, rfl, he⟩ := h; obtain ⟨l, rfl⟩ := list_of (f := (fun x => [dS x])) es (fun x hx => sh_str (he x hx)); exact ⟨l, rfl⟩
theorem sh_Ty : ∀ (n : Nat) (ds : List Dat), Sh Try.prog n 27 ds → ∃ t : Ty, ds = t.enc
  | 0, _, h => h.elim
  | n + 1, ds, h => by
    unfold Sh at h; simp only [Try.underlying27] at h
    obtain ⟨a0, b0, rfl, _, h0, a1, b1, rfl, _, h1, a2, b2, rfl, _, h2, a3, b3, rfl, _, h3, a4, b4, rfl, _, h4, a5, b5, rfl, _, h5, rfl⟩ := h
    obtain ⟨x0, rfl⟩ := sh_int h0
    obtain ⟨x1, rfl⟩ := sh_int h1
    obtain ⟨x2, rfl⟩ := sh_str h2
    obtain ⟨x3, rfl⟩ := sh_int h3
    obtain ⟨x4, rfl⟩ := sh_strs h4
    cases n with
    | zero => exact h5.elim
    | succ n =>
    unfold Sh at h5; simp only [Try.underlying25] at h5; obtain ⟨es, rfl, he⟩ := h5
    obtain ⟨x5, rfl⟩ := list_of (f := Ty.enc) es (fun x hx => sh_Ty n x (he x hx))
    exact ⟨⟨x0, x1, x2, x3, x4, x5⟩, by rw [Ty.enc_eq]; rfl⟩
theorem sh_Vl : ∀ (n : Nat) (ds : List Dat), Sh Try.prog n 81 ds → ∃ t : Vl, ds = t.enc
  | 0, _, h => h.elim
  | n + 1, ds, h => by
    unfold Sh at h; simp only [Try.underlying81] at h
    obtain ⟨a0, b0, rfl, _, h0, a1, b1, rfl, _, h1, a2, b2, rfl, _, h2, rfl⟩ := h
    obtain ⟨x0, rfl⟩ := sh_int h0
    obtain ⟨x1, rfl⟩ := sh_str h1
    obtain ⟨x2, rfl⟩ := sh_i64 h2
    exact ⟨⟨x0, x1, x2⟩, by rw [Vl.enc_eq]; rfl⟩
theorem sh_Vls {n : Nat} {ds : List Dat} (h : Sh Try.prog n 24 ds) : ∃ l : List Vl, ds = [.l (l.map Vl.enc)] := by
  cases n with
  | zero => exact h.elim
  | succ n => unfold Sh at h; simp only [Try.underlying24] at h; obtain ⟨es, rfl, he⟩ := h; obtain ⟨l, rfl⟩ := list_of (f := Vl.enc) es (fun x hx => sh_Vl _ _ (he x hx)); exact ⟨l, rfl⟩
theorem sh_Pr : ∀ (n : Nat) (ds : List Dat), Sh Try.prog n 30 ds → ∃ t : Pr, ds = t.enc
  | 0, _, h => h.elim
  | n + 1, ds, h => by
    unfold Sh at h; simp only [Try.underlying30] at h
    obtain ⟨a0, b0, rfl, _, h0, a1, b1, rfl, _, h1, a2, b2, rfl, _, h2, a3, b3, rfl, _, h3, a4, b4, rfl, _, h4, a5, b5, rfl, _, h5, a6, b6, rfl, _, h6, rfl⟩ := h
    obtain ⟨x0, rfl⟩ := sh_int h0
    obtain ⟨x1, rfl⟩ := sh_str h1
    obtain ⟨x2, rfl⟩ := sh_str h2
    obtain ⟨x3, rfl⟩ := sh_strs h3
    obtain ⟨x4, rfl⟩ := sh_Vls h4
    obtain ⟨x5, rfl⟩ := sh_Ty _ _ h5
    cases n with
    | zero => exact h6.elim
    | succ n =>
    unfold Sh at h6; simp only [Try.underlying28] at h6; obtain ⟨es, rfl, he⟩ := h6
    obtain ⟨x6, rfl⟩ := list_of (f := Pr.enc) es (fun x hx => sh_Pr n x (he x hx))
    exact ⟨⟨x0, x1, x2, x3, x4, x5, x6⟩, by rw [Pr.enc_eq, Ty.enc_eq]; rfl⟩
theorem sh_Pm : ∀ (n : Nat) (ds : List Dat), Sh Try.prog n 57 ds → ∃ t : Pm, ds = t.enc
  | 0, _, h => h.elim
  | n + 1, ds, h => by
    unfold Sh at h; simp only [Try.underlying57] at h
    obtain ⟨a0, b0, rfl, _, h0, a1, b1, rfl, _, h1, rfl⟩ := h
    obtain ⟨x0, rfl⟩ := sh_str h0
    obtain ⟨x1, rfl⟩ := sh_Ty _ _ h1
    exact ⟨⟨x0, x1⟩, by rw [Pm.enc]; simp⟩
theorem sh_Pms {n : Nat} {ds : List Dat} (h : Sh Try.prog n 48 ds) : ∃ l : List Pm, ds = [.l (l.map Pm.enc)] := by
  cases n with
  | zero => exact h.elim
  | succ n => unfold Sh at h; simp only [Try.underlying48] at h; obtain ⟨es, rfl, he⟩ := h; obtain ⟨l, rfl⟩ := list_of (f := Pm.enc) es (fun x hx => sh_Pm _ _ (he x hx)); exact ⟨l, rfl⟩
theorem sh_Df : ∀ (n : Nat) (ds : List Dat), Sh Try.prog n 50 ds → ∃ t : Df, ds = t.enc
  | 0, _, h => h.elim
  | n + 1, ds, h => by
    unfold Sh at h; simp only [Try.underlying50] at h
    obtain ⟨a0, b0, rfl, _, h0, a1, b1, rfl, _, h1, a2, b2, rfl, _, h2, rfl⟩ := h
    obtain ⟨x0, rfl⟩ := sh_str h0
    obtain ⟨x1, rfl⟩ := sh_Pms h1
    obtain ⟨x2, rfl⟩ := sh_Pr _ _ h2
    exact ⟨⟨x0, x1, x2⟩, by rw [Df.enc]; simp⟩
theorem sh_Dfs {n : Nat} {ds : List Dat} (h : Sh Try.prog n 22 ds) : ∃ l : List Df, ds = [.l (l.map Df.enc)] := by
  cases n with
  | zero => exact h.elim
  | succ n => unfold Sh at h; simp only [Try.underlying22] at h; obtain ⟨es, rfl, he⟩ := h; obtain ⟨l, rfl⟩ := list_of (f := Df.enc) es (fun x hx => sh_Df _ _ (he x hx)); exact ⟨l, rfl⟩
theorem sh_Pg : ∀ (n : Nat) (ds : List Dat), Sh Try.prog n 32 ds → ∃ t : Pg, ds = t.enc
  | 0, _, h => h.elim
  | n + 1, ds, h => by
    unfold Sh at h; simp only [Try.underlying32] at h
    obtain ⟨a0, b0, rfl, _, h0, a1, b1, rfl, _, h1, rfl⟩ := h
    obtain ⟨x0, rfl⟩ := sh_Dfs h0
    obtain ⟨x1, rfl⟩ := sh_Pr _ _ h1
    exact ⟨⟨x0, x1⟩, by rw [Pg.enc]; simp⟩
def plainTs : List TypeId := [3, 9, 23, 27, 25, 81, 24, 30, 28, 57, 48, 50, 22, 32, 2]
theorem plainTs_ok : plainS Try.prog plainTs = true := by kernel_rfl

end Go.Proofs.Ythnnnnaifnddbaa

