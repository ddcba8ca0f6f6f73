/- Lengths, parts, conversions, cuts of slices; maps. -/
import Derived.Test.YthnnnnaifnddbaaE6
set_option linter.unusedVariables false
set_option linter.unusedSimpArgs false
namespace Go.Proofs.Ythnnnnaifnddbaa
open Go.RowKit (Below)

def unF : UnOp → Dat → Option Dat
  | .not, .b x => some (.b !x)
  | .neg, .i k n => some (.i k (k.wrap (0 - n)))
  | _, _ => none
def convF (P : Program) (src dst : TypeId) : Dat → Option Dat
  | .i k n => match P.underlying src, P.underlying dst with
    | some (.int _), some (.int k') => some (.i k' (k'.wrap n))
    | _, _ => none
  | .s x => match P.underlying src, P.underlying dst with
    | some .string, some .string => some (.s x)
    | _, _ => none
  | _ => none
/-- A byte of a string. -/
def byteF (x : ByteArray) (i : Int) : Option Dat := if 0 ≤ i then (x.data.toList[i.toNat]?).map fun b => .i .u8 b.toNat else none
def lenF (H : List Ob) : CV → Option Int
  | .d (.l es) => some es.length
  | .d (.s x) => some x.size
  | .d (.m ks _) => some ks.length
  | .nil => some 0
  | .fl es => some es.length
  | .vs k n => match H[k]? with
    | some (.row _ es _) => if es.length = n then some n else none
    | _ => none
  | .mp k => match H[k]? with
    | some (.mp es _) => some es.length
    | _ => none
  | _ => none
/-- The kind of the operand fits the type. -/
def lenTy (P : Program) (t : TypeId) (c : CV) : Bool := match c, P.underlying t with
  | .d (.s _), some .string => true
  | .d (.l _), some (.slice _) => true
  | .d (.m _ _), some (.map _ _) => true
  | .nil, some (.slice _) => true
  | .vs _ _, some (.slice _) => true
  | .fl _, some (.slice _) => true
  | .mp _, some (.map _ _) => true
  | _, _ => false
def loF : Option CV → Option Int
  | none => some 0
  | some (.d (.i _ n)) => some n
  | _ => none
def hiF (l : Nat) : Option CV → Option Int
  | none => some l
  | some (.d (.i _ n)) => some n
  | _ => none
def cutF (P : Program) (t : TypeId) (lo hi : Option CV) : Dat → Option Dat
  | .s x => match P.underlying t, loF lo, hiF x.size hi with
    | some .string, some a, some b => if 0 ≤ a ∧ a ≤ b ∧ b ≤ x.size then some (.s (x.extract a.toNat b.toNat)) else none
    | _, _, _ => none
  | .l es => match P.underlying t, loF lo, hiF es.length hi with
    | some (.slice e), some a, some b => if 0 ≤ a ∧ a ≤ b ∧ b ≤ es.length ∧ 0 < szOf P e ∧ (∀ y ∈ es, y.length = szOf P e) then some (.l ((es.take b.toNat).drop a.toNat)) else none
    | _, _, _ => none
  | _ => none

section
variable {G : Gl} {w : World} {Z : Zs} {β : Bl} {H : List Ob} {P : Program}

theorem un_sound {op : UnOp} {d d' : Dat} {v : Value} (h : RelD w Z d v) (hf : unF op d = some d') : ∃ r, (Op.unary op v).run P w = .ok r w ∧ RelD w Z d' r := by
  cases h with
  | b x => cases op <;> simp [unF] at hf; subst hf; exact ⟨_, by simp [Op.unary], .b _⟩
  | i k n => cases op <;> simp [unF] at hf; subst hf; exact ⟨_, by simp [Op.unary, Op.intArith], .i _ _⟩
  | _ => cases op <;> simp [unF] at hf

theorem conv_sound {s t : TypeId} {d d' : Dat} {v : Value} (h : RelD w Z d v) (hf : convF P s t d = some d') : ∃ r, (convert s t v).run P w = .ok r w ∧ RelD w Z d' r := by
  cases h with
  | i k n =>
    simp only [convF] at hf
    split at hf
    · rename_i h1 h2
      cases hf
      exact ⟨_, by simp [convert, run_underlying h1, run_underlying h2, Conv.intToInt], .i _ _⟩
    · cases hf
  | s x hx =>
    simp only [convF] at hf
    split at hf
    · rename_i h1 h2
      cases hf
      exact ⟨_, by simp [convert, run_underlying h1, run_underlying h2], .s _ hx⟩
    · cases hf
  | _ => simp [convF] at hf

theorem byte_sound {t : TypeId} {x : ByteArray} {k : IntKind} {i : Int} {d : Dat} (hu : P.underlying t = some .string) (hf : byteF x i = some d) :
    ∃ r, (Instr.index t (.string x) (.int k i)).run P w = .ok r w ∧ RelD w Z d r := by
  unfold byteF at hf
  split at hf
  · rename_i h0
    simp only [Option.map_eq_some_iff] at hf
    obtain ⟨b, hb, rfl⟩ := hf
    obtain ⟨hlt, rfl⟩ := List.getElem?_eq_some_iff.1 hb
    have hlt' : i.toNat < x.size := by simpa using hlt
    refine ⟨_, ?_, .i _ _⟩
    rw [run_index_string w t x k i hu, dif_pos ⟨h0, by omega⟩]
    rfl
  · cases hf

theorem lenTy_l {P : Program} {t : TypeId} {es : List (List Dat)} (h : lenTy P t (.d (.l es)) = true) : ∃ e, P.underlying t = some (.slice e) := by
  cases hu : P.underlying t with
  | none => simp [lenTy, hu] at h
  | some u => cases u <;> simp [lenTy, hu] at h; exact ⟨_, rfl⟩
theorem lenTy_nil {P : Program} {t : TypeId} (h : lenTy P t .nil = true) : ∃ e, P.underlying t = some (.slice e) := by
  cases hu : P.underlying t with
  | none => simp [lenTy, hu] at h
  | some u => cases u <;> simp [lenTy, hu] at h; exact ⟨_, rfl⟩
theorem lenTy_vs {P : Program} {t : TypeId} {k n : Nat} (h : lenTy P t (.vs k n) = true) : ∃ e, P.underlying t = some (.slice e) := by
  cases hu : P.underlying t with
  | none => simp [lenTy, hu] at h
  | some u => cases u <;> simp [lenTy, hu] at h; exact ⟨_, rfl⟩
theorem lenTy_fl {P : Program} {t : TypeId} {es : List (List Dat)} (h : lenTy P t (.fl es) = true) : ∃ e, P.underlying t = some (.slice e) := by
  cases hu : P.underlying t with
  | none => simp [lenTy, hu] at h
  | some u => cases u <;> simp [lenTy, hu] at h; exact ⟨_, rfl⟩
theorem lenTy_s {P : Program} {t : TypeId} {x : ByteArray} (h : lenTy P t (.d (.s x)) = true) : P.underlying t = some .string := by
  cases hu : P.underlying t with
  | none => simp [lenTy, hu] at h
  | some u => cases u <;> simp [lenTy, hu] at h; rfl
theorem lenTy_m {P : Program} {t : TypeId} {ks vs : List Dat} (h : lenTy P t (.d (.m ks vs)) = true) : ∃ a b, P.underlying t = some (.map a b) := by
  cases hu : P.underlying t with
  | none => simp [lenTy, hu] at h
  | some u => cases u <;> simp [lenTy, hu] at h; exact ⟨_, _, rfl⟩
theorem lenTy_mp {P : Program} {t : TypeId} {k : Nat} (h : lenTy P t (.mp k) = true) : ∃ a b, P.underlying t = some (.map a b) := by
  cases hu : P.underlying t with
  | none => simp [lenTy, hu] at h
  | some u => cases u <;> simp [lenTy, hu] at h; exact ⟨_, _, rfl⟩

theorem len_sound (m : Mem G w Z β H) {t ty : TypeId} {c : CV} {v : Value} {n : Int} (hc : RelC G.P w Z β H c v) (hf : lenF H c = some n)
    (hu : lenTy G.P t c = true) :
    (Builtin.len_ #[t] ty #[v]).run G.P w = .ok (.int .i64 n) w := by
  cases hc with
  | d x v hd =>
    cases hd with
    | l es A c sz g hn hcp hsz hA hcell hrel =>
      simp only [lenF, Option.some.injEq] at hf
      subst hf
      obtain ⟨e, hu⟩ := lenTy_l hu
      simp [Builtin.len_, run_underlying hu, goInt]
    | s x hx =>
      simp only [lenF, Option.some.injEq] at hf
      subst hf
      have hu := lenTy_s hu
      simp [Builtin.len_, run_underlying hu, goInt]
    | m ks vs b ents clock fk fv hl hs hh hz he hk hv =>
      simp only [lenF, Option.some.injEq] at hf
      subst hf
      obtain ⟨a, b2, hu⟩ := lenTy_m hu
      simp [Builtin.len_, run_underlying hu, goInt, getObj, Sem.run, hh, hs]
    | _ => simp [lenF] at hf
  | nil =>
    simp only [lenF, Option.some.injEq] at hf
    subst hf
    obtain ⟨e, hu⟩ := lenTy_nil hu
    simp [Builtin.len_, run_underlying hu, goInt]
  | fl es A hd =>
    simp only [lenF, Option.some.injEq] at hf
    subst hf
    obtain ⟨e, hu⟩ := lenTy_fl hu
    simp [Builtin.len_, run_underlying hu, goInt]
  | vs k m' A l c ty' es fz hk hn hv =>
    simp only [lenF, hk] at hf
    split at hf
    · rename_i hl
      cases hf
      obtain ⟨e, hu2⟩ := lenTy_vs hu
      have : l = m' := by
        rcases hv hl with ⟨hb, rfl, rfl⟩ | ⟨b, hb, rfl, rfl⟩
        · have := (m.obj _ _ hk).2.2.1 hb
          subst this
          simpa using hl
        · rfl
      subst this
      simp [Builtin.len_, run_underlying hu2, goInt]
    · cases hf
  | mp k b c hk hb =>
    simp only [lenF] at hf
    split at hf
    · rename_i es fz hk'
      cases hf
      obtain ⟨b', c', ents, clock, h1, h2, h3, h4, _⟩ := m.obj _ _ hk'
      rw [hb] at h1; cases h1
      obtain ⟨a, b2, hu⟩ := lenTy_mp hu
      simp [Builtin.len_, run_underlying hu, goInt, getObj, Sem.run, h2, h3]
    · cases hf
  | _ => simp [lenF] at hf

/-- The bounds of a cut, as the machine has them. -/
def vLo (lo : Option CV) (v : Option Value) : Prop := (lo = none ∧ v = none) ∨ ∃ k n, lo = some (.d (.i k n)) ∧ v = some (.int k n)

theorem cut_sound {t : TypeId} {lo hi : Option CV} {vlo vhi : Option Value} {d d' : Dat} {v : Value} (hd : RelD w Z d v) (hlo : vLo lo vlo) (hhi : vLo hi vhi) (hf : cutF P t lo hi d = some d') :
    ∃ r, (Instr.slice t v vlo vhi none).run P w = .ok r w ∧ RelD w Z d' r := by
  cases hd with
  | s x hx =>
    simp only [cutF] at hf
    split at hf
    · rename_i a b hu ha hb
      split at hf
      · rename_i hab
        cases hf
        refine ⟨.string (x.extract a.toNat b.toNat), ?_, .s _ (by simp [ByteArray.size_extract]; omega)⟩
        rcases hlo with ⟨rfl, rfl⟩ | ⟨k, n, rfl, rfl⟩ <;> rcases hhi with ⟨rfl, rfl⟩ | ⟨k', n', rfl, rfl⟩ <;> simp only [loF, hiF, Option.some.injEq] at ha hb <;> subst ha <;> subst hb
        · simp [Instr.slice, Instr.sliceBounds, run_underlying hu]
        · have h1 : 0 ≤ n' ∧ n' ≤ (x.size : Int) := ⟨by omega, hab.2.2⟩
          simp [Instr.slice, Instr.sliceBounds, Instr.sliceBound, asIntOf, run_underlying hu, h1]
        · have h1 : 0 ≤ n ∧ n ≤ (x.size : Int) := ⟨hab.1, hab.2.1⟩
          simp [Instr.slice, Instr.sliceBounds, Instr.sliceBound, asIntOf, run_underlying hu, h1]
        · exact run_slice_string w t x k k' n n' hu hab.1 hab.2.1 hab.2.2
      · cases hf
    · cases hf
  | l es A c sz g hn hcp hsz hA hcell hrel =>
    simp only [cutF] at hf
    split at hf
    · rename_i e a b hu ha hb
      split at hf
      · rename_i hab
        obtain ⟨h0, h1, h2, hpos, hyl⟩ := hab
        cases hf
        have hs := run_sizeOf (P := P) w e hpos
        have hlen : ((es.take b.toNat).drop a.toNat).length = b.toNat - a.toNat := by simp; omega
        have hget : ∀ (i : Nat) y, ((es.take b.toNat).drop a.toNat)[i]? = some y → es[a.toNat + i]? = some y := fun i y hy => by
          rw [List.getElem?_drop, List.getElem?_take] at hy
          split at hy
          · exact hy
          · cases hy
        have hrel' : RelD w Z (.l ((es.take b.toNat).drop a.toNat)) (.slice (if c = a.toNat then A else A.map (·.add (a.toNat * szOf P e))) (b.toNat - a.toNat) (c - a.toNat)) := by
          rw [← hlen]
          refine .l _ _ _ sz (fun i j => g (a.toNat + i) j) (by omega) (by omega) (fun i y hy => hsz _ y (hget i y hy)) (fun hne => ?_) (fun ad ha' i hi j hj => ?_) (fun i y hy j d hd => hrel _ y (hget i y hy) j d hd)
          · obtain ⟨ad, rfl⟩ := hA (fun h => hne (by simp [h]))
            split
            · exact ⟨_, rfl⟩
            · exact ⟨_, rfl⟩
          · have hai : a.toNat + i < es.length := by omega
            have hsz' : sz = szOf P e := by
              rw [← hsz (a.toNat + i) es[a.toNat + i] (by simp [hai])]
              exact hyl _ (List.getElem_mem hai)
            obtain ⟨ad0, rfl⟩ := hA (fun h => by simp [h] at hai)
            rw [if_neg (by omega)] at ha'
            simp only [Option.map_some, Option.some.injEq] at ha'
            subst ha'
            rw [Addr.add_add, ← hsz', show a.toNat * sz + (i * sz + j) = (a.toNat + i) * sz + j by rw [Nat.add_mul]; omega]
            exact hcell ad0 rfl _ hai j hj
        refine ⟨_, ?_, hrel'⟩
        have hb1 : b.toNat - a.toNat = b.toNat - a.toNat := rfl
        rcases hlo with ⟨rfl, rfl⟩ | ⟨k, n, rfl, rfl⟩ <;> rcases hhi with ⟨rfl, rfl⟩ | ⟨k', n', rfl, rfl⟩ <;> simp only [loF, hiF, Option.some.injEq] at ha hb <;> subst ha <;> subst hb
        · simp [Instr.slice, Instr.sliceBounds, run_underlying hu, hs]
        · have e1 : 0 ≤ n' ∧ n' ≤ (c : Int) := ⟨by omega, by omega⟩
          simp [Instr.slice, Instr.sliceBounds, Instr.sliceBound, asIntOf, run_underlying hu, e1, hs]
        · have e1 : 0 ≤ n ∧ n ≤ (es.length : Int) := ⟨h0, h1⟩
          simp [Instr.slice, Instr.sliceBounds, Instr.sliceBound, asIntOf, run_underlying hu, e1, hs]
        · have e1 : 0 ≤ n' ∧ n' ≤ (c : Int) := ⟨by omega, by omega⟩
          have e2 : 0 ≤ n ∧ n ≤ ((n'.toNat : Nat) : Int) := ⟨h0, by omega⟩
          simp [Instr.slice, Instr.sliceBounds, Instr.sliceBound, asIntOf, run_underlying hu, e1, e2, hs]
          try (intro hc; omega)
      · cases hf
    · cases hf
  | _ => simp [cutF] at hf

theorem extract_sound {tv : TV} {xs : List TV} {v : Value} {i : Nat} (h : RelT P w Z β H (.t xs) v) (hi : xs[i]? = some tv) : ∃ r, (Instr.extract v i).run P w = .ok r w ∧ RelT P w Z β H tv r := by
  cases h with
  | t _ vs hl h =>
    have hlt := (List.getElem?_eq_some_iff.1 hi).1
    have : vs[i]? = some vs[i] := by simp [hl ▸ hlt]
    exact ⟨vs[i], by simp [Instr.extract, this], h i tv _ hi this⟩

theorem max_sound {ty : TypeId} {ts : Array TypeId} {k : IntKind} {a b : Int} : (Builtin.max_ ts ty #[.int k a, .int k b]).run P w = .ok (.int k (if b > a then b else a)) w := by
  simp [Builtin.max_, Builtin.max2]
end
end Go.Proofs.Ythnnnnaifnddbaa
