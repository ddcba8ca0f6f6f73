/- Code, loops, functions. -/
import Derived.Test.YthnnnnaifnddbaaE9
set_option linter.unusedVariables false
set_option linter.unusedSimpArgs false
namespace Go.Proofs.Ythnnnnaifnddbaa
open Go.RowKit (Below)

def Can (K : Kn) (H1 : List Ob) (c : Code) (s : St) (Φ : Exit → St → Prop) : Prop :=
  ∀ B : Bs, B.H1 = H1 → ∀ a w, SimE K B a w s → c.wp K.P (fun e a' w' => ∃ s', Φ e s' ∧ SimE K B a' w' s') a w

/-- What holds behind the first of two. -/
def thn (next : St → Prop) (Φ : Exit → St → Prop) : Exit → St → Prop
  | .normal, s => next s
  | e, s => Φ e s
def inB (id : Nat) (Φ : Exit → St → Prop) : Exit → St → Prop
  | .exit i, s => if i = id then Φ .normal s else Φ (.exit i) s
  | e, s => Φ e s

section
variable {K : Kn} {H1 : List Ob} {s : St} {Φ : Exit → St → Prop}

theorem Can.mono {c : Code} {Ψ : Exit → St → Prop} (h : Can K H1 c s Φ) (hi : ∀ e s', Φ e s' → Ψ e s') : Can K H1 c s Ψ :=
  fun B hB a w hs => wp_mono (h B hB a w hs) fun e a' w' ⟨s', h1, h2⟩ => ⟨s', hi _ _ h1, h2⟩

theorem can_skip (h : Φ .normal s) : Can K H1 .skip s Φ := fun B hB a w hs => wp_skip ⟨s, h, hs⟩
theorem can_ret (h : Φ .ret s) : Can K H1 .ret s Φ := fun B hB a w hs => wp_ret ⟨s, h, hs⟩
theorem can_exit {id : Nat} (h : Φ (.exit id) s) : Can K H1 (.exit id) s Φ := fun B hB a w hs => wp_exit ⟨s, h, hs⟩
theorem can_seq {c d : Code} (h : Can K H1 c s (thn (fun s' => Can K H1 d s' Φ) Φ)) : Can K H1 (.seq c d) s Φ := by
  intro B hB a w hs
  refine wp_seq (wp_mono (h B hB a w hs) fun e a' w' ⟨s', h1, h2⟩ => ?_)
  cases e with
  | normal => exact h1 B hB a' w' h2
  | _ => exact ⟨s', h1, h2⟩
theorem can_block {id : Nat} {c : Code} (h : Can K H1 c s (inB id Φ)) : Can K H1 (.block id c) s Φ := by
  intro B hB a w hs
  refine wp_block (wp_mono (h B hB a w hs) fun e a' w' ⟨s', h1, h2⟩ => ?_)
  cases e with
  | exit i =>
    simp only [inB, Exit.inBlock] at h1 ⊢
    split at h1
    · rename_i e; rw [if_pos e]; exact ⟨s', h1, h2⟩
    · rename_i e; rw [if_neg e]; exact ⟨s', h1, h2⟩
  | _ => exact ⟨s', h1, h2⟩
theorem can_cond {o : Operand} {x : Bool} {c d : Code} (ho : ev K.gv s.tm o = .c (.d (.b x))) (h : Can K H1 (if x then c else d) s Φ) : Can K H1 (.cond o c d) s Φ := by
  intro B hB a w hs
  obtain ⟨Z, β, hs'⟩ := hs
  have := rel_ev (G := ⟨K.P, B.w0, B.B0, K.gv, B.Z0⟩) hs'.mem hs'.tm o
  rw [show (⟨K.P, B.w0, B.B0, K.gv, B.Z0⟩ : Gl).gv = K.gv from rfl, ho] at this
  exact wp_cond (relD_b (relC_d (relT_c this))) (h B hB a w ⟨Z, β, hs'⟩)
theorem can_cond_split {o : Operand} {x : Bool} {c d : Code} (ho : ev K.gv s.tm o = .c (.d (.b x))) (h1 : x = true → Can K H1 c s Φ) (h2 : x = false → Can K H1 d s Φ) : Can K H1 (.cond o c d) s Φ := by
  cases x
  · exact can_cond ho (h2 rfl)
  · exact can_cond ho (h1 rfl)
theorem can_region {id : Nat} {ops : Array Oper} (hd : dstOk s.nt ops = true) (h : opsW K ops ops.toList s (Φ .normal)) : Can K H1 (.region id ops false) s Φ := by
  intro B hB a w hs
  refine wp_region_list (opsW_sound h hs (fun o ho k hk => ?_) fun s' a' w' h1 h2 => ⟨s', h1, h2⟩)
  have := Array.all_eq_true_iff_forall_mem.1 hd o (by simpa using ho)
  simp only [hk] at this
  simpa using this
/-- What may be forgotten, or told otherwise. -/
def Weak (K : Kn) (H1 : List Ob) (s s' : St) : Prop := ∀ B : Bs, B.H1 = H1 → ∀ a w, SimE K B a w s → SimE K B a w s'
theorem Weak.refl (s : St) : Weak K H1 s s := fun _ _ _ _ h => h
theorem Weak.trans {s' s'' : St} (h : Weak K H1 s s') (g : Weak K H1 s' s'') : Weak K H1 s s'' := fun B hB a w hs => g B hB a w (h B hB a w hs)
theorem can_weak {s' : St} {c : Code} (hw : Weak K H1 s s') (h : Can K H1 c s' Φ) : Can K H1 c s Φ := fun B hB a w hs => h B hB a w (hw B hB a w hs)
/-- A loop: an invariant that bears a number, which every round lowers. -/
theorem can_loop {c : Code} (I : Nat → St → Prop) (n : Nat) {s0 : St} (hw : Weak K H1 s s0) (h0 : I n s0)
    (hr : ∀ n s, I n s → Can K H1 c s (thn (fun s' => ∃ n' s'', n' < n ∧ Weak K H1 s' s'' ∧ I n' s'') Φ)) : Can K H1 (.loop c) s Φ := by
  intro B hB a w hs
  refine wp_loop_ghost (fun n a w => ∃ s, I n s ∧ SimE K B a w s) n ⟨s0, h0, hw B hB a w hs⟩ ?_
  rintro n a w ⟨s, hI, hs⟩
  refine wp_mono (hr n s hI B hB a w hs) fun e a' w' ⟨s', h1, h2⟩ => ?_
  cases e with
  | normal =>
    obtain ⟨n', s'', hn, hw, hI'⟩ := h1
    exact ⟨n', hn, s'', hI', hw B hB a' w' h2⟩
  | _ => exact ⟨s', h1, h2⟩
end

/-! ### What leads to objects below n alone -/
mutual
def closedC (n : Nat) : CV → Bool
  | .ref k _ => decide (k < n)
  | .rp k _ _ _ => decide (k < n)
  | .vs k _ => decide (k < n)
  | .mp k => decide (k < n)
  | .fn _ cap => closedCs n cap
  | _ => true
def closedCs (n : Nat) : List CV → Bool
  | [] => true
  | c :: cs => closedC n c && closedCs n cs
end
mutual
def closedT (n : Nat) : TV → Bool
  | .c x => closedC n x
  | .g xs => closedCs n xs
  | .t xs => closedTs n xs
def closedTs (n : Nat) : List TV → Bool
  | [] => true
  | t :: ts => closedT n t && closedTs n ts
end
def closedO (n : Nat) : Ob → Bool
  | .box _ cs => closedCs n cs
  | .mp es _ => closedTs n (es.map (·.2))
  | _ => true
def ClosedH (H : List Ob) : Prop := ∀ o ∈ H, closedO H.length o = true

theorem closedCs_iff (n : Nat) : ∀ (cs : List CV), closedCs n cs = true ↔ ∀ c ∈ cs, closedC n c = true
  | [] => by simp [closedCs]
  | c :: cs => by simp [closedCs, closedCs_iff n cs]
theorem closedTs_iff (n : Nat) : ∀ (cs : List TV), closedTs n cs = true ↔ ∀ c ∈ cs, closedT n c = true
  | [] => by simp [closedTs]
  | c :: cs => by simp [closedTs, closedTs_iff n cs]

section
variable {P : Program} {w : World} {Z : Zs} {β : Bl} {H J : List Ob}

theorem get_of_append {k : Nat} {o : Ob} (h : (H ++ J)[k]? = some o) (hk : k < H.length) : H[k]? = some o := by rwa [List.getElem?_append_left hk] at h

theorem RelC.drop {c : CV} {v : Value} (h : RelC P w Z β (H ++ J) c v) : closedC H.length c = true → RelC P w Z β H c v := by
  induction h with
  | d x v h => exact fun _ => .d _ _ h
  | ref k off b c hk hb =>
    intro hc
    obtain ⟨ty, cs, hk⟩ := hk
    exact .ref _ _ _ _ ⟨ty, cs, get_of_append hk (by simpa [closedC] using hc)⟩ hb
  | ep cs off ad h => exact fun _ => .ep _ _ _ h
  | rp k n i off A ty es fz hk hn h => exact fun hc => .rp _ _ _ _ _ _ _ _ (get_of_append hk (by simpa [closedC] using hc)) hn h
  | vs k n A l c ty es fz hk hn h => exact fun hc => .vs _ _ _ _ _ _ _ _ (get_of_append hk (by simpa [closedC] using hc)) hn h
  | fl es A h => exact fun _ => .fl _ _ h
  | nil => exact fun _ => .nil
  | fn f cap vs hl h ih =>
    intro hc
    refine .fn f cap vs hl fun i c v h1 h2 => ih i c v h1 h2 ?_
    rw [closedC, closedCs_iff] at hc
    obtain ⟨hi, rfl⟩ := List.getElem?_eq_some_iff.1 h1
    exact hc _ (List.getElem_mem hi)
  | mp k b c hk hb =>
    intro hc
    obtain ⟨es, fz, hk⟩ := hk
    exact .mp _ _ _ ⟨es, fz, get_of_append hk (by simpa [closedC] using hc)⟩ hb
  | k v => exact fun _ => .k v
  | any v => exact fun _ => .any v

theorem RelCs.drop {cs : List CV} {vs : List Value} (h : RelCs P w Z β (H ++ J) cs vs) (hc : closedCs H.length cs = true) : RelCs P w Z β H cs vs := by
  refine ⟨h.1, fun i c v h1 h2 => (h.2 i c v h1 h2).drop ?_⟩
  rw [closedCs_iff] at hc
  obtain ⟨hi, rfl⟩ := List.getElem?_eq_some_iff.1 h1
  exact hc _ (List.getElem_mem hi)

theorem RelT.drop {t : TV} {v : Value} (h : RelT P w Z β (H ++ J) t v) : closedT H.length t = true → RelT P w Z β H t v := by
  induction h with
  | c x v h => exact fun hc => .c _ _ (h.drop (by simpa [closedT] using hc))
  | g xs vs h => exact fun hc => .g _ _ (h.drop (by simpa [closedT] using hc))
  | t xs vs hl h ih =>
    intro hc
    refine .t xs vs hl fun i c v h1 h2 => ih i c v h1 h2 ?_
    rw [closedT, closedTs_iff] at hc
    obtain ⟨hi, rfl⟩ := List.getElem?_eq_some_iff.1 h1
    exact hc _ (List.getElem_mem hi)

theorem ObR.drop {k : Nat} {o : Ob} (h : ObR P w Z β (H ++ J) k o) (hc : closedO H.length o = true) : ObR P w Z β H k o := by
  cases o with
  | none => trivial
  | box ty cs =>
    obtain ⟨b, c, vs, h1, h2, h3, h4⟩ := h
    exact ⟨b, c, vs, h1, h2, h3.drop (by simpa [closedO] using hc), h4⟩
  | row => exact h
  | mp es fz =>
    obtain ⟨b, c, ents, clock, h1, h2, h3, h4, h5⟩ := h
    refine ⟨b, c, ents, clock, h1, h2, h3, fun i x e hx he => ⟨(h4 i x e hx he).1, (h4 i x e hx he).2.drop ?_⟩, h5⟩
    rw [closedO, closedTs_iff] at hc
    obtain ⟨hi, rfl⟩ := List.getElem?_eq_some_iff.1 hx
    exact hc _ (by simp; exact ⟨_, List.getElem_mem hi⟩)

theorem Mem.drop {G : Gl} (m : Mem G w Z β (H ++ J)) (hc : ClosedH H) : Mem G w Z β H := by
  have up : ∀ k o, H[k]? = some o → (H ++ J)[k]? = some o := fun k o h => by rw [List.getElem?_append_left (List.getElem?_eq_some_iff.1 h).1]; exact h
  have lu : ∀ k, live H k → live (H ++ J) k := fun k ⟨o, h1, h2⟩ => ⟨o, up k o h1, h2⟩
  refine ⟨m.below, m.b0, fun k o h => (m.obj k o (up k o h)).drop ?_, fun k b c hl h => m.pos k b c (lu k hl) h, fun k k' b c c' h1 h2 => m.inj k k' b c c' (lu k h1) (lu k' h2), m.zlt, m.zb, m.gl⟩
  obtain ⟨hi, rfl⟩ := List.getElem?_eq_some_iff.1 h
  exact hc _ (List.getElem_mem hi)

theorem RelC.closed {c : CV} {v : Value} (h : RelC P w Z β H c v) : closedC H.length c = true := by
  induction h with
  | ref k off b c hk hb => obtain ⟨ty, cs, hk⟩ := hk; simpa [closedC] using (List.getElem?_eq_some_iff.1 hk).1
  | rp k n i off A ty es fz hk hn h => simpa [closedC] using (List.getElem?_eq_some_iff.1 hk).1
  | vs k n A l c ty es fz hk hn h => simpa [closedC] using (List.getElem?_eq_some_iff.1 hk).1
  | fn f cap vs hl h ih =>
    rw [closedC, closedCs_iff]
    intro c hc
    obtain ⟨i, hi, rfl⟩ := List.mem_iff_getElem.1 hc
    exact ih i cap[i] vs[i] (by simp [hi]) (by simp)
  | mp k b c hk hb => obtain ⟨es, fz, hk⟩ := hk; simpa [closedC] using (List.getElem?_eq_some_iff.1 hk).1
  | _ => rfl
theorem RelCs.closed {cs : List CV} {vs : List Value} (h : RelCs P w Z β H cs vs) : closedCs H.length cs = true := by
  rw [closedCs_iff]
  intro c hc
  obtain ⟨i, hi, rfl⟩ := List.mem_iff_getElem.1 hc
  exact (h.2 i cs[i] (vs[i]'(by rw [← h.1]; exact hi)) (by simp [hi]) (by simp)).closed
theorem RelT.closed {t : TV} {v : Value} (h : RelT P w Z β H t v) : closedT H.length t = true := by
  induction h with
  | c x v h => exact h.closed
  | g xs vs h => exact h.closed
  | t xs vs hl h ih =>
    rw [closedT, closedTs_iff]
    intro c hc
    obtain ⟨i, hi, rfl⟩ := List.mem_iff_getElem.1 hc
    exact ih i xs[i] vs[i] (by simp [hi]) (by simp)
theorem Mem.closed {G : Gl} (m : Mem G w Z β H) : ClosedH H := by
  intro o ho
  obtain ⟨k, hk, rfl⟩ := List.mem_iff_getElem.1 ho
  have := m.obj k H[k] (by simp [hk])
  revert this
  cases H[k] with
  | box ty cs => rintro ⟨b, c, vs, h1, h2, h3, h4⟩; exact h3.closed
  | mp es fz =>
    rintro ⟨b, c, ents, clock, h1, h2, h3, h4, _⟩
    rw [closedO, closedTs_iff]
    intro t ht
    simp only [List.mem_map] at ht
    obtain ⟨x, hx, rfl⟩ := ht
    obtain ⟨i, hi, rfl⟩ := List.mem_iff_getElem.1 hx
    exact (h4 i es[i] (ents[i]'(by omega)) (by simp [hi]) (by simp)).2.closed
  | _ => intro _; rfl

/-- Objects at the end are dropped. -/
theorem Ext.drop {w1 : World} {Z1 : Zs} {β1 : Bl} {H1 : List Ob} (x : Ext w1 Z1 β1 H1 w Z β (H ++ J)) (hl : H1.length ≤ H.length) : Ext w1 Z1 β1 H1 w Z β H := by
  have dn : ∀ k o, k < H1.length → (H ++ J)[k]? = some o → H[k]? = some o := fun k o hk h => get_of_append h (by omega)
  refine ⟨hl, x.z, fun k hk => ?_, fun k hk => ?_, fun k ty es fz hk => ?_⟩
  · obtain ⟨⟨ty, cs, h1⟩, h2⟩ := x.box k hk
    obtain ⟨_, _, hk⟩ := hk
    exact ⟨⟨ty, cs, dn k _ (List.getElem?_eq_some_iff.1 hk).1 h1⟩, h2⟩
  · obtain ⟨⟨es, fz, h1⟩, h2⟩ := x.map k hk
    obtain ⟨_, _, hk⟩ := hk
    exact ⟨⟨es, fz, dn k _ (List.getElem?_eq_some_iff.1 hk).1 h1⟩, h2⟩
  · obtain ⟨es', fz', h1, h2⟩ := x.row k ty es fz hk
    exact ⟨es', fz', dn k _ (List.getElem?_eq_some_iff.1 hk).1 h1, h2⟩
end

section
variable {K : Kn} {H1 : List Ob}

/-- Some temporaries are forgotten, and objects at the end. -/
theorem weak_drop {s : St} {tm' : Nat → TV} {H J : List Ob} (hH : s.H = H ++ J) (hl : H1.length ≤ H.length) (hc : ClosedH H) (ht : ∀ i, tm' i = .c .any ∨ (tm' i = s.tm i ∧ closedT H.length (tm' i) = true)) :
    Weak K H1 s { tm := tm', H := H, nt := s.nt } := by
  rintro B rfl a w ⟨Z, β, hs⟩
  have hm := hs.mem
  have he := hs.ext
  have htm := hs.tm
  rw [hH] at hm he htm
  refine ⟨Z, β, hm.drop hc, hs.nt, hs.df, fun i => ?_, he.drop hl⟩
  rcases ht i with h | ⟨h1, h2⟩
  · rw [show ({ tm := tm', H := H, nt := s.nt } : St).tm i = .c .any from h]
    exact .c _ _ (.any _)
  · have := (htm i).drop (H := H) (J := J) (by rw [← h1]; exact h2)
    rw [show ({ tm := tm', H := H, nt := s.nt } : St).tm i = s.tm i from h1]
    exact this
theorem weak_forget {s : St} {tm' : Nat → TV} (ht : ∀ i, tm' i = .c .any ∨ tm' i = s.tm i) : Weak K H1 s { tm := tm', H := s.H, nt := s.nt } := by
  rintro B rfl a w ⟨Z, β, hs⟩
  refine ⟨Z, β, hs.mem, hs.nt, hs.df, fun i => ?_, hs.ext⟩
  rcases ht i with h | h
  · rw [show ({ tm := tm', H := s.H, nt := s.nt } : St).tm i = .c .any from h]
    exact .c _ _ (.any _)
  · rw [show ({ tm := tm', H := s.H, nt := s.nt } : St).tm i = s.tm i from h]
    exact hs.tm i
/-- A nil slice in a temporary is an owned row, with nothing in it. -/
theorem weak_own {s : St} (t ty : Nat) (h : s.tm t = .c .nil) : Weak K H1 s { tm := upd s.tm t (.c (.vs s.H.length 0)), H := s.H ++ [.row ty [] false], nt := s.nt } := by
  rintro B rfl a w ⟨Z, β, hs⟩
  have ho := hs.mem.own ty
  refine ⟨Z, _, ho.1, hs.nt, hs.df, fun i => ?_, hs.ext.trans ho.2⟩
  by_cases e : i = t
  · subst e
    have := hs.tm i
    rw [h] at this
    have hc := relT_c this
    generalize a.tmps.getD i undef = v at hc ⊢
    cases hc
    simp only [upd, if_true]
    exact .c _ _ (.vs _ _ none 0 0 ty [] false (by simp) (by simp) fun _ => .inl ⟨by simp [noB], rfl, rfl⟩)
  · simp only [upd, if_neg e]
    exact (hs.tm i).ext ho.2

/-! ### Functions -/
def resOne (P : Program) (s : St) : ResultVar → Option TV
  | .tmp t => some (s.tm t)
  | .cell x t => if (P.underlying t).isSome then loadF P s.H t (s.tm x) else none
def resT (P : Program) (s : St) (rs : List ResultVar) : Option TV := match rs with
  | [r] => resOne P s r
  | [] => some (.t [])
  | [r, r'] => match resOne P s r, resOne P s r' with | some a, some b => some (.t [a, b]) | _, _ => none
  | [r, r', r''] => match resOne P s r, resOne P s r', resOne P s r'' with | some a, some b, some c => some (.t [a, b, c]) | _, _, _ => none
  | _ => none

/-- What a result, and the objects, may be told as. -/
def WeakR (K : Kn) (H1 : List Ob) (H : List Ob) (t : TV) (H' : List Ob) (t' : TV) : Prop :=
  ∀ (w0 : World) (B0 : Nat) (Z0 : Zs) (w1 : World) (Z1 : Zs) (β1 : Bl) (w : World) (Z : Zs) (β : Bl) (r : Value), Mem ⟨K.P, w0, B0, K.gv, Z0⟩ w Z β H → RelT K.P w Z β H t r → Ext w1 Z1 β1 H1 w Z β H →
    ∃ Z' β', Mem ⟨K.P, w0, B0, K.gv, Z0⟩ w Z' β' H' ∧ RelT K.P w Z' β' H' t' r ∧ Ext w1 Z1 β1 H1 w Z' β' H'
theorem WeakR.refl (H : List Ob) (t : TV) : WeakR K H1 H t H t := fun _ _ _ _ _ _ _ Z β _ m r x => ⟨Z, β, m, r, x⟩
theorem WeakR.trans {H H' H'' : List Ob} {t t' t'' : TV} (h : WeakR K H1 H t H' t') (g : WeakR K H1 H' t' H'' t'') : WeakR K H1 H t H'' t'' := by
  intro w0 B0 Z0 w1 Z1 β1 w Z β r m hr x
  obtain ⟨Z', β', m', r', x'⟩ := h w0 B0 Z0 w1 Z1 β1 w Z β r m hr x
  exact g w0 B0 Z0 w1 Z1 β1 w Z' β' r m' r' x'
theorem weakR_frz (H : List Ob) (t : TV) : WeakR K H1 H t (frzTV H t).2 (frzTV H t).1 := by
  intro w0 B0 Z0 w1 Z1 β1 w Z β r m hr x
  obtain ⟨Z', m', x', r'⟩ := frzTV_sound m hr
  exact ⟨Z', β, m', r', x.trans x'⟩
theorem weakR_drop {H J : List Ob} {t : TV} (hl : H1.length ≤ H.length) (hc : ClosedH H) (ht : closedT H.length t = true) : WeakR K H1 (H ++ J) t H t :=
  fun w0 B0 Z0 w1 Z1 β1 w Z β r m hr x => ⟨Z, β, m.drop hc, hr.drop ht, x.drop hl⟩
/-- The result is plain data; the objects are those that were there. -/
theorem weakR_pure {H J : List Ob} {H2 : List Ob} {t t' : TV} (hf : frzTV H2 t = (t', H ++ J)) (hl : H1.length ≤ H.length) (hc : ClosedH H) (ht : closedT H.length t' = true) : WeakR K H1 H2 t H t' := by
  have := weakR_frz (K := K) (H1 := H1) H2 t
  rw [hf] at this
  exact this.trans (weakR_drop hl hc ht)

def resM (tmps : Array Value) : ResultVar → Sem Value
  | .tmp t => pure (tmps.getD t undef)
  | .cell x t => do loadVar t (← asAddr (tmps.getD x undef))
theorem results_eq (fn : Func) (tmps : Array Value) : results fn tmps = (do let vs ← fn.results.mapM (resM tmps); pure (if h : vs.size = 1 then vs[0] else .tuple vs)) := by
  unfold results
  congr 1

theorem res_sound {G : Gl} {a : Act} {w : World} {Z : Zs} {β : Bl} {s : St} {tv : TV} (m : Mem G w Z β s.H) (htm : ∀ i, RelT G.P w Z β s.H (s.tm i) (a.tmps.getD i undef)) {fn : Func} (h : resT G.P s fn.results.toList = some tv) :
    ∃ r, (results fn a.tmps).run G.P w = .ok r w ∧ RelT G.P w Z β s.H tv r := by
  have one : ∀ rv t, resOne G.P s rv = some t → ∃ r, (resM a.tmps rv).run G.P w = .ok r w ∧ RelT G.P w Z β s.H t r := by
    intro rv t hrv
    cases rv with
    | tmp k =>
      simp only [resOne, Option.some.injEq] at hrv
      subst hrv
      exact ⟨_, rfl, htm k⟩
    | cell x ty =>
      simp only [resOne] at hrv
      split at hrv
      · rename_i hu
        obtain ⟨r, h1, h2⟩ := load_sound m (htm x) hu hrv
        refine ⟨r, ?_, h2⟩
        simp only [Instr.loadAt] at h1
        show ((do loadVar ty (← asAddr (a.tmps.getD x undef)) : Sem Value)).run G.P w = _
        generalize a.tmps.getD x undef = v at h1 ⊢
        cases v with
        | pointer p => cases p with
          | some ad => simpa [Instr.sureAddr, asAddr] using h1
          | none => simp [Instr.sureAddr] at h1
        | _ => simp [Instr.sureAddr] at h1
      · cases hrv
  rw [results_eq]
  generalize hrs : fn.results = rs at h
  have hl : rs = rs.toList.toArray := by simp
  revert h
  rw [hl]
  generalize rs.toList = l
  intro h
  match l, h with
  | [], h =>
    simp [resT] at h
    subst h
    exact ⟨.tuple #[], by simp, .t [] [] rfl (by simp)⟩
  | [x], h =>
    obtain ⟨r, h1, h2⟩ := one x tv (by simpa [resT] using h)
    exact ⟨r, by simp; rw [h1], h2⟩
  | [x, y], h =>
    simp only [resT] at h
    split at h
    · rename_i t1 t2 e1 e2
      simp only [Option.some.injEq] at h
      subst h
      obtain ⟨r, h1, h2⟩ := one x t1 e1
      obtain ⟨r', h3, h4⟩ := one y t2 e2
      refine ⟨.tuple #[r, r'], by simp; rw [h1]; simp; rw [h3]; rfl, .t [t1, t2] [r, r'] rfl fun i c v hc hv => ?_⟩
      match i with
      | 0 => simp at hc hv; subst hc hv; exact h2
      | 1 => simp at hc hv; subst hc hv; exact h4
      | n + 2 => simp at hc
    · cases h
  | [x, y, z], h =>
    simp only [resT] at h
    split at h
    · rename_i t1 t2 t3 e1 e2 e3
      simp only [Option.some.injEq] at h
      subst h
      obtain ⟨r, h1, h2⟩ := one x t1 e1
      obtain ⟨r', h3, h4⟩ := one y t2 e2
      obtain ⟨r'', h5, h6⟩ := one z t3 e3
      refine ⟨.tuple #[r, r', r''], by simp; rw [h1]; simp; rw [h3]; simp; rw [h5]; rfl, .t [t1, t2, t3] [r, r', r''] rfl fun i c v hc hv => ?_⟩
      match i with
      | 0 => simp at hc hv; subst hc hv; exact h2
      | 1 => simp at hc hv; subst hc hv; exact h4
      | 2 => simp at hc hv; subst hc hv; exact h6
      | n + 3 => simp at hc
    · cases h
  | _ :: _ :: _ :: _ :: _, h => simp [resT] at h

/-- The frame when a function is entered. -/
def st0 (args : List TV) (H : List Ob) (nt : Nat) : St := { tm := fun i => (args[i]?).getD (.c .any), H := H, nt := nt }

def retP (K : Kn) (H1 : List Ob) (rs : List ResultVar) (Φ : TV → List Ob → Prop) : Exit → St → Prop
  | .normal, s | .ret, s => ∃ t t' H', resT K.P s rs = some t ∧ WeakR K H1 s.H t H' t' ∧ Φ t' H'
  | _, _ => False

theorem func_of_can {K : Kn} {f : FuncId} {fn : Func} {c : Code} {args : List TV} {H : List Ob} {Φ : TV → List Ob → Prop} (hf : K.P.funcs[f]? = some fn) (hb : fn.body = some c)
    (hn : (fn.name == "runtime.NumGoroutine") = false) (hnt : args.length ≤ fn.ntmps) (h : ClosedH H → Can K H c (st0 args H fn.ntmps) (retP K H fn.results.toList Φ)) : FunC K f args H Φ := by
  intro w0 B0 Z0 w Z β vs m hl hr
  refine .inl ⟨?_, ?_⟩
  · have hn' : ¬ fn.name = "runtime.NumGoroutine" := by simpa using hn
    simp [callFunc, hf, hn', hb]
  · refine calls_of_wp hf hb ?_
    have hsim : Sim K ⟨w0, B0, Z0, w, Z, β, H⟩ Z β { tmps := vs.toArray ++ Array.replicate (fn.ntmps - vs.toArray.size) undef, defers := [] } w (st0 args H fn.ntmps) := by
      refine ⟨m, by simp [st0]; omega, rfl, fun i => ?_, Ext.refl _ _ _ _⟩
      simp only [st0, Array.getD_eq_getD_getElem?]
      by_cases hi : i < args.length
      · have h1 : args[i]? = some args[i] := by simp [hi]
        have h2 : vs[i]? = some (vs[i]'(by omega)) := by simp [hl ▸ hi]
        have := hr i _ _ h1 h2
        rw [h1, Array.getElem?_append_left (by simp; omega)]
        simp [h2]
        exact this
      · rw [List.getElem?_eq_none (by omega)]
        exact .c _ _ (.any _)
    refine wp_mono (h m.closed ⟨w0, B0, Z0, w, Z, β, H⟩ rfl _ w ⟨Z, β, hsim⟩) ?_
    rintro e a' w' ⟨s', h1, Z', β', hs'⟩
    have key : (∃ t t' H', resT K.P s' fn.results.toList = some t ∧ WeakR K H s'.H t H' t' ∧ Φ t' H') → a'.defers = [] ∧ ∃ v, (results fn a'.tmps).run K.P w' = .ok v w' ∧
        ∃ r, (Ending.returned v) = .returned r ∧ ∃ tv H' Z' β', Φ tv H' ∧ Mem ⟨K.P, w0, B0, K.gv, Z0⟩ w' Z' β' H' ∧ RelT K.P w' Z' β' H' tv r ∧ Ext w Z β H w' Z' β' H' := by
      rintro ⟨t, t', H', h2, h3, h4⟩
      obtain ⟨r, g1, g2⟩ := res_sound (G := ⟨K.P, w0, B0, K.gv, Z0⟩) (a := a') hs'.mem hs'.tm h2
      obtain ⟨Z2, β2, m2, r2, x2⟩ := h3 w0 B0 Z0 w Z β w' Z' β' r hs'.mem g2 hs'.ext
      exact ⟨hs'.df, r, g1, r, rfl, t', H', Z2, β2, h4, m2, r2, x2⟩
    cases e with
    | normal => exact key h1
    | ret => exact key h1
    | _ => exact h1.elim
end
end Go.Proofs.Ythnnnnaifnddbaa
