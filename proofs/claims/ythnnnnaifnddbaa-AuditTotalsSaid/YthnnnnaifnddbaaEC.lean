/- A function that was called on data alone, and made objects: at any objects. -/
import Derived.Test.YthnnnnaifnddbaaE19
set_option linter.unusedVariables false
set_option linter.unusedSimpArgs false
namespace Go.Proofs.Ythnnnnaifnddbaa
open Go.RowKit (Below)
mutual
def shC (n : Nat) : CV → CV
  | .ref k o => .ref (n + k) o
  | .rp k a b c => .rp (n + k) a b c
  | .vs k a => .vs (n + k) a
  | .mp k => .mp (n + k)
  | .fn f c => .fn f (shCs n c)
  | c => c
def shCs (n : Nat) : List CV → List CV
  | [] => []
  | c :: cs => shC n c :: shCs n cs
end
mutual
def shT (n : Nat) : TV → TV
  | .c x => .c (shC n x)
  | .g xs => .g (shCs n xs)
  | .t xs => .t (shTs n xs)
def shTs (n : Nat) : List TV → List TV
  | [] => []
  | t :: ts => shT n t :: shTs n ts
end
def shO (n : Nat) : Ob → Ob
  | .none => .none
  | .box t cs => .box t (shCs n cs)
  | .row t es f => .row t es f
  | .mp es fz => .mp (es.map fun x => (x.1, shT n x.2)) fz
theorem shCs_map (n : Nat) : ∀ cs : List CV, shCs n cs = cs.map (shC n)
  | [] => rfl
  | c :: cs => by rw [shCs, shCs_map n cs, List.map_cons]
theorem shTs_map (n : Nat) : ∀ cs : List TV, shTs n cs = cs.map (shT n)
  | [] => rfl
  | c :: cs => by rw [shTs, shTs_map n cs, List.map_cons]

def joinB (n : Nat) (β β' : Bl) : Bl := fun k => if k < n then β k else β' (k - n)
theorem joinB_hi (n : Nat) (β β' : Bl) (k : Nat) : joinB n β β' (n + k) = β' k := by
  unfold joinB
  rw [if_neg (by omega)]
  congr 1; omega
theorem joinB_lo (n : Nat) (β β' : Bl) (k : Nat) (h : k < n) : joinB n β β' k = β k := by unfold joinB; rw [if_pos h]
section
variable {P : Program} {w : World} {Z : Zs} {β β' : Bl} {H J : List Ob}
theorem get_hi {k : Nat} {o : Ob} (h : J[k]? = some o) : (H ++ J.map (shO H.length))[H.length + k]? = some (shO H.length o) := by
  rw [app_get, List.getElem?_map, h]; rfl
theorem RelC.shift {c : CV} {v : Value} (h : RelC P w Z β' J c v) : RelC P w Z (joinB H.length β β') (H ++ J.map (shO H.length)) (shC H.length c) v := by
  induction h with
  | d x v h => exact .d x v h
  | ref k off b c hk hb =>
    obtain ⟨ty, cs, hk⟩ := hk
    exact .ref _ off b c ⟨ty, _, get_hi hk⟩ (by rw [joinB_hi]; exact hb)
  | ep cs off ad h => exact .ep cs off ad h
  | rp k n i off A ty es fz hk hn h =>
    exact .rp _ n i off A ty es fz (get_hi hk) hn (by rw [joinB_hi]; exact h)
  | vs k n A l c ty es fz hk hn h =>
    exact .vs _ n A l c ty es fz (get_hi hk) hn (by rw [joinB_hi]; exact h)
  | fl es A h => exact .fl es A h
  | nil => exact .nil
  | fn f cap vs hl h ih =>
    refine .fn f _ vs (by rw [shCs_map]; simpa using hl) fun i c v hc hv => ?_
    rw [shCs_map, List.getElem?_map, Option.map_eq_some_iff] at hc
    obtain ⟨c0, hc0, rfl⟩ := hc
    exact ih i c0 v hc0 hv
  | mp k b c hk hb =>
    obtain ⟨es, fz, hk⟩ := hk
    exact .mp _ b c ⟨_, fz, get_hi hk⟩ (by rw [joinB_hi]; exact hb)
  | k v => exact .k v
  | any v => exact .any v
theorem RelCs.shift {cs : List CV} {vs : List Value} (h : RelCs P w Z β' J cs vs) : RelCs P w Z (joinB H.length β β') (H ++ J.map (shO H.length)) (shCs H.length cs) vs := by
  refine ⟨by rw [shCs_map]; simpa using h.1, fun i c v hc hv => ?_⟩
  rw [shCs_map, List.getElem?_map, Option.map_eq_some_iff] at hc
  obtain ⟨c0, hc0, rfl⟩ := hc
  exact (h.2 i c0 v hc0 hv).shift
theorem RelT.shift {t : TV} {v : Value} (h : RelT P w Z β' J t v) : RelT P w Z (joinB H.length β β') (H ++ J.map (shO H.length)) (shT H.length t) v := by
  induction h with
  | c x v h => exact .c _ _ h.shift
  | g xs vs h => exact .g _ _ h.shift
  | t xs vs hl h ih =>
    refine .t _ vs (by rw [shTs_map]; simpa using hl) fun i t v ht hv => ?_
    rw [shTs_map, List.getElem?_map, Option.map_eq_some_iff] at ht
    obtain ⟨t0, ht0, rfl⟩ := ht
    exact ih i t0 v ht0 hv
end

theorem RelT.ofNil {P : Program} {w : World} {Z : Zs} {β : Bl} {H : List Ob} {t : TV} {v : Value} (h : RelT P w Z β H t v) (hc : closedT 0 t = true) : RelT P w Z β [] t v :=
  (show RelT P w Z β ([] ++ H) t v from h).drop hc
theorem FunC.shift {K : Kn} {g : FuncId} {args : List TV} {v : TV} {J : List Ob} (ha : closedTs 0 args = true) (h : FunC K g args [] fun t H' => t = v ∧ H' = J) (H : List Ob) :
    FunC K g args H fun t H' => t = shT H.length v ∧ H' = H ++ J.map (shO H.length) := by
  intro w0 B0 Z0 w Z β vs m hl hr
  have hr' : ∀ (i : Nat) t u, args[i]? = some t → vs[i]? = some u → RelT K.P w Z β [] t u := fun i t u h1 h2 => (hr i t u h1 h2).ofNil ((closedTs_iff 0 args).1 ha t (List.mem_of_getElem? h1))
  have key : ∀ (r : Value) (w' : World), (∃ tv H' Z' β', (tv = v ∧ H' = J) ∧ Mem ⟨K.P, w, w.heap.size, K.gv, Z⟩ w' Z' β' H' ∧ RelT K.P w' Z' β' H' tv r ∧ Ext w Z β [] w' Z' β' H') →
      ∃ tv H' Z' β', (tv = shT H.length v ∧ H' = H ++ J.map (shO H.length)) ∧ Mem ⟨K.P, w0, B0, K.gv, Z0⟩ w' Z' β' H' ∧ RelT K.P w' Z' β' H' tv r ∧ Ext w Z β H w' Z' β' H' := by
    rintro r w' ⟨_, _, Z', β', ⟨rfl, rfl⟩, m', r', x⟩
    rename_i J
    have hb := m'.below
    have hz : ∀ b o, b < w.heap.size → Z' b o → Z b o := fun b o hlt h => (m'.zb b o h).elim (fun h' => absurd hlt (Nat.not_lt.2 h')) id
    have hget : ∀ k o, H[k]? = some o → (H ++ J.map (shO H.length))[k]? = some o := fun k o h => by
      rw [List.getElem?_append_left (List.getElem?_eq_some_iff.1 h).1]; exact h
    have hlo : ∀ k o, H[k]? = some o → joinB H.length β β' k = β k := fun k o h => joinB_lo _ _ _ _ (List.getElem?_eq_some_iff.1 h).1
    have hx : Ext w Z β H w' Z' (joinB H.length β β') (H ++ J.map (shO H.length)) :=
      ⟨by simp, x.z, fun k ⟨ty, cs, h⟩ => ⟨⟨ty, cs, hget _ _ h⟩, hlo _ _ h⟩, fun k ⟨es, fz, h⟩ => ⟨⟨es, fz, hget _ _ h⟩, hlo _ _ h⟩, fun k ty es fz h => ⟨es, fz, hget _ _ h, Nat.le_refl _, fun _ => hlo _ _ h⟩⟩
    have hsplit : ∀ k o, (H ++ J.map (shO H.length))[k]? = some o → H[k]? = some o ∨ ∃ j o', k = H.length + j ∧ J[j]? = some o' ∧ o = shO H.length o' := by
      intro k o h
      by_cases hk : k < H.length
      · exact .inl (by rwa [List.getElem?_append_left hk] at h)
      · rw [List.getElem?_append_right (by omega), List.getElem?_map, Option.map_eq_some_iff] at h
        obtain ⟨o', h1, rfl⟩ := h
        exact .inr ⟨k - H.length, o', by omega, h1, rfl⟩
    have hne : ∀ o', shO H.length o' ≠ .none → o' ≠ .none := by rintro o' h rfl; exact h rfl
    refine ⟨_, _, Z', joinB H.length β β', ⟨rfl, rfl⟩, ⟨m.below.trans (hb.mono m.b0), Nat.le_trans m.b0 hb.size, fun k o h => ?_, fun k b c ⟨o, ho, hn⟩ h => ?_, fun i j b c c' ⟨o, ho, hn⟩ ⟨o', ho', hn'⟩ h1 h2 => ?_, m'.zlt, fun b o h => ?_, m'.gl⟩, r'.shift, hx⟩
    · rcases hsplit k o h with h | ⟨j, o', rfl, h1, rfl⟩
      · by_cases hn : o = .none
        · subst hn; trivial
        · exact (m.obj k o h).ext hx (hlo k o h) fun b c hbc => have hp := (m.pos k b c ⟨o, h, hn⟩ hbc).2; ⟨hb.block b hp, fun o => hz b o hp⟩
      · have ho := m'.obj j o' h1
        cases o' with
        | none => trivial
        | box ty cs =>
          obtain ⟨b, c, vs', q1, q2, q3, q4⟩ := ho
          exact ⟨b, c, vs', by rw [joinB_hi]; exact q1, q2, q3.shift, q4⟩
        | row ty es fz =>
          obtain ⟨q1, q2, q3, q4⟩ := ho
          exact ⟨q1, q2, by rw [joinB_hi]; exact q3, by rw [joinB_hi]; exact q4⟩
        | mp es fz =>
          obtain ⟨b, c, ents, clock, q1, q2, q3, q4, q5⟩ := ho
          refine ⟨b, c, ents, clock, by rw [joinB_hi]; exact q1, q2, by simpa using q3, fun i y e hy he => ?_, q5⟩
          rw [List.getElem?_map, Option.map_eq_some_iff] at hy
          obtain ⟨y0, hy0, rfl⟩ := hy
          exact ⟨(q4 i y0 e hy0 he).1, (q4 i y0 e hy0 he).2.shift⟩
    · rcases hsplit k o ho with h1 | ⟨j, o', rfl, h1, rfl⟩
      · rw [hlo k o h1] at h
        have := m.pos k b c ⟨o, h1, hn⟩ h
        exact ⟨this.1, Nat.lt_of_lt_of_le this.2 hb.size⟩
      · rw [joinB_hi] at h
        have := m'.pos j b c ⟨o', h1, hne _ hn⟩ h
        exact ⟨Nat.le_trans m.b0 this.1, this.2⟩
    · rcases hsplit i o ho with k1 | ⟨j1, o1, rfl, k1, rfl⟩ <;> rcases hsplit j o' ho' with k2 | ⟨j2, o2, rfl, k2, rfl⟩
      · rw [hlo _ _ k1] at h1; rw [hlo _ _ k2] at h2
        exact m.inj i j b c c' ⟨o, k1, hn⟩ ⟨o', k2, hn'⟩ h1 h2
      · rw [hlo _ _ k1] at h1; rw [joinB_hi] at h2
        have p1 := (m.pos i b c ⟨o, k1, hn⟩ h1).2
        have p2 := (m'.pos j2 b c' ⟨o2, k2, hne _ hn'⟩ h2).1
        have p2' : w.heap.size ≤ b := p2
        omega
      · rw [joinB_hi] at h1; rw [hlo _ _ k2] at h2
        have p1 : w.heap.size ≤ b := (m'.pos j1 b c ⟨o1, k1, hne _ hn⟩ h1).1
        have p2 := (m.pos j b c' ⟨o', k2, hn'⟩ h2).2
        omega
      · rw [joinB_hi] at h1 h2
        have := m'.inj j1 j2 b c c' ⟨o1, k1, hne _ hn⟩ ⟨o2, k2, hne _ hn'⟩ h1 h2
        rw [this]
    · rcases m'.zb b o h with h1 | h1
      · exact .inl (Nat.le_trans m.b0 h1)
      · exact m.zb b o h1
  rcases h w w.heap.size Z w Z β vs m.nil hl hr' with ⟨h1, h2⟩ | ⟨r, w', h1, h2⟩
  · exact .inl ⟨h1, h2.mono fun e w' ⟨r, he, hp⟩ => ⟨r, he, key r w' hp⟩⟩
  · exact .inr ⟨r, w', h1, key r w' h2⟩
/-- A function run without objects, whose result and objects are told as they are. -/
theorem own_of_can {K : Kn} {f : FuncId} {fn : Func} {c : Code} {args : List TV} {Ξ : TV → List Ob → Prop} (hf : K.P.funcs[f]? = some fn) (hb : fn.body = some c) {nt : Nat} {rs : List ResultVar} (hnt : fn.ntmps = nt) (hrs : fn.results.toList = rs)
    (hn : (fn.name == "runtime.NumGoroutine") = false) (hl : args.length ≤ nt)
    (h : ∀ Φ : Exit → St → Prop, (∀ (f' : Nat → TV) (H' : List Ob) (t : TV), resT K.P ⟨f', H', nt⟩ rs = some t → Ξ t H' → Φ .ret ⟨f', H', nt⟩ ∧ Φ .normal ⟨f', H', nt⟩) →
      Can K [] c ⟨ofL (argsL 0 args), [], nt⟩ (kon K [] [] Φ)) : FunC K f args [] Ξ := by
  subst hnt hrs
  refine func_of_can hf hb hn hl fun _ => ?_
  show Can K [] c ⟨fun i => (args[i]?).getD (.c .any), [], _⟩ _
  rw [args_ofL]
  refine h _ fun f' H' t h1 h2 => ?_
  have key : ∃ t t' H2, resT K.P ⟨f', H', fn.ntmps⟩ fn.results.toList = some t ∧ WeakR K [] H' t H2 t' ∧ Ξ t' H2 := ⟨t, t, H', h1, WeakR.refl _ _, h2⟩
  exact ⟨key, key⟩
theorem FunC.frz {K : Kn} {f : FuncId} {args : List TV} {H : List Ob} {v : TV} {J : List Ob} (h : FunC K f args H fun t H' => t = v ∧ H' = J) : FunC K f args H fun t H' => t = (frzTV J v).1 ∧ H' = (frzTV J v).2 := by
  intro w0 B0 Z0 w Z β vs m hl hr
  have key : ∀ (r : Value) (w' : World), (∃ tv H' Z' β', (tv = v ∧ H' = J) ∧ Mem ⟨K.P, w0, B0, K.gv, Z0⟩ w' Z' β' H' ∧ RelT K.P w' Z' β' H' tv r ∧ Ext w Z β H w' Z' β' H') →
      ∃ tv H' Z' β', (tv = (frzTV J v).1 ∧ H' = (frzTV J v).2) ∧ Mem ⟨K.P, w0, B0, K.gv, Z0⟩ w' Z' β' H' ∧ RelT K.P w' Z' β' H' tv r ∧ Ext w Z β H w' Z' β' H' := by
    rintro r w' ⟨_, _, Z', β', ⟨rfl, rfl⟩, m', r', x⟩
    obtain ⟨Z2, m2, x2, r2⟩ := frzTV_sound m' r'
    exact ⟨_, _, Z2, β', ⟨rfl, rfl⟩, m2, r2, x.trans x2⟩
  rcases h w0 B0 Z0 w Z β vs m hl hr with ⟨h1, h2⟩ | ⟨r, w', h1, h2⟩
  · exact .inl ⟨h1, h2.mono fun e w' ⟨r, he, hp⟩ => ⟨r, he, key r w' hp⟩⟩
  · exact .inr ⟨r, w', h1, key r w' h2⟩
/-- What is frozen and has left nothing behind is pure. -/
theorem pure_of_own {K : Kn} {f : FuncId} {args : List TV} {v v' : TV} {J J' : List Ob} (ha : closedTs 0 args = true) (h : FunC K f args [] fun t H' => t = v ∧ H' = J) (hf : frzTV J v = (v', J')) (hv : closedT 0 v' = true) : PureC K f args v' := by
  have h1 := h.frz
  rw [hf] at h1
  exact PureC.of_nil ha (FunC.dropJ (J := J') (H2 := []) (by simpa using h1) (by simp) (fun o ho => by simp at ho) hv)
theorem pure_of_row {K : Kn} {f : FuncId} {args : List TV} {ty : Nat} {es : List (List Dat)} {fz : Bool} (ha : closedTs 0 args = true) (h : FunC K f args [] fun t H' => t = .c (.vs 0 es.length) ∧ H' = [.row ty es fz]) : PureC K f args (tL es) :=
  pure_of_own ha h (J' := [.row ty es true]) (by simp [frzTV, frzT1, Go.Proofs.Ythnnnnaifnddbaa.frz]) rfl
end Go.Proofs.Ythnnnnaifnddbaa
