/- Single steps of memory: what they keep. -/
import Derived.Test.YthnnnnaifnddbaaE1
set_option linter.unusedVariables false
set_option linter.unusedSimpArgs false
namespace Go.Proofs.Ythnnnnaifnddbaa
open Go.RowKit (Below)

def setB (β : Bl) (k : Nat) (x : Nat × Nat) : Bl := fun j => if j = k then some x else β j
theorem setB_same (β : Bl) (k : Nat) (x : Nat × Nat) : setB β k x k = some x := by simp [setB]
theorem setB_ne (β : Bl) (k : Nat) (x : Nat × Nat) (j : Nat) (h : j ≠ k) : setB β k x j = β j := by simp [setB, h]
def noB (β : Bl) (k : Nat) : Bl := fun j => if j = k then none else β j

/-- Object k is (or becomes) ob; its block alone, and new blocks, may have turned. -/
theorem Mem.touch {G : Gl} {w w' : World} {Z Z' : Zs} {β β' : Bl} {H H' : List Ob} (m : Mem G w Z β H) (k : Nat) (ob : Ob)
    (hH : H' = H.set k ob ∧ k < H.length ∨ H' = H ++ [ob] ∧ k = H.length)
    (hos : w'.os = w.os) (htape : w'.tape = w.tape) (hout : w'.output = w.output) (hs : w.heap.size ≤ w'.heap.size)
    (hheap : ∀ i, i < w.heap.size → (∀ c, live H k → β k ≠ some (i, c)) → w'.heap[i]? = w.heap[i]?)
    (hZ : ∀ b o, Z b o → Z' b o ∧ w'.cell? ⟨b, o, none⟩ = w.cell? ⟨b, o, none⟩)
    (hZ' : ∀ b o, Z' b o → b < w'.heap.size ∧ (Z b o ∨ ∃ c, live H k ∧ β k = some (b, c)))
    (hβ : ∀ j, j ≠ k → β' j = β j)
    (hβk : ∀ b c, β' k = some (b, c) → b < w'.heap.size ∧ (w.heap.size ≤ b ∨ ∃ c0, live H k ∧ β k = some (b, c0)))
    (hold : ∀ o, H[k]? = some o → match o with
      | .none => True
      | .box _ _ => (∃ ty cs, ob = .box ty cs) ∧ β' k = β k
      | .mp _ _ => (∃ es fz, ob = .mp es fz) ∧ β' k = β k
      | .row ty es _ => ∃ es' fz', ob = .row ty es' fz' ∧ es.length ≤ es'.length ∧ (es'.length = es.length → β' k = β k))
    (hob : Ext w Z β H w' Z' β' H' → ObR G.P w' Z' β' H' k ob)
    (hmap : ∀ b c, live H k → β k = some (b, c) → ∀ o, Z b o → ∀ ents clock, w.heap[b]? = some (.map ents clock) → w'.heap[b]? = some (.map ents clock)) :
    Mem G w' Z' β' H' ∧ Ext w Z β H w' Z' β' H' := by
  have hget : ∀ j, j ≠ k → H'[j]? = H[j]? := by
    intro j hj
    rcases hH with ⟨rfl, hk⟩ | ⟨rfl, hk⟩
    · exact List.getElem?_set_ne (by omega)
    · rw [List.getElem?_append]
      split
      · rfl
      · rw [List.getElem?_eq_none (by simp; omega), List.getElem?_eq_none (by omega)]
  have hgk : H'[k]? = some ob := by
    rcases hH with ⟨rfl, hk⟩ | ⟨rfl, hk⟩
    · simp [List.getElem?_set_self hk]
    · simp [hk]
  have hlen : H.length ≤ H'.length := by
    rcases hH with ⟨rfl, hk⟩ | ⟨rfl, hk⟩ <;> simp
  have hx : Ext w Z β H w' Z' β' H' := by
    refine ⟨hlen, fun b o hz => ⟨(hZ b o hz).1, (hZ b o hz).2, fun ents clock he => ?_⟩, fun j hj => ?_, fun j hj => ?_, fun j ty es fz hj => ?_⟩
    · by_cases hb : ∃ c, live H k ∧ β k = some (b, c)
      · obtain ⟨c, hl, hc⟩ := hb
        exact hmap b c hl hc o hz ents clock he
      · rw [hheap b (m.zlt b o hz) fun c hl hc => hb ⟨c, hl, hc⟩]; exact he
    · by_cases e : j = k
      · subst e
        obtain ⟨ty, cs, hj⟩ := hj
        obtain ⟨⟨ty', cs', rfl⟩, hb⟩ := hold _ hj
        exact ⟨⟨ty', cs', hgk⟩, hb⟩
      · obtain ⟨ty, cs, hj⟩ := hj
        exact ⟨⟨ty, cs, (hget j e).trans hj⟩, hβ j e⟩
    · by_cases e : j = k
      · subst e
        obtain ⟨es, fz, hj⟩ := hj
        obtain ⟨⟨es', fz', rfl⟩, hb⟩ := hold _ hj
        exact ⟨⟨es', fz', hgk⟩, hb⟩
      · obtain ⟨es, fz, hj⟩ := hj
        exact ⟨⟨es, fz, (hget j e).trans hj⟩, hβ j e⟩
    · by_cases e : j = k
      · subst e
        obtain ⟨es', fz', rfl, h1, h2⟩ := hold _ hj
        exact ⟨es', fz', hgk, h1, h2⟩
      · exact ⟨es, fz, (hget j e).trans hj, Nat.le_refl _, fun _ => hβ j e⟩
  refine ⟨m.change hx k ?_ (fun b o h => (hZ' b o h).1) (fun b o h => (hZ' b o h).2.elim (m.zb b o) fun ⟨c, hl, hc⟩ => .inl (m.pos k b c hl hc).1) hs (fun j hj => ⟨hget j hj, hβ j hj⟩) ?_ ?_ ?_, hx⟩
  · refine m.below.trans ⟨hos, htape, hout, hs, fun i hi => hheap i (Nat.lt_of_lt_of_le hi m.b0) fun c hl hc => ?_⟩
    have := (m.pos k i c hl hc).1
    omega
  · intro j b c hj hl hb
    refine ⟨hheap b (m.pos j b c hl hb).2 fun c' hlk hc => hj (m.inj j k b c c' hl hlk hb hc), fun o hz => ?_⟩
    rcases (hZ' b o hz).2 with h | ⟨c', hlk, hc⟩
    · exact h
    · exact absurd (m.inj j k b c c' hl hlk hb hc) hj
  · intro o ho
    rw [hgk] at ho
    cases ho
    exact hob hx
  · intro b c hl hb
    obtain ⟨h1, h2⟩ := hβk b c hb
    rcases h2 with h2 | ⟨c0, hlk, hc⟩
    · refine ⟨Nat.le_trans m.b0 h2, h1, fun j c' hj hlj hbj => ?_⟩
      have := (m.pos j b c' hlj hbj).2
      omega
    · exact ⟨(m.pos k b c0 hlk hc).1, h1, fun j c' hj hlj hbj => hj (m.inj j k b c' c0 hlj hlk hbj hc)⟩

theorem not_live_end (H : List Ob) : ¬ live H H.length := fun ⟨o, h, _⟩ => by simp at h

/-- A draw. -/
theorem Mem.drew {G : Gl} {w : World} {Z : Zs} {β : Bl} {H : List Ob} (m : Mem G w Z β H) : Mem G w.drew Z β H ∧ Ext w Z β H w.drew Z β H := by
  have hx : Ext w Z β H w.drew Z β H := ⟨Nat.le_refl _, fun _ _ h => ⟨h, rfl, fun _ _ h => h⟩, fun _ h => ⟨h, rfl⟩, fun _ h => ⟨h, rfl⟩, fun _ _ es fz h => ⟨es, fz, h, Nat.le_refl _, fun _ => rfl⟩⟩
  exact ⟨⟨m.below.drew, m.b0, fun k o h => (m.obj k o h).ext hx rfl (fun _ _ _ => ⟨rfl, fun _ h => h⟩), m.pos, m.inj, m.zlt, m.zb, fun g cs h => (m.gl g cs h).ext hx⟩, hx⟩

theorem cell_alloc_lt {w : World} {b o : Nat} (ob : Obj) (h : b < w.heap.size) : (w.alloc ob).cell? ⟨b, o, none⟩ = w.cell? ⟨b, o, none⟩ := World.cell?_alloc_lt w ob _ h

/-- A new object in a new block. -/
theorem Mem.alloc {G : Gl} {w : World} {Z : Zs} {β : Bl} {H : List Ob} (m : Mem G w Z β H) (o : Obj) (ob : Ob) (c : Nat)
    (hob : Ext w Z β H (w.alloc o) Z (setB β H.length (w.heap.size, c)) (H ++ [ob]) → ObR G.P (w.alloc o) Z (setB β H.length (w.heap.size, c)) (H ++ [ob]) H.length ob) :
    Mem G (w.alloc o) Z (setB β H.length (w.heap.size, c)) (H ++ [ob]) ∧ Ext w Z β H (w.alloc o) Z (setB β H.length (w.heap.size, c)) (H ++ [ob]) := by
  refine m.touch H.length ob (.inr ⟨rfl, rfl⟩) rfl rfl rfl (by simp) (fun i hi _ => Below.heap_alloc w o i hi) (fun b o' h => ⟨h, cell_alloc_lt o (m.zlt b o' h)⟩)
    (fun b o' h => ⟨by have := m.zlt b o' h; simp; omega, .inl h⟩) (fun j hj => setB_ne _ _ _ _ hj) (fun b c' h => ?_) (fun o' h => by simp at h) hob (fun b c hl => absurd hl (not_live_end H))
  rw [setB_same] at h
  cases h
  exact ⟨by simp, .inl (Nat.le_refl _)⟩

/-- A new block that nobody will write, and that is no object. -/
theorem Mem.allocZ {G : Gl} {w : World} {Z : Zs} {β : Bl} {H : List Ob} (m : Mem G w Z β H) (o : Obj) (n : Nat) :
    Mem G (w.alloc o) (fun b i => Z b i ∨ (b = w.heap.size ∧ i < n)) β H ∧ Ext w Z β H (w.alloc o) (fun b i => Z b i ∨ (b = w.heap.size ∧ i < n)) β H := by
  have hx : Ext w Z β H (w.alloc o) (fun b i => Z b i ∨ (b = w.heap.size ∧ i < n)) β H :=
    ⟨Nat.le_refl _, fun b i h => ⟨.inl h, cell_alloc_lt o (m.zlt b i h), fun e c he => by rw [Below.heap_alloc _ _ _ (m.zlt b i h)]; exact he⟩, fun _ h => ⟨h, rfl⟩, fun _ h => ⟨h, rfl⟩, fun _ _ es fz h => ⟨es, fz, h, Nat.le_refl _, fun _ => rfl⟩⟩
  refine ⟨⟨m.below.alloc m.b0 o, by simp; have := m.b0; omega, fun k ob h => ?_, fun k b c hl h => ?_, m.inj, fun b i h => ?_, fun b i h => h.elim (m.zb b i) (fun h => .inl (h.1 ▸ m.b0)), fun g cs h => (m.gl g cs h).ext hx⟩, hx⟩
  · by_cases hn : ob = .none
    · subst hn; trivial
    · refine (m.obj k ob h).ext hx rfl fun b c hb => ?_
      have := (m.pos k b c ⟨ob, h, hn⟩ hb).2
      refine ⟨Below.heap_alloc _ _ _ this, fun i hz => ?_⟩
      rcases hz with hz | ⟨hz, _⟩
      · exact hz
      · omega
  · have := m.pos k b c hl h
    exact ⟨this.1, by simp; omega⟩
  · rcases h with h | ⟨rfl, _⟩
    · have := m.zlt b i h; simp; omega
    · simp

/-- A new ideal row over a nil slice: nothing turns. -/
theorem Mem.own {G : Gl} {w : World} {Z : Zs} {β : Bl} {H : List Ob} (m : Mem G w Z β H) (ty : TypeId) :
    Mem G w Z (noB β H.length) (H ++ [.row ty [] false]) ∧ Ext w Z β H w Z (noB β H.length) (H ++ [.row ty [] false]) := by
  refine m.touch H.length (.row ty [] false) (.inr ⟨rfl, rfl⟩) rfl rfl rfl (Nat.le_refl _) (fun i hi _ => rfl) (fun b o' h => ⟨h, rfl⟩)
    (fun b o' h => ⟨m.zlt b o' h, .inl h⟩) (fun j hj => by simp [noB, hj]) (fun b c' h => by simp [noB] at h) (fun o' h => by simp at h) (fun hx => ?_) (fun _ _ _ _ _ _ _ _ h => h)
  exact ⟨by simp, by simp, fun _ => rfl, fun b c h => by simp [noB] at h⟩


/-- In place of the cells from o on. -/
def splice {α : Type} (l : List α) (o : Nat) (xs : List α) : List α := l.take o ++ xs ++ l.drop (o + xs.length)
theorem splice_length {α : Type} (l : List α) (o : Nat) (xs : List α) (h : o + xs.length ≤ l.length) : (splice l o xs).length = l.length := by simp [splice]; omega
theorem splice_get {α : Type} (l : List α) (o : Nat) (xs : List α) (h : o + xs.length ≤ l.length) (i : Nat) :
    (splice l o xs)[i]? = if o ≤ i ∧ i < o + xs.length then xs[i - o]? else l[i]? := by
  unfold splice
  rw [List.append_assoc, List.getElem?_append, List.getElem?_append]
  simp only [List.length_take, Nat.min_eq_left (Nat.le_trans (Nat.le_add_right _ _) h)]
  by_cases h1 : i < o
  · rw [if_pos h1, if_neg (by omega), List.getElem?_take_of_lt h1]
  · rw [if_neg h1]
    by_cases h2 : i < o + xs.length
    · rw [if_pos (by omega), if_pos (by omega)]
    · rw [if_neg (by omega), if_neg (by omega), List.getElem?_drop]
      congr 1
      omega

theorem RelCs.splice {P : Program} {w : World} {Z : Zs} {β : Bl} {H : List Ob} {cs xs : List CV} {vs us : List Value} {o : Nat} (h : RelCs P w Z β H cs vs) (g : RelCs P w Z β H xs us)
    (ho : o + xs.length ≤ cs.length) : RelCs P w Z β H (splice cs o xs) (splice vs o us) := by
  have h1 := h.1
  have g1 := g.1
  refine ⟨by rw [splice_length _ _ _ ho, splice_length _ _ _ (by omega)]; exact h1, fun i c v hc hv => ?_⟩
  rw [splice_get _ _ _ ho] at hc
  rw [splice_get _ _ _ (by omega)] at hv
  rw [← g1] at hv
  split at hc
  · rename_i hh
    rw [if_pos hh] at hv
    exact g.2 _ c v hc hv
  · rename_i hh
    rw [if_neg hh] at hv
    exact h.2 _ c v hc hv

theorem cell_of_setRow_ne {w : World} {g b o : Nat} {cs : Array Value} (h : b ≠ g) : (w.setRow g cs).cell? ⟨b, o, none⟩ = w.cell? ⟨b, o, none⟩ := cell_setRow_other w g cs _ h

/-- Cells of a variable are written. -/
theorem Mem.boxSet {G : Gl} {w : World} {Z : Zs} {β : Bl} {H : List Ob} (m : Mem G w Z β H) {k : Nat} {ty : TypeId} {cs xs : List CV} {vs us : List Value} {b c o : Nat}
    (hk : H[k]? = some (.box ty cs)) (hb : β k = some (b, c)) (hh : w.heap[b]? = some (.cells vs.toArray ty (0, 0))) (hr : RelCs G.P w Z β H cs vs) (hz : ∀ o, ¬ Z b o)
    (hx : RelCs G.P w Z β H xs us) (ho : o + xs.length ≤ cs.length) :
    Mem G (w.setRow b (splice vs o us).toArray) Z β (H.set k (.box ty (splice cs o xs))) ∧ Ext w Z β H (w.setRow b (splice vs o us).toArray) Z β (H.set k (.box ty (splice cs o xs))) := by
  have hlt : k < H.length := (List.getElem?_eq_some_iff.1 hk).1
  have hl : live H k := ⟨_, hk, by simp⟩
  have hne : ∀ b' o', Z b' o' → b' ≠ b := fun b' o' h e => hz o' (e ▸ h)
  refine m.touch k _ (.inl ⟨rfl, hlt⟩) rfl rfl rfl (by simp) (fun i hi hn => setRow_other _ _ _ _ (fun e => hn c hl (e ▸ hb))) (fun b' o' h => ⟨h, cell_of_setRow_ne (hne b' o' h)⟩)
    (fun b' o' h => ⟨by simpa using m.zlt b' o' h, .inl h⟩) (fun _ _ => rfl) (fun b' c' h => ?_) (fun o' ho' => ?_) (fun hx' => ?_) (fun b' c' _ hb' _ _ e cl he => by rw [hb] at hb'; cases hb'; rw [hh] at he; cases he)
  · have := m.pos k b' c' hl h
    exact ⟨by simpa using this.2, .inr ⟨c', hl, h⟩⟩
  · rw [hk] at ho'; cases ho'
    exact ⟨⟨ty, _, rfl⟩, rfl⟩
  · exact ⟨b, c, _, hb, setRow_heap _ _ _ _ _ _ hh, (hr.ext hx').splice (hx.ext hx') ho, hz⟩

/-- Cells of an element of a row are written, which nobody else reads. -/
theorem Mem.rowSet {G : Gl} {w : World} {Z : Zs} {β : Bl} {H : List Ob} (m : Mem G w Z β H) {k : Nat} {ty : TypeId} {es : List (List Dat)} {e xs : List Dat} {us vs : List Value} {b c i o : Nat}
    (hk : H[k]? = some (.row ty es false)) (hb : β k = some (b, c)) (hh : w.heap[b]? = some (.cells vs.toArray ty (0, 0))) (he : es[i]? = some e) (hl : xs.length = us.length)
    (hx : ∀ (j : Nat) d u, xs[j]? = some d → us[j]? = some u → RelD w Z d u) (ho : o + xs.length ≤ e.length) :
    Mem G (w.setRow b (splice vs (i * szOf G.P ty + o) us).toArray) Z β (H.set k (.row ty (es.set i (splice e o xs)) false)) ∧
      Ext w Z β H (w.setRow b (splice vs (i * szOf G.P ty + o) us).toArray) Z β (H.set k (.row ty (es.set i (splice e o xs)) false)) := by
  have hlt : k < H.length := (List.getElem?_eq_some_iff.1 hk).1
  have hlv : live H k := ⟨_, hk, by simp⟩
  obtain ⟨r1, r2, r3, r4⟩ := m.obj k _ hk
  obtain ⟨vs', q1, q2, q3, q4, q5, q6⟩ := r4 b c hb
  have hvv : vs' = vs := by rw [hh] at q1; simpa using q1.symm
  subst hvv
  have hi : i < es.length := (List.getElem?_eq_some_iff.1 he).1
  have hel := r1 i e he
  have hz : ∀ o', ¬ Z b o' := fun o' h => by have := (q6 o' h).1; cases this
  have hne : ∀ b' o', Z b' o' → b' ≠ b := fun b' o' h e => hz o' (e ▸ h)
  have hfit : i * szOf G.P ty + o + us.length ≤ vs'.length := by
    have : (i + 1) * szOf G.P ty ≤ c * szOf G.P ty := Nat.mul_le_mul_right _ (by omega)
    rw [Nat.succ_mul] at this
    omega
  refine m.touch k _ (.inl ⟨rfl, hlt⟩) rfl rfl rfl (by simp) (fun i hi hn => setRow_other _ _ _ _ (fun e => hn c hlv (e ▸ hb))) (fun b' o' h => ⟨h, cell_of_setRow_ne (hne b' o' h)⟩)
    (fun b' o' h => ⟨by simpa using m.zlt b' o' h, .inl h⟩) (fun _ _ => rfl) (fun b' c' h => ?_) (fun o' ho' => ?_) (fun hx' => ?_) (fun b' c' _ hb' _ _ e cl he => by rw [hb] at hb'; cases hb'; rw [hh] at he; cases he)
  · have := m.pos k b' c' hlv h
    exact ⟨by simpa using this.2, .inr ⟨c', hlv, h⟩⟩
  · rw [hk] at ho'; cases ho'
    exact ⟨_, _, rfl, by simp, fun _ => rfl⟩
  · refine ⟨fun i' e' he' => ?_, by simpa using r2, fun hn => absurd hn (by rw [hb]; simp), fun b' c' hb' => ?_⟩
    · rw [List.getElem?_set] at he'
      split at he'
      · rename_i hii
        (try rw [if_pos hi] at he')
        cases he'
        rw [splice_length _ _ _ ho]; exact hel
      · exact r1 i' e' he'
    · rw [hb] at hb'; cases hb'
      refine ⟨_, setRow_heap _ _ _ _ _ _ hh, by rw [splice_length _ _ _ hfit]; exact q2, by simpa using q3, q4, fun i' e' he' j d hd => ?_, fun o' h => absurd h (hz o')⟩
      rw [splice_get _ _ _ hfit]
      have hjl : j < szOf G.P ty := by
        have hj := (List.getElem?_eq_some_iff.1 hd).1
        rw [List.getElem?_set] at he'
        split at he'
        · (try rw [if_pos hi] at he')
          cases he'; rw [splice_length _ _ _ ho] at hj; omega
        · have := r1 i' e' he'; omega
      rw [List.getElem?_set] at he'
      by_cases hii : i = i'
      · subst hii
        simp only [if_true, hi] at he'
        cases he'
        rw [splice_get _ _ _ ho] at hd
        by_cases hc : o ≤ j ∧ j < o + xs.length
        · rw [if_pos hc] at hd
          rw [if_pos (by omega), show i * szOf G.P ty + j - (i * szOf G.P ty + o) = j - o by omega]
          have : j - o < us.length := by omega
          exact ⟨us[j - o], by simp [this], (hx (j - o) d _ hd (by simp [this])).ext hx'⟩
        · rw [if_neg hc] at hd
          rw [if_neg (by omega)]
          obtain ⟨v, g1, g2⟩ := q5 i e he j d hd
          exact ⟨v, g1, g2.ext hx'⟩
      · rw [if_neg hii] at he'
        obtain ⟨v, g1, g2⟩ := q5 i' e' he' j d hd
        have : ¬ (i * szOf G.P ty + o ≤ i' * szOf G.P ty + j ∧ i' * szOf G.P ty + j < i * szOf G.P ty + o + us.length) := by
          intro hc
          rcases Nat.lt_or_gt_of_ne hii with h | h
          · have : (i + 1) * szOf G.P ty ≤ i' * szOf G.P ty := Nat.mul_le_mul_right _ h
            rw [Nat.succ_mul] at this
            omega
          · have : (i' + 1) * szOf G.P ty ≤ i * szOf G.P ty := Nat.mul_le_mul_right _ h
            rw [Nat.succ_mul] at this
            omega
        rw [if_neg this]
        exact ⟨v, g1, g2.ext hx'⟩

/-- A row's elements, as they now stand, are read by others from now on. -/
theorem Mem.freeze {G : Gl} {w : World} {Z : Zs} {β : Bl} {H : List Ob} (m : Mem G w Z β H) {k n : Nat} {ty : TypeId} {es : List (List Dat)} {fz : Bool} {v : Value}
    (hk : H[k]? = some (.row ty es fz)) (hn : es.length = n) (hv : RelC G.P w Z β H (.vs k n) v) :
    ∃ Z', Mem G w Z' β (H.set k (.row ty es true)) ∧ Ext w Z β H w Z' β (H.set k (.row ty es true)) ∧ RelD w Z' (.l es) v := by
  have hlt : k < H.length := (List.getElem?_eq_some_iff.1 hk).1
  have hlv : live H k := ⟨_, hk, by simp⟩
  obtain ⟨r1, r2, r3, r4⟩ := m.obj k _ hk
  cases hv with
  | vs _ _ A l c ty' es' fz' hk' hn' h =>
    rw [hk] at hk'; cases hk'
    rcases h hn with ⟨hb, rfl, rfl⟩ | ⟨b, hb, rfl, rfl⟩
    · obtain rfl := r3 hb
      have := m.touch (Z' := Z) (β' := β) (w' := w) k (.row ty [] true) (.inl ⟨rfl, hlt⟩) rfl rfl rfl (Nat.le_refl _) (fun _ _ _ => rfl) (fun b o h => ⟨h, rfl⟩) (fun b o h => ⟨m.zlt b o h, .inl h⟩) (fun _ _ => rfl)
        (fun b c h => by rw [hb] at h; cases h) (fun o ho => by rw [hk] at ho; cases ho; exact ⟨_, _, rfl, Nat.le_refl _, fun _ => rfl⟩)
        (fun _ => ⟨by simp, by simp, fun _ => rfl, fun b c h => by rw [hb] at h; cases h⟩) (fun _ _ _ _ _ _ _ _ h => h)
      refine ⟨Z, this.1, this.2, ?_⟩
      exact .l [] A 0 0 (fun _ _ => .nilFunc) (by simp) (by simp) (by simp) (by simp) (by simp) (by simp)
    · obtain ⟨vs, q1, q2, q3, q4, q5, q6⟩ := r4 b c hb
      have hZ : ∀ b' o', Z b' o' → (Z b' o' ∨ (b' = b ∧ o' < es.length * szOf G.P ty)) := fun b' o' h => .inl h
      have hbl := m.pos k b c hlv hb
      have := m.touch (Z' := fun b' o' => Z b' o' ∨ (b' = b ∧ o' < es.length * szOf G.P ty)) (β' := β) (w' := w) k (.row ty es true) (.inl ⟨rfl, hlt⟩) rfl rfl rfl (Nat.le_refl _) (fun _ _ _ => rfl)
        (fun b o h => ⟨.inl h, rfl⟩) (fun b' o h => by
          rcases h with h | ⟨rfl, h⟩
          · exact ⟨m.zlt b' o h, .inl h⟩
          · exact ⟨hbl.2, .inr ⟨c, hlv, hb⟩⟩) (fun _ _ => rfl)
        (fun b' c' h => ⟨(m.pos k b' c' hlv h).2, .inr ⟨c', hlv, h⟩⟩) (fun o ho => by rw [hk] at ho; cases ho; exact ⟨_, _, rfl, Nat.le_refl _, fun _ => rfl⟩)
        (fun hx => ⟨r1, r2, fun h => absurd h (by rw [hb]; simp), fun b' c' hb' => by
          rw [hb] at hb'; cases hb'
          refine ⟨vs, q1, q2, q3, q4, fun i e he j d hd => have ⟨v, g1, g2⟩ := q5 i e he j d hd; ⟨v, g1, g2.ext hx⟩, fun o h => ⟨rfl, ?_⟩⟩
          rcases h with h | ⟨_, h⟩
          · exact (q6 o h).2
          · exact h⟩) (fun _ _ _ _ _ _ _ _ h => h)
      refine ⟨_, this.1, this.2, ?_⟩
      subst hn
      refine .l es _ c (szOf G.P ty) (fun i j => vs.getD (i * szOf G.P ty + j) .nilFunc) r2 q3 r1 (fun _ => ⟨_, rfl⟩) (fun ad ha i hi j hj => ?_) (fun i e he j d hd => ?_)
      · cases ha
        have hlen : i * szOf G.P ty + j < es.length * szOf G.P ty := by
          have : (i + 1) * szOf G.P ty ≤ es.length * szOf G.P ty := Nat.mul_le_mul_right _ hi
          rw [Nat.succ_mul] at this
          omega
        have hlen2 : i * szOf G.P ty + j < vs.length := by
          have : es.length * szOf G.P ty ≤ c * szOf G.P ty := Nat.mul_le_mul_right _ q3
          omega
        have hadd : (⟨b, 0, none⟩ : Addr).add (i * szOf G.P ty + j) = ⟨b, i * szOf G.P ty + j, none⟩ := by
          unfold Addr.add; split <;> simp_all
        rw [hadd]
        refine ⟨?_, .inr ⟨rfl, hlen⟩⟩
        rw [cell_of_row w b _ _ _ _ q1]
        simp [List.getD, hlen2]
      · obtain ⟨v, g1, g2⟩ := q5 i e he j d hd
        simp only [List.getD, g1, Option.getD_some]
        exact g2.ext this.2


/-- The values of a map, if they are plain. -/
def plainV : List (Dat × TV) → Option (List Dat)
  | [] => some []
  | (_, .c (.d x)) :: r => match plainV r with
    | some l => some (x :: l)
    | none => none
  | _ => none
theorem plainV_spec : ∀ {es : List (Dat × TV)} {vs : List Dat}, plainV es = some vs → vs.length = es.length ∧ ∀ (i : Nat) e d, es[i]? = some e → vs[i]? = some d → e.2 = .c (.d d)
  | [], vs, h => by simp [plainV] at h; subst h; simp
  | (k, t) :: es, vs, h => by
    unfold plainV at h
    split at h
    · rename_i heq; simp at heq
    · rename_i k' x r heq
      simp only [List.cons.injEq, Prod.mk.injEq] at heq
      obtain ⟨⟨rfl, rfl⟩, rfl⟩ := heq
      split at h
      · rename_i l hl
        cases h
        obtain ⟨g1, g2⟩ := plainV_spec hl
        refine ⟨by simp [g1], fun i e d he hd => ?_⟩
        cases i with
        | zero => simp at he hd; subst he hd; rfl
        | succ i => exact g2 i e d (by simpa using he) (by simpa using hd)
      · cases h
    · cases h

/-- A map, as it now stands, is read by others from now on. -/
theorem Mem.freezeMap {G : Gl} {w : World} {Z : Zs} {β : Bl} {H : List Ob} (m : Mem G w Z β H) {k : Nat} {es : List (Dat × TV)} {fz : Bool} {vs : List Dat} {v : Value}
    (hk : H[k]? = some (.mp es fz)) (hp : plainV es = some vs) (hv : RelC G.P w Z β H (.mp k) v) :
    ∃ Z', Mem G w Z' β (H.set k (.mp es true)) ∧ Ext w Z β H w Z' β (H.set k (.mp es true)) ∧ RelD w Z' (.m (es.map (·.1)) vs) v := by
  have hlt : k < H.length := (List.getElem?_eq_some_iff.1 hk).1
  have hlv : live H k := ⟨_, hk, by simp⟩
  obtain ⟨b, c, ents, clock, h1, h2, h3, h4, h5⟩ := m.obj k _ hk
  obtain ⟨p1, p2⟩ := plainV_spec hp
  have hbl := m.pos k b c hlv h1
  have := m.touch (Z' := fun b' o' => Z b' o' ∨ (b' = b ∧ o' = 0)) (β' := β) (w' := w) k (.mp es true) (.inl ⟨rfl, hlt⟩) rfl rfl rfl (Nat.le_refl _) (fun _ _ _ => rfl)
    (fun b o h => ⟨.inl h, rfl⟩) (fun b' o h => by
      rcases h with h | ⟨rfl, h⟩
      · exact ⟨m.zlt b' o h, .inl h⟩
      · exact ⟨hbl.2, .inr ⟨c, hlv, h1⟩⟩) (fun _ _ => rfl)
    (fun b' c' h => ⟨(m.pos k b' c' hlv h).2, .inr ⟨c', hlv, h⟩⟩) (fun o ho => by rw [hk] at ho; cases ho; exact ⟨⟨_, _, rfl⟩, rfl⟩)
    (fun hx => ⟨b, c, ents, clock, h1, h2, h3, fun i x e hx' he => ⟨(h4 i x e hx' he).1.ext hx, (h4 i x e hx' he).2.ext hx⟩, fun _ _ => rfl⟩) (fun _ _ _ _ _ _ _ _ h => h)
  refine ⟨_, this.1, this.2, ?_⟩
  cases hv with
  | mp _ b' c' hkm hb =>
  rw [h1] at hb
  cases hb
  refine .m _ vs b ents clock (fun i => (ents[i]?.map (·.key)).getD undef) (fun i => (ents[i]?.map (·.val)).getD undef) (by simpa using p1) (by simpa using h3) h2 (.inr ⟨rfl, rfl⟩) (fun i e he => by simp [he]) (fun i d hd => ?_) (fun i d hd => ?_)
  · rw [List.getElem?_map, Option.map_eq_some_iff] at hd
    obtain ⟨x, hx, rfl⟩ := hd
    have hi : i < ents.size := by rw [h3]; exact (List.getElem?_eq_some_iff.1 hx).1
    have he : ents[i]? = some ents[i] := by simp [hi]
    simp only [he, Option.map_some, Option.getD_some]
    exact (h4 i x _ hx he).1.ext this.2
  · have hi : i < es.length := by rw [← p1]; exact (List.getElem?_eq_some_iff.1 hd).1
    have he : ents[i]? = some (ents[i]'(by omega)) := by simp
    have hx : es[i]? = some es[i] := by simp [hi]
    have hr := (h4 i _ _ hx he).2
    rw [p2 i _ d hx hd] at hr
    simp only [he, Option.map_some, Option.getD_some]
    cases hr with
    | c _ _ hr => cases hr with
      | d _ _ hr => exact hr.ext this.2

theorem lt_mul_of {i n sz j : Nat} (h : i < n) (hj : j < sz) : i * sz + j < n * sz := by
  have : (i + 1) * sz ≤ n * sz := Nat.mul_le_mul_right _ h
  rw [Nat.succ_mul] at this
  omega

/-- Elements of two lists, one behind the other, in one row of cells. -/
theorem cells_append {w : World} {Z : Zs} {es ys : List (List Dat)} {sz : Nat} {xs news tail : List Value} (h1 : ∀ (i : Nat) e, es[i]? = some e → e.length = sz)
    (h2 : ∀ (i : Nat) e, ys[i]? = some e → e.length = sz) (hx : xs.length = es.length * sz) (hn : news.length = ys.length * sz)
    (q1 : ∀ (i : Nat) e, es[i]? = some e → ∀ (j : Nat) d, e[j]? = some d → ∃ v, xs[i * sz + j]? = some v ∧ RelD w Z d v)
    (q2 : ∀ (i : Nat) e, ys[i]? = some e → ∀ (j : Nat) d, e[j]? = some d → ∃ v, news[i * sz + j]? = some v ∧ RelD w Z d v) :
    (∀ (i : Nat) e, (es ++ ys)[i]? = some e → e.length = sz) ∧
      ∀ (i : Nat) e, (es ++ ys)[i]? = some e → ∀ (j : Nat) d, e[j]? = some d → ∃ v, (xs ++ news ++ tail)[i * sz + j]? = some v ∧ RelD w Z d v := by
  refine ⟨fun i e he => ?_, fun i e he j d hd => ?_⟩
  · rw [List.getElem?_append] at he
    split at he
    · exact h1 _ e he
    · exact h2 _ e he
  · rw [List.getElem?_append] at he
    split at he
    · rename_i hi
      have hj : j < sz := by have := h1 i e he; have := (List.getElem?_eq_some_iff.1 hd).1; omega
      have := lt_mul_of hi hj
      obtain ⟨v, g1, g2⟩ := q1 i e he j d hd
      exact ⟨v, by rw [List.append_assoc, List.getElem?_append_left (by omega)]; exact g1, g2⟩
    · rename_i hi
      have hy := (List.getElem?_eq_some_iff.1 he).1
      have hj : j < sz := by have := h2 _ e he; have := (List.getElem?_eq_some_iff.1 hd).1; omega
      have := lt_mul_of hy hj
      obtain ⟨v, g1, g2⟩ := q2 _ e he j d hd
      have hsub : i * sz = es.length * sz + (i - es.length) * sz := by rw [← Nat.add_mul]; congr 1; omega
      refine ⟨v, ?_, g2⟩
      rw [List.append_assoc, List.getElem?_append_right (by omega), List.getElem?_append_left (by omega), ← g1]
      congr 1
      omega

/-- An append within the capacity. -/
theorem Mem.rowRoom {G : Gl} {w : World} {Z : Zs} {β : Bl} {H : List Ob} (m : Mem G w Z β H) {k b c : Nat} {ty : TypeId} {es ys : List (List Dat)} {fz : Bool} {vs news : List Value}
    (hk : H[k]? = some (.row ty es fz)) (hb : β k = some (b, c)) (hh : w.heap[b]? = some (.cells vs.toArray ty (0, 0)))
    (hy : ∀ (i : Nat) e, ys[i]? = some e → e.length = szOf G.P ty) (hnl : news.length = ys.length * szOf G.P ty)
    (hnew : ∀ (i : Nat) e, ys[i]? = some e → ∀ (j : Nat) d, e[j]? = some d → ∃ u, news[i * szOf G.P ty + j]? = some u ∧ RelD w Z d u)
    (hlen : es.length + ys.length ≤ 140737488355328) (hroom : es.length + ys.length ≤ c) :
    Mem G (w.setRow b (splice vs (es.length * szOf G.P ty) news).toArray) Z β (H.set k (.row ty (es ++ ys) fz)) ∧
      Ext w Z β H (w.setRow b (splice vs (es.length * szOf G.P ty) news).toArray) Z β (H.set k (.row ty (es ++ ys) fz)) := by
  have hlt : k < H.length := (List.getElem?_eq_some_iff.1 hk).1
  have hlv : live H k := ⟨_, hk, by simp⟩
  obtain ⟨r1, r2, r3, r4⟩ := m.obj k _ hk
  obtain ⟨vs', q1, q2, q3, q4, q5, q6⟩ := r4 b c hb
  have hvv : vs' = vs := by rw [hh] at q1; simpa using q1.symm
  subst hvv
  have hmul : (es.length + ys.length) * szOf G.P ty ≤ c * szOf G.P ty := Nat.mul_le_mul_right _ hroom
  rw [Nat.add_mul] at hmul
  have hfit : es.length * szOf G.P ty + news.length ≤ vs'.length := by omega
  have htake : ∀ o, o < es.length * szOf G.P ty → (splice vs' (es.length * szOf G.P ty) news)[o]? = vs'[o]? := fun o ho => by
    rw [splice_get _ _ _ hfit, if_neg (by omega)]
  refine m.touch k _ (.inl ⟨rfl, hlt⟩) rfl rfl rfl (by simp) (fun i hi hn => setRow_other _ _ _ _ (fun e => hn c hlv (e ▸ hb))) (fun b' o' h => ⟨h, ?_⟩)
    (fun b' o' h => ⟨by simpa using m.zlt b' o' h, .inl h⟩) (fun _ _ => rfl) (fun b' c' h => ?_) (fun o' ho' => ?_) (fun hx' => ?_) (fun b' c' _ hb' _ _ e cl he => by rw [hb] at hb'; cases hb'; rw [hh] at he; cases he)
  · by_cases e : b' = b
    · subst e
      rw [cell_setRow_same _ _ _ _ _ _ _ hh, cell_of_row w _ _ _ _ _ hh]
      simpa using htake o' (q6 o' h).2
    · exact cell_of_setRow_ne e
  · have := m.pos k b' c' hlv h
    exact ⟨by simpa using this.2, .inr ⟨c', hlv, h⟩⟩
  · rw [hk] at ho'; cases ho'
    exact ⟨_, _, rfl, by simp, fun _ => rfl⟩
  · have hca := cells_append (tail := vs'.drop (es.length * szOf G.P ty + news.length)) (xs := vs'.take (es.length * szOf G.P ty)) r1 hy (by simp; omega) hnl
      (fun i e he j d hd => by
        obtain ⟨v, g1, g2⟩ := q5 i e he j d hd
        have hj : j < szOf G.P ty := by have := r1 i e he; have := (List.getElem?_eq_some_iff.1 hd).1; omega
        exact ⟨v, by rw [List.getElem?_take_of_lt (lt_mul_of (List.getElem?_eq_some_iff.1 he).1 hj)]; exact g1, g2.ext hx'⟩)
      (fun i e he j d hd => by
        obtain ⟨v, g1, g2⟩ := hnew i e he j d hd
        exact ⟨v, g1, g2.ext hx'⟩)
    refine ⟨hca.1, by simpa using hlen, fun hn => absurd hn (by rw [hb]; simp), fun b' c' hb' => ?_⟩
    rw [hb] at hb'; cases hb'
    refine ⟨_, setRow_heap _ _ _ _ _ _ hh, by rw [splice_length _ _ _ hfit]; exact q2, by simpa using hroom, q4, hca.2, fun o h => ?_⟩
    have := q6 o h
    refine ⟨this.1, ?_⟩
    have := this.2
    rw [List.length_append, Nat.add_mul]
    omega

/-- An append into a new block. -/
theorem Mem.rowNew {G : Gl} {w : World} {Z : Zs} {β : Bl} {H : List Ob} (m : Mem G w Z β H) {k c : Nat} {ty : TypeId} {es ys : List (List Dat)} {fz : Bool} {olds news rest : List Value}
    (hk : H[k]? = some (.row ty es fz)) (hy : ∀ (i : Nat) e, ys[i]? = some e → e.length = szOf G.P ty) (hnl : news.length = ys.length * szOf G.P ty) (hol : olds.length = es.length * szOf G.P ty)
    (hold : ∀ (i : Nat) e, es[i]? = some e → ∀ (j : Nat) d, e[j]? = some d → ∃ u, olds[i * szOf G.P ty + j]? = some u ∧ RelD w Z d u)
    (hnew : ∀ (i : Nat) e, ys[i]? = some e → ∀ (j : Nat) d, e[j]? = some d → ∃ u, news[i * szOf G.P ty + j]? = some u ∧ RelD w Z d u)
    (hlen : es.length + ys.length ≤ 140737488355328) (hcap : es.length + ys.length ≤ c) (hc63 : c ≤ 9223372036854775807)
    (hcl : (olds ++ news ++ rest).length = c * szOf G.P ty) (hpos : 0 < ys.length) :
    Mem G (w.alloc (.cells (olds ++ news ++ rest).toArray ty)) Z (setB β k (w.heap.size, c)) (H.set k (.row ty (es ++ ys) fz)) ∧
      Ext w Z β H (w.alloc (.cells (olds ++ news ++ rest).toArray ty)) Z (setB β k (w.heap.size, c)) (H.set k (.row ty (es ++ ys) fz)) := by
  have hlt : k < H.length := (List.getElem?_eq_some_iff.1 hk).1
  have hlv : live H k := ⟨_, hk, by simp⟩
  obtain ⟨r1, r2, r3, r4⟩ := m.obj k _ hk
  refine m.touch k _ (.inl ⟨rfl, hlt⟩) rfl rfl rfl (by simp) (fun i hi hn => Below.heap_alloc _ _ _ hi) (fun b' o' h => ⟨h, cell_alloc_lt _ (m.zlt b' o' h)⟩)
    (fun b' o' h => ⟨by have := m.zlt b' o' h; simp; omega, .inl h⟩) (fun j hj => setB_ne _ _ _ _ hj) (fun b' c' h => ?_) (fun o' ho' => ?_) (fun hx' => ?_) (fun b' c' hl' hb' _ _ e cl he => by rw [Below.heap_alloc _ _ _ (m.pos k b' c' hl' hb').2]; exact he)
  · rw [setB_same] at h; cases h
    exact ⟨by simp, .inl (Nat.le_refl _)⟩
  · rw [hk] at ho'; cases ho'
    exact ⟨_, _, rfl, by simp, fun h => by rw [List.length_append] at h; omega⟩
  · have hca := cells_append (tail := rest) r1 hy hol hnl
      (fun i e he j d hd => by
        obtain ⟨v, g1, g2⟩ := hold i e he j d hd
        exact ⟨v, g1, g2.ext hx'⟩)
      (fun i e he j d hd => by
        obtain ⟨v, g1, g2⟩ := hnew i e he j d hd
        exact ⟨v, g1, g2.ext hx'⟩)
    refine ⟨hca.1, by simpa using hlen, fun hn => absurd hn (by rw [setB_same]; simp), fun b' c' hb' => ?_⟩
    rw [setB_same] at hb'; cases hb'
    refine ⟨_, heap_alloc_new w _, hcl, by simpa using hcap, hc63, hca.2, fun o h => ?_⟩
    have := m.zlt _ _ h
    omega
end Go.Proofs.Ythnnnnaifnddbaa
