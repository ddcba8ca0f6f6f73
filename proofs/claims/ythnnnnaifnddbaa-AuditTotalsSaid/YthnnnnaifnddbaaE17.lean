/- What data that stands in memory is like: lists and strings are not too long. -/
import Derived.Test.YthnnnnaifnddbaaE16
import Derived.IntWalk
set_option linter.unusedVariables false
set_option linter.unusedSimpArgs false
namespace Go.Proofs.Ythnnnnaifnddbaa

inductive Fit : Dat → Prop
  | b (x : Bool) : Fit (.b x)
  | i (k : IntKind) (n : Int) : Fit (.i k n)
  | s (x : ByteArray) (h : x.size ≤ 140737488355328) : Fit (.s x)
  | l (es : List (List Dat)) (hn : es.length ≤ 140737488355328) (hr : ∀ e ∈ es, ∀ d ∈ e, Fit d) : Fit (.l es)
  | m (ks vs : List Dat) (hk : ∀ d ∈ ks, Fit d) (hv : ∀ d ∈ vs, Fit d) : Fit (.m ks vs)
theorem RelD.fit {w : World} {Z : Zs} {d : Dat} {v : Value} (h : RelD w Z d v) : Fit d := by
  induction h with
  | b y => exact .b y
  | i k n => exact .i k n
  | s y h => exact .s y h
  | l es A c sz g hn hc hsz hA hcell hrel ih =>
    refine .l es hn fun e he d hd => ?_
    obtain ⟨i, hi, rfl⟩ := List.mem_iff_getElem.1 he
    obtain ⟨j, hj, rfl⟩ := List.mem_iff_getElem.1 hd
    exact ih i _ (List.getElem?_eq_getElem hi) j _ (List.getElem?_eq_getElem hj)
  | m ks vs b ents clock fk fv hl hs hh hz he hk hv ihk ihv =>
    refine .m ks vs (fun d hd => ?_) (fun d hd => ?_)
    · obtain ⟨i, hi, rfl⟩ := List.mem_iff_getElem.1 hd
      exact ihk i _ (List.getElem?_eq_getElem hi)
    · obtain ⟨i, hi, rfl⟩ := List.mem_iff_getElem.1 hd
      exact ihv i _ (List.getElem?_eq_getElem hi)
def fitT : TV → Prop
  | .c (.d x) => Fit x
  | .g xs => ∀ d, CV.d d ∈ xs → Fit d
  | _ => True
theorem RelT.fit {P : Program} {w : World} {Z : Zs} {β : Bl} {H : List Ob} {t : TV} {v : Value} (h : RelT P w Z β H t v) : fitT t := by
  cases h with
  | c x v h =>
    cases x with
    | d y => exact (relC_d h).fit
    | _ => trivial
  | g xs vs h =>
    intro d hd
    obtain ⟨i, hi, e⟩ := List.mem_iff_getElem.1 hd
    have hi' : i < vs.length := h.1 ▸ hi
    have := h.2 i xs[i] vs[i] (by simp [hi]) (by simp [hi'])
    rw [e] at this
    exact (relC_d this).fit
  | t => trivial
theorem FunC.fit {K : Kn} {f : FuncId} {args : List TV} {H : List Ob} {Φ : TV → List Ob → Prop} (h : (∀ t ∈ args, fitT t) → FunC K f args H Φ) : FunC K f args H Φ := by
  intro w0 B0 Z0 w Z β vs m hl hr
  refine h (fun t ht => ?_) w0 B0 Z0 w Z β vs m hl hr
  obtain ⟨i, hi, rfl⟩ := List.mem_iff_getElem.1 ht
  have hi' : i < vs.length := hl ▸ hi
  exact (hr i args[i] vs[i] (by simp [hi]) (by simp [hi'])).fit
theorem PureC.fit {K : Kn} {f : FuncId} {args : List TV} {v : TV} (h : (∀ t ∈ args, fitT t) → PureC K f args v) : PureC K f args v :=
  fun H => .fit fun hf => h hf H

def Fits (ds : List Dat) : Prop := ∀ d ∈ ds, Fit d
theorem fit_tG {ds : List Dat} (h : fitT (tG ds)) : Fits ds := fun d hd => h d (by simpa [tG] using hd)
theorem Fit.list {es : List (List Dat)} (h : Fit (.l es)) : es.length ≤ 140737488355328 ∧ ∀ e ∈ es, Fits e := by
  cases h with
  | l _ hn hr => exact ⟨hn, hr⟩
theorem Fit.str {x : ByteArray} (h : Fit (.s x)) : x.size ≤ 140737488355328 := by
  cases h; assumption
theorem Ty.fit_kids {t : Ty} (h : Fits t.enc) : t.kids.length ≤ 140737488355328 ∧ ∀ k ∈ t.kids, Fits k.enc := by
  have := (h (.l (t.kids.map Ty.enc)) (by rw [Ty.enc_eq]; simp)).list
  exact ⟨by simpa using this.1, fun k hk => this.2 _ (List.mem_map_of_mem hk)⟩
theorem Ty.fit_labels {t : Ty} (h : Fits t.enc) : t.labels.length ≤ 140737488355328 := by
  have := (h (dSs t.labels) (by rw [Ty.enc_eq]; simp)).list
  simpa using this.1
theorem Pr.fit_kids {t : Pr} (h : Fits t.enc) : t.kids.length ≤ 140737488355328 ∧ ∀ k ∈ t.kids, Fits k.enc := by
  have := (h (.l (t.kids.map Pr.enc)) (by rw [Pr.enc_eq]; simp)).list
  exact ⟨by simpa using this.1, fun k hk => this.2 _ (List.mem_map_of_mem hk)⟩
theorem Pr.fit_t {t : Pr} (h : Fits t.enc) : Fits t.t.enc := fun d hd => h d (by rw [Pr.enc]; simp [hd])
theorem Pr.fit_args {t : Pr} (h : Fits t.enc) : t.args.length ≤ 140737488355328 := by
  have := (h (.l (t.args.map Vl.enc)) (by rw [Pr.enc_eq]; simp)).list
  simpa using this.1
theorem Pr.fit_labels {t : Pr} (h : Fits t.enc) : t.labels.length ≤ 140737488355328 := by
  have := (h (dSs t.labels) (by rw [Pr.enc_eq]; simp)).list
  simpa using this.1
theorem Df.fit_params {d : Df} (h : Fits d.enc) : d.params.length ≤ 140737488355328 ∧ ∀ k ∈ d.params, Fits k.enc := by
  have := (h (.l (d.params.map Pm.enc)) (by rw [Df.enc]; simp)).list
  exact ⟨by simpa using this.1, fun k hk => this.2 _ (List.mem_map_of_mem hk)⟩
theorem Df.fit_body {d : Df} (h : Fits d.enc) : Fits d.body.enc := fun x hx => h x (by rw [Df.enc]; simp [hx])
theorem Pm.fit_t {d : Pm} (h : Fits d.enc) : Fits d.t.enc := fun x hx => h x (by rw [Pm.enc]; simp [hx])
theorem Pg.fit_defs {p : Pg} (h : Fits p.enc) : p.defs.length ≤ 140737488355328 ∧ ∀ k ∈ p.defs, Fits k.enc := by
  have := (h (.l (p.defs.map Df.enc)) (by rw [Pg.enc]; simp)).list
  exact ⟨by simpa using this.1, fun k hk => this.2 _ (List.mem_map_of_mem hk)⟩
theorem Pg.fit_main {p : Pg} (h : Fits p.enc) : Fits p.main.enc := fun x hx => h x (by rw [Pg.enc]; simp [hx])

theorem closed_tG (n : Nat) (ds : List Dat) : closedT n (tG ds) = true := by
  simp only [tG, closedT, closedCs_iff]; simp [closedC]
theorem closed_map (n : Nat) (ds : List Dat) : closedCs n (ds.map .d) = true := by
  simp only [closedCs_iff]; simp [closedC]
theorem wrap64 {n : Int} (h1 : -9223372036854775808 ≤ n) (h2 : n ≤ 9223372036854775807) : IntKind.wrap .i64 n = n := by
  rw [IntKind.wrap_i64]; omega
end Go.Proofs.Ythnnnnaifnddbaa
