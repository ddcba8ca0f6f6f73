/- Reading of what structs hold. Written by genE18.py. -/
import Derived.Test.YthnnnnaifnddbaaE17
set_option linter.unusedVariables false
set_option linter.unusedSimpArgs false
namespace Go.Proofs.Ythnnnnaifnddbaa
theorem okC_map (ds : List Dat) : (List.map CV.d ds).all okC = true := by simp [okC]
theorem cellsT_tG (ds : List Dat) : cellsT (tG ds) = some (ds.map .d) := by simp only [tG, cellsT, okC_map, if_true]
theorem cellsT_c (d : Dat) : cellsT (.c (.d d)) = some [.d d] := rfl
theorem cellsT_k (x : CV) : cellsT (.c x) = if okC x then some [x] else none := rfl
theorem cellsT_g (xs : List CV) : cellsT (.g xs) = if xs.all okC then some xs else none := rfl
theorem frzTV_nil (H : List Ob) : frzTV H (.c .nil) = (.c (.d (.l [])), H) := rfl
theorem frzTV_fl (H : List Ob) (es : List (List Dat)) : frzTV H (.c (.fl es)) = (.c (.d (.l es)), H) := rfl
theorem frzTV_vs (H : List Ob) (k n : Nat) : frzTV H (.c (.vs k n)) = match frz H (.vs k n) with | some (d, H1) => (.c (.d d), H1) | none => (.c (.vs k n), H) := rfl
theorem frzTV_ref (H : List Ob) (k n : Nat) : frzTV H (.c (.ref k n)) = (.c (.ref k n), H) := rfl
theorem frzTV_ep (H : List Ob) (cs : List Dat) (n : Nat) : frzTV H (.c (.ep cs n)) = (.c (.ep cs n), H) := rfl
theorem frzTV_fn (H : List Ob) (g : Nat) (cs : List CV) : frzTV H (.c (.fn g cs)) = (.c (.fn g cs), H) := rfl
theorem frzTV_k (H : List Ob) (v : Value) : frzTV H (.c (.k v)) = (.c (.k v), H) := rfl
theorem frzTV_g (H : List Ob) (xs : List CV) : frzTV H (.g xs) = match frzs H xs with | some (ds, H1) => (tG ds, H1) | none => (.g xs, H) := rfl
theorem pureTV_d (d : Dat) : pureTV (.c (.d d)) = some (.c (.d d)) := rfl
theorem pureTV_nil : pureTV (.c .nil) = some (.c (.d (.l []))) := rfl
theorem pureTV_fl (es : List (List Dat)) : pureTV (.c (.fl es)) = some (.c (.d (.l es))) := rfl
theorem pureTV_ref (k n : Nat) : pureTV (.c (.ref k n)) = some (.c (.ref k n)) := rfl
theorem pureTV_fn (g : Nat) (cs : List CV) : pureTV (.c (.fn g cs)) = some (.c (.fn g cs)) := rfl
theorem pureTV_g (xs : List CV) : pureTV (.g xs) = if xs.all noVs then some (match frzs [] xs with | some (ds, _) => .g (ds.map .d) | none => .g xs) else none := rfl
theorem boxF_tG (H : List Ob) (t : TypeId) (ds : List Dat) : boxF H t (tG ds) = some (.c (.ref H.length 0), H ++ [.box t (ds.map .d)]) := by simp only [boxF, cellsT_tG]
theorem frzs_map (H : List Ob) : ∀ ds : List Dat, frzs H (ds.map .d) = some (ds, H)
  | [] => rfl
  | d :: ds => by simp only [List.map_cons, frzs, frz, frzs_map H ds]
theorem frzTV_tG (H : List Ob) (ds : List Dat) : frzTV H (tG ds) = (tG ds, H) := by simp only [tG, frzTV, frzT1, frzs_map]
theorem noVs_map (ds : List Dat) : (ds.map CV.d).all noVs = true := by simp [noVs]
theorem pureTV_tG (ds : List Dat) : pureTV (tG ds) = some (tG ds) := by simp only [tG, pureTV, noVs_map, if_true, frzs_map]
theorem g_map (ds : List Dat) : TV.g (List.map CV.d ds) = tG ds := rfl
theorem frzTV_d (H : List Ob) (d : Dat) : frzTV H (.c (.d d)) = (.c (.d d), H) := rfl
theorem datOf_map : ∀ ds : List Dat, (ds.map CV.d).mapM datOf = some ds
  | [] => rfl
  | d :: ds => by simp [List.mapM_cons, datOf, datOf_map ds]
theorem closedL_tG (n : Nat) (ds : List Dat) : closedT n (tG ds) = true := closed_tG n ds
theorem Pr.enc_t (x : Pr) : x.t.enc = [dI x.t.kind, dI x.t.prio, dS x.t.name, dI x.t.shift, dSs x.t.labels, .l (x.t.kids.map Ty.enc)] := Ty.enc_eq _
theorem Pm.enc_eq (x : Pm) : x.enc = [dS x.name, dI x.t.kind, dI x.t.prio, dS x.t.name, dI x.t.shift, dSs x.t.labels, .l (x.t.kids.map Ty.enc)] := by rw [Pm.enc, Ty.enc_eq]
theorem Df.enc_eq (x : Df) : x.enc = [dS x.name, .l (x.params.map Pm.enc), dI x.body.kind, dS x.body.chan, dS x.body.var, dSs x.body.labels, .l (x.body.args.map Vl.enc), dI x.body.t.kind, dI x.body.t.prio, dS x.body.t.name, dI x.body.t.shift, dSs x.body.t.labels, .l (x.body.t.kids.map Ty.enc), .l (x.body.kids.map Pr.enc)] := by rw [Df.enc, Pr.enc_eq]; rfl
theorem Pg.enc_eq (x : Pg) : x.enc = [.l (x.defs.map Df.enc), dI x.main.kind, dS x.main.chan, dS x.main.var, dSs x.main.labels, .l (x.main.args.map Vl.enc), dI x.main.t.kind, dI x.main.t.prio, dS x.main.t.name, dI x.main.t.shift, dSs x.main.t.labels, .l (x.main.t.kids.map Ty.enc), .l (x.main.kids.map Pr.enc)] := by rw [Pg.enc, Pr.enc_eq]
theorem Vl.enc_eq (x : Vl) : x.enc = [dI x.kind, dS x.name, dI x.n] := rfl
theorem Ty.at0 (x : Ty) : List.take 1 (List.drop 0 x.enc) = [dI x.kind] := by rw [Ty.enc_eq]; rfl
theorem Ty.mt0 (x : Ty) : List.take 1 (List.drop 0 (List.map CV.d x.enc)) = [.d (dI x.kind)] := by rw [Ty.enc_eq]; rfl
theorem Ty.at1 (x : Ty) : List.take 1 (List.drop 1 x.enc) = [dI x.prio] := by rw [Ty.enc_eq]; rfl
theorem Ty.mt1 (x : Ty) : List.take 1 (List.drop 1 (List.map CV.d x.enc)) = [.d (dI x.prio)] := by rw [Ty.enc_eq]; rfl
theorem Ty.at2 (x : Ty) : List.take 1 (List.drop 2 x.enc) = [dS x.name] := by rw [Ty.enc_eq]; rfl
theorem Ty.mt2 (x : Ty) : List.take 1 (List.drop 2 (List.map CV.d x.enc)) = [.d (dS x.name)] := by rw [Ty.enc_eq]; rfl
theorem Ty.at3 (x : Ty) : List.take 1 (List.drop 3 x.enc) = [dI x.shift] := by rw [Ty.enc_eq]; rfl
theorem Ty.mt3 (x : Ty) : List.take 1 (List.drop 3 (List.map CV.d x.enc)) = [.d (dI x.shift)] := by rw [Ty.enc_eq]; rfl
theorem Ty.at4 (x : Ty) : List.take 1 (List.drop 4 x.enc) = [dSs x.labels] := by rw [Ty.enc_eq]; rfl
theorem Ty.mt4 (x : Ty) : List.take 1 (List.drop 4 (List.map CV.d x.enc)) = [.d (dSs x.labels)] := by rw [Ty.enc_eq]; rfl
theorem Ty.at5 (x : Ty) : List.take 1 (List.drop 5 x.enc) = [.l (x.kids.map Ty.enc)] := by rw [Ty.enc_eq]; rfl
theorem Ty.mt5 (x : Ty) : List.take 1 (List.drop 5 (List.map CV.d x.enc)) = [.d (.l (x.kids.map Ty.enc))] := by rw [Ty.enc_eq]; rfl
theorem Ty.all (x : Ty) : List.take 6 x.enc = x.enc := by rw [Ty.enc_eq]; rfl
theorem Ty.mall (x : Ty) : List.take 6 (List.map CV.d x.enc) = List.map CV.d x.enc := by rw [Ty.enc_eq]; rfl
theorem Ty.one (x : Ty) : List.take 1 x.enc = [dI x.kind] := by rw [Ty.enc_eq]; rfl
theorem Ty.mone (x : Ty) : List.take 1 (List.map CV.d x.enc) = [.d (dI x.kind)] := by rw [Ty.enc_eq]; rfl
theorem Vl.at0 (x : Vl) : List.take 1 (List.drop 0 x.enc) = [dI x.kind] := by rw [Vl.enc_eq]; rfl
theorem Vl.mt0 (x : Vl) : List.take 1 (List.drop 0 (List.map CV.d x.enc)) = [.d (dI x.kind)] := by rw [Vl.enc_eq]; rfl
theorem Vl.at1 (x : Vl) : List.take 1 (List.drop 1 x.enc) = [dS x.name] := by rw [Vl.enc_eq]; rfl
theorem Vl.mt1 (x : Vl) : List.take 1 (List.drop 1 (List.map CV.d x.enc)) = [.d (dS x.name)] := by rw [Vl.enc_eq]; rfl
theorem Vl.at2 (x : Vl) : List.take 1 (List.drop 2 x.enc) = [dI x.n] := by rw [Vl.enc_eq]; rfl
theorem Vl.mt2 (x : Vl) : List.take 1 (List.drop 2 (List.map CV.d x.enc)) = [.d (dI x.n)] := by rw [Vl.enc_eq]; rfl
theorem Vl.all (x : Vl) : List.take 3 x.enc = x.enc := by rw [Vl.enc_eq]; rfl
theorem Vl.mall (x : Vl) : List.take 3 (List.map CV.d x.enc) = List.map CV.d x.enc := by rw [Vl.enc_eq]; rfl
theorem Vl.one (x : Vl) : List.take 1 x.enc = [dI x.kind] := by rw [Vl.enc_eq]; rfl
theorem Vl.mone (x : Vl) : List.take 1 (List.map CV.d x.enc) = [.d (dI x.kind)] := by rw [Vl.enc_eq]; rfl
theorem Pr.at0 (x : Pr) : List.take 1 (List.drop 0 x.enc) = [dI x.kind] := by rw [Pr.enc_eq]; rfl
theorem Pr.mt0 (x : Pr) : List.take 1 (List.drop 0 (List.map CV.d x.enc)) = [.d (dI x.kind)] := by rw [Pr.enc_eq]; rfl
theorem Pr.at1 (x : Pr) : List.take 1 (List.drop 1 x.enc) = [dS x.chan] := by rw [Pr.enc_eq]; rfl
theorem Pr.mt1 (x : Pr) : List.take 1 (List.drop 1 (List.map CV.d x.enc)) = [.d (dS x.chan)] := by rw [Pr.enc_eq]; rfl
theorem Pr.at2 (x : Pr) : List.take 1 (List.drop 2 x.enc) = [dS x.var] := by rw [Pr.enc_eq]; rfl
theorem Pr.mt2 (x : Pr) : List.take 1 (List.drop 2 (List.map CV.d x.enc)) = [.d (dS x.var)] := by rw [Pr.enc_eq]; rfl
theorem Pr.at3 (x : Pr) : List.take 1 (List.drop 3 x.enc) = [dSs x.labels] := by rw [Pr.enc_eq]; rfl
theorem Pr.mt3 (x : Pr) : List.take 1 (List.drop 3 (List.map CV.d x.enc)) = [.d (dSs x.labels)] := by rw [Pr.enc_eq]; rfl
theorem Pr.at4 (x : Pr) : List.take 1 (List.drop 4 x.enc) = [.l (x.args.map Vl.enc)] := by rw [Pr.enc_eq]; rfl
theorem Pr.mt4 (x : Pr) : List.take 1 (List.drop 4 (List.map CV.d x.enc)) = [.d (.l (x.args.map Vl.enc))] := by rw [Pr.enc_eq]; rfl
theorem Pr.at5 (x : Pr) : List.take 1 (List.drop 5 x.enc) = [dI x.t.kind] := by rw [Pr.enc_eq]; rfl
theorem Pr.mt5 (x : Pr) : List.take 1 (List.drop 5 (List.map CV.d x.enc)) = [.d (dI x.t.kind)] := by rw [Pr.enc_eq]; rfl
theorem Pr.at6 (x : Pr) : List.take 1 (List.drop 6 x.enc) = [dI x.t.prio] := by rw [Pr.enc_eq]; rfl
theorem Pr.mt6 (x : Pr) : List.take 1 (List.drop 6 (List.map CV.d x.enc)) = [.d (dI x.t.prio)] := by rw [Pr.enc_eq]; rfl
theorem Pr.at7 (x : Pr) : List.take 1 (List.drop 7 x.enc) = [dS x.t.name] := by rw [Pr.enc_eq]; rfl
theorem Pr.mt7 (x : Pr) : List.take 1 (List.drop 7 (List.map CV.d x.enc)) = [.d (dS x.t.name)] := by rw [Pr.enc_eq]; rfl
theorem Pr.at8 (x : Pr) : List.take 1 (List.drop 8 x.enc) = [dI x.t.shift] := by rw [Pr.enc_eq]; rfl
theorem Pr.mt8 (x : Pr) : List.take 1 (List.drop 8 (List.map CV.d x.enc)) = [.d (dI x.t.shift)] := by rw [Pr.enc_eq]; rfl
theorem Pr.at9 (x : Pr) : List.take 1 (List.drop 9 x.enc) = [dSs x.t.labels] := by rw [Pr.enc_eq]; rfl
theorem Pr.mt9 (x : Pr) : List.take 1 (List.drop 9 (List.map CV.d x.enc)) = [.d (dSs x.t.labels)] := by rw [Pr.enc_eq]; rfl
theorem Pr.at10 (x : Pr) : List.take 1 (List.drop 10 x.enc) = [.l (x.t.kids.map Ty.enc)] := by rw [Pr.enc_eq]; rfl
theorem Pr.mt10 (x : Pr) : List.take 1 (List.drop 10 (List.map CV.d x.enc)) = [.d (.l (x.t.kids.map Ty.enc))] := by rw [Pr.enc_eq]; rfl
theorem Pr.at11 (x : Pr) : List.take 1 (List.drop 11 x.enc) = [.l (x.kids.map Pr.enc)] := by rw [Pr.enc_eq]; rfl
theorem Pr.mt11 (x : Pr) : List.take 1 (List.drop 11 (List.map CV.d x.enc)) = [.d (.l (x.kids.map Pr.enc))] := by rw [Pr.enc_eq]; rfl
theorem Pr.all (x : Pr) : List.take 12 x.enc = x.enc := by rw [Pr.enc_eq]; rfl
theorem Pr.mall (x : Pr) : List.take 12 (List.map CV.d x.enc) = List.map CV.d x.enc := by rw [Pr.enc_eq]; rfl
theorem Pr.one (x : Pr) : List.take 1 x.enc = [dI x.kind] := by rw [Pr.enc_eq]; rfl
theorem Pr.mone (x : Pr) : List.take 1 (List.map CV.d x.enc) = [.d (dI x.kind)] := by rw [Pr.enc_eq]; rfl
theorem Pr.sp5 (x : Pr) : List.take 6 (List.drop 5 x.enc) = x.t.enc := by rw [Pr.enc_eq, Ty.enc_eq]; rfl
theorem Pr.msp5 (x : Pr) : List.take 6 (List.drop 5 (List.map CV.d x.enc)) = List.map CV.d x.t.enc := by rw [Pr.enc_eq, Ty.enc_eq]; rfl
theorem Pm.at0 (x : Pm) : List.take 1 (List.drop 0 x.enc) = [dS x.name] := by rw [Pm.enc_eq]; rfl
theorem Pm.mt0 (x : Pm) : List.take 1 (List.drop 0 (List.map CV.d x.enc)) = [.d (dS x.name)] := by rw [Pm.enc_eq]; rfl
theorem Pm.at1 (x : Pm) : List.take 1 (List.drop 1 x.enc) = [dI x.t.kind] := by rw [Pm.enc_eq]; rfl
theorem Pm.mt1 (x : Pm) : List.take 1 (List.drop 1 (List.map CV.d x.enc)) = [.d (dI x.t.kind)] := by rw [Pm.enc_eq]; rfl
theorem Pm.at2 (x : Pm) : List.take 1 (List.drop 2 x.enc) = [dI x.t.prio] := by rw [Pm.enc_eq]; rfl
theorem Pm.mt2 (x : Pm) : List.take 1 (List.drop 2 (List.map CV.d x.enc)) = [.d (dI x.t.prio)] := by rw [Pm.enc_eq]; rfl
theorem Pm.at3 (x : Pm) : List.take 1 (List.drop 3 x.enc) = [dS x.t.name] := by rw [Pm.enc_eq]; rfl
theorem Pm.mt3 (x : Pm) : List.take 1 (List.drop 3 (List.map CV.d x.enc)) = [.d (dS x.t.name)] := by rw [Pm.enc_eq]; rfl
theorem Pm.at4 (x : Pm) : List.take 1 (List.drop 4 x.enc) = [dI x.t.shift] := by rw [Pm.enc_eq]; rfl
theorem Pm.mt4 (x : Pm) : List.take 1 (List.drop 4 (List.map CV.d x.enc)) = [.d (dI x.t.shift)] := by rw [Pm.enc_eq]; rfl
theorem Pm.at5 (x : Pm) : List.take 1 (List.drop 5 x.enc) = [dSs x.t.labels] := by rw [Pm.enc_eq]; rfl
theorem Pm.mt5 (x : Pm) : List.take 1 (List.drop 5 (List.map CV.d x.enc)) = [.d (dSs x.t.labels)] := by rw [Pm.enc_eq]; rfl
theorem Pm.at6 (x : Pm) : List.take 1 (List.drop 6 x.enc) = [.l (x.t.kids.map Ty.enc)] := by rw [Pm.enc_eq]; rfl
theorem Pm.mt6 (x : Pm) : List.take 1 (List.drop 6 (List.map CV.d x.enc)) = [.d (.l (x.t.kids.map Ty.enc))] := by rw [Pm.enc_eq]; rfl
theorem Pm.all (x : Pm) : List.take 7 x.enc = x.enc := by rw [Pm.enc_eq]; rfl
theorem Pm.mall (x : Pm) : List.take 7 (List.map CV.d x.enc) = List.map CV.d x.enc := by rw [Pm.enc_eq]; rfl
theorem Pm.one (x : Pm) : List.take 1 x.enc = [dS x.name] := by rw [Pm.enc_eq]; rfl
theorem Pm.mone (x : Pm) : List.take 1 (List.map CV.d x.enc) = [.d (dS x.name)] := by rw [Pm.enc_eq]; rfl
theorem Pm.sp1 (x : Pm) : List.take 6 (List.drop 1 x.enc) = x.t.enc := by rw [Pm.enc_eq, Ty.enc_eq]; rfl
theorem Pm.msp1 (x : Pm) : List.take 6 (List.drop 1 (List.map CV.d x.enc)) = List.map CV.d x.t.enc := by rw [Pm.enc_eq, Ty.enc_eq]; rfl
theorem Df.at0 (x : Df) : List.take 1 (List.drop 0 x.enc) = [dS x.name] := by rw [Df.enc_eq]; rfl
theorem Df.mt0 (x : Df) : List.take 1 (List.drop 0 (List.map CV.d x.enc)) = [.d (dS x.name)] := by rw [Df.enc_eq]; rfl
theorem Df.at1 (x : Df) : List.take 1 (List.drop 1 x.enc) = [.l (x.params.map Pm.enc)] := by rw [Df.enc_eq]; rfl
theorem Df.mt1 (x : Df) : List.take 1 (List.drop 1 (List.map CV.d x.enc)) = [.d (.l (x.params.map Pm.enc))] := by rw [Df.enc_eq]; rfl
theorem Df.at2 (x : Df) : List.take 1 (List.drop 2 x.enc) = [dI x.body.kind] := by rw [Df.enc_eq]; rfl
theorem Df.mt2 (x : Df) : List.take 1 (List.drop 2 (List.map CV.d x.enc)) = [.d (dI x.body.kind)] := by rw [Df.enc_eq]; rfl
theorem Df.at3 (x : Df) : List.take 1 (List.drop 3 x.enc) = [dS x.body.chan] := by rw [Df.enc_eq]; rfl
theorem Df.mt3 (x : Df) : List.take 1 (List.drop 3 (List.map CV.d x.enc)) = [.d (dS x.body.chan)] := by rw [Df.enc_eq]; rfl
theorem Df.at4 (x : Df) : List.take 1 (List.drop 4 x.enc) = [dS x.body.var] := by rw [Df.enc_eq]; rfl
theorem Df.mt4 (x : Df) : List.take 1 (List.drop 4 (List.map CV.d x.enc)) = [.d (dS x.body.var)] := by rw [Df.enc_eq]; rfl
theorem Df.at5 (x : Df) : List.take 1 (List.drop 5 x.enc) = [dSs x.body.labels] := by rw [Df.enc_eq]; rfl
theorem Df.mt5 (x : Df) : List.take 1 (List.drop 5 (List.map CV.d x.enc)) = [.d (dSs x.body.labels)] := by rw [Df.enc_eq]; rfl
theorem Df.at6 (x : Df) : List.take 1 (List.drop 6 x.enc) = [.l (x.body.args.map Vl.enc)] := by rw [Df.enc_eq]; rfl
theorem Df.mt6 (x : Df) : List.take 1 (List.drop 6 (List.map CV.d x.enc)) = [.d (.l (x.body.args.map Vl.enc))] := by rw [Df.enc_eq]; rfl
theorem Df.at7 (x : Df) : List.take 1 (List.drop 7 x.enc) = [dI x.body.t.kind] := by rw [Df.enc_eq]; rfl
theorem Df.mt7 (x : Df) : List.take 1 (List.drop 7 (List.map CV.d x.enc)) = [.d (dI x.body.t.kind)] := by rw [Df.enc_eq]; rfl
theorem Df.at8 (x : Df) : List.take 1 (List.drop 8 x.enc) = [dI x.body.t.prio] := by rw [Df.enc_eq]; rfl
theorem Df.mt8 (x : Df) : List.take 1 (List.drop 8 (List.map CV.d x.enc)) = [.d (dI x.body.t.prio)] := by rw [Df.enc_eq]; rfl
theorem Df.at9 (x : Df) : List.take 1 (List.drop 9 x.enc) = [dS x.body.t.name] := by rw [Df.enc_eq]; rfl
theorem Df.mt9 (x : Df) : List.take 1 (List.drop 9 (List.map CV.d x.enc)) = [.d (dS x.body.t.name)] := by rw [Df.enc_eq]; rfl
theorem Df.at10 (x : Df) : List.take 1 (List.drop 10 x.enc) = [dI x.body.t.shift] := by rw [Df.enc_eq]; rfl
theorem Df.mt10 (x : Df) : List.take 1 (List.drop 10 (List.map CV.d x.enc)) = [.d (dI x.body.t.shift)] := by rw [Df.enc_eq]; rfl
theorem Df.at11 (x : Df) : List.take 1 (List.drop 11 x.enc) = [dSs x.body.t.labels] := by rw [Df.enc_eq]; rfl
theorem Df.mt11 (x : Df) : List.take 1 (List.drop 11 (List.map CV.d x.enc)) = [.d (dSs x.body.t.labels)] := by rw [Df.enc_eq]; rfl
theorem Df.at12 (x : Df) : List.take 1 (List.drop 12 x.enc) = [.l (x.body.t.kids.map Ty.enc)] := by rw [Df.enc_eq]; rfl
theorem Df.mt12 (x : Df) : List.take 1 (List.drop 12 (List.map CV.d x.enc)) = [.d (.l (x.body.t.kids.map Ty.enc))] := by rw [Df.enc_eq]; rfl
theorem Df.at13 (x : Df) : List.take 1 (List.drop 13 x.enc) = [.l (x.body.kids.map Pr.enc)] := by rw [Df.enc_eq]; rfl
theorem Df.mt13 (x : Df) : List.take 1 (List.drop 13 (List.map CV.d x.enc)) = [.d (.l (x.body.kids.map Pr.enc))] := by rw [Df.enc_eq]; rfl
theorem Df.all (x : Df) : List.take 14 x.enc = x.enc := by rw [Df.enc_eq]; rfl
theorem Df.mall (x : Df) : List.take 14 (List.map CV.d x.enc) = List.map CV.d x.enc := by rw [Df.enc_eq]; rfl
theorem Df.one (x : Df) : List.take 1 x.enc = [dS x.name] := by rw [Df.enc_eq]; rfl
theorem Df.mone (x : Df) : List.take 1 (List.map CV.d x.enc) = [.d (dS x.name)] := by rw [Df.enc_eq]; rfl
theorem Df.sp2 (x : Df) : List.take 12 (List.drop 2 x.enc) = x.body.enc := by rw [Df.enc_eq, Pr.enc_eq]; rfl
theorem Df.msp2 (x : Df) : List.take 12 (List.drop 2 (List.map CV.d x.enc)) = List.map CV.d x.body.enc := by rw [Df.enc_eq, Pr.enc_eq]; rfl
theorem Df.sp7 (x : Df) : List.take 6 (List.drop 7 x.enc) = x.body.t.enc := by rw [Df.enc_eq, Ty.enc_eq]; rfl
theorem Df.msp7 (x : Df) : List.take 6 (List.drop 7 (List.map CV.d x.enc)) = List.map CV.d x.body.t.enc := by rw [Df.enc_eq, Ty.enc_eq]; rfl
theorem Pg.at0 (x : Pg) : List.take 1 (List.drop 0 x.enc) = [.l (x.defs.map Df.enc)] := by rw [Pg.enc_eq]; rfl
theorem Pg.mt0 (x : Pg) : List.take 1 (List.drop 0 (List.map CV.d x.enc)) = [.d (.l (x.defs.map Df.enc))] := by rw [Pg.enc_eq]; rfl
theorem Pg.at1 (x : Pg) : List.take 1 (List.drop 1 x.enc) = [dI x.main.kind] := by rw [Pg.enc_eq]; rfl
theorem Pg.mt1 (x : Pg) : List.take 1 (List.drop 1 (List.map CV.d x.enc)) = [.d (dI x.main.kind)] := by rw [Pg.enc_eq]; rfl
theorem Pg.at2 (x : Pg) : List.take 1 (List.drop 2 x.enc) = [dS x.main.chan] := by rw [Pg.enc_eq]; rfl
theorem Pg.mt2 (x : Pg) : List.take 1 (List.drop 2 (List.map CV.d x.enc)) = [.d (dS x.main.chan)] := by rw [Pg.enc_eq]; rfl
theorem Pg.at3 (x : Pg) : List.take 1 (List.drop 3 x.enc) = [dS x.main.var] := by rw [Pg.enc_eq]; rfl
theorem Pg.mt3 (x : Pg) : List.take 1 (List.drop 3 (List.map CV.d x.enc)) = [.d (dS x.main.var)] := by rw [Pg.enc_eq]; rfl
theorem Pg.at4 (x : Pg) : List.take 1 (List.drop 4 x.enc) = [dSs x.main.labels] := by rw [Pg.enc_eq]; rfl
theorem Pg.mt4 (x : Pg) : List.take 1 (List.drop 4 (List.map CV.d x.enc)) = [.d (dSs x.main.labels)] := by rw [Pg.enc_eq]; rfl
theorem Pg.at5 (x : Pg) : List.take 1 (List.drop 5 x.enc) = [.l (x.main.args.map Vl.enc)] := by rw [Pg.enc_eq]; rfl
theorem Pg.mt5 (x : Pg) : List.take 1 (List.drop 5 (List.map CV.d x.enc)) = [.d (.l (x.main.args.map Vl.enc))] := by rw [Pg.enc_eq]; rfl
theorem Pg.at6 (x : Pg) : List.take 1 (List.drop 6 x.enc) = [dI x.main.t.kind] := by rw [Pg.enc_eq]; rfl
theorem Pg.mt6 (x : Pg) : List.take 1 (List.drop 6 (List.map CV.d x.enc)) = [.d (dI x.main.t.kind)] := by rw [Pg.enc_eq]; rfl
theorem Pg.at7 (x : Pg) : List.take 1 (List.drop 7 x.enc) = [dI x.main.t.prio] := by rw [Pg.enc_eq]; rfl
theorem Pg.mt7 (x : Pg) : List.take 1 (List.drop 7 (List.map CV.d x.enc)) = [.d (dI x.main.t.prio)] := by rw [Pg.enc_eq]; rfl
theorem Pg.at8 (x : Pg) : List.take 1 (List.drop 8 x.enc) = [dS x.main.t.name] := by rw [Pg.enc_eq]; rfl
theorem Pg.mt8 (x : Pg) : List.take 1 (List.drop 8 (List.map CV.d x.enc)) = [.d (dS x.main.t.name)] := by rw [Pg.enc_eq]; rfl
theorem Pg.at9 (x : Pg) : List.take 1 (List.drop 9 x.enc) = [dI x.main.t.shift] := by rw [Pg.enc_eq]; rfl
theorem Pg.mt9 (x : Pg) : List.take 1 (List.drop 9 (List.map CV.d x.enc)) = [.d (dI x.main.t.shift)] := by rw [Pg.enc_eq]; rfl
theorem Pg.at10 (x : Pg) : List.take 1 (List.drop 10 x.enc) = [dSs x.main.t.labels] := by rw [Pg.enc_eq]; rfl
theorem Pg.mt10 (x : Pg) : List.take 1 (List.drop 10 (List.map CV.d x.enc)) = [.d (dSs x.main.t.labels)] := by rw [Pg.enc_eq]; rfl
theorem Pg.at11 (x : Pg) : List.take 1 (List.drop 11 x.enc) = [.l (x.main.t.kids.map Ty.enc)] := by rw [Pg.enc_eq]; rfl
theorem Pg.mt11 (x : Pg) : List.take 1 (List.drop 11 (List.map CV.d x.enc)) = [.d (.l (x.main.t.kids.map Ty.enc))] := by rw [Pg.enc_eq]; rfl
theorem Pg.at12 (x : Pg) : List.take 1 (List.drop 12 x.enc) = [.l (x.main.kids.map Pr.enc)] := by rw [Pg.enc_eq]; rfl
theorem Pg.mt12 (x : Pg) : List.take 1 (List.drop 12 (List.map CV.d x.enc)) = [.d (.l (x.main.kids.map Pr.enc))] := by rw [Pg.enc_eq]; rfl
theorem Pg.all (x : Pg) : List.take 13 x.enc = x.enc := by rw [Pg.enc_eq]; rfl
theorem Pg.mall (x : Pg) : List.take 13 (List.map CV.d x.enc) = List.map CV.d x.enc := by rw [Pg.enc_eq]; rfl
theorem Pg.one (x : Pg) : List.take 1 x.enc = [.l (x.defs.map Df.enc)] := by rw [Pg.enc_eq]; rfl
theorem Pg.mone (x : Pg) : List.take 1 (List.map CV.d x.enc) = [.d (.l (x.defs.map Df.enc))] := by rw [Pg.enc_eq]; rfl
theorem Pg.sp1 (x : Pg) : List.take 12 (List.drop 1 x.enc) = x.main.enc := by rw [Pg.enc_eq, Pr.enc_eq]; rfl
theorem Pg.msp1 (x : Pg) : List.take 12 (List.drop 1 (List.map CV.d x.enc)) = List.map CV.d x.main.enc := by rw [Pg.enc_eq, Pr.enc_eq]; rfl
theorem Pg.sp6 (x : Pg) : List.take 6 (List.drop 6 x.enc) = x.main.t.enc := by rw [Pg.enc_eq, Ty.enc_eq]; rfl
theorem Pg.msp6 (x : Pg) : List.take 6 (List.drop 6 (List.map CV.d x.enc)) = List.map CV.d x.main.t.enc := by rw [Pg.enc_eq, Ty.enc_eq]; rfl
attribute [go_sem] Ty.at0 Ty.mt0 Ty.at1 Ty.mt1 Ty.at2 Ty.mt2 Ty.at3 Ty.mt3 Ty.at4 Ty.mt4
attribute [go_sem] Ty.at5 Ty.mt5 Ty.all Ty.mall Ty.one Ty.mone Vl.at0 Vl.mt0 Vl.at1 Vl.mt1
attribute [go_sem] Vl.at2 Vl.mt2 Vl.all Vl.mall Vl.one Vl.mone Pr.at0 Pr.mt0 Pr.at1 Pr.mt1
attribute [go_sem] Pr.at2 Pr.mt2 Pr.at3 Pr.mt3 Pr.at4 Pr.mt4 Pr.at5 Pr.mt5 Pr.at6 Pr.mt6
attribute [go_sem] Pr.at7 Pr.mt7 Pr.at8 Pr.mt8 Pr.at9 Pr.mt9 Pr.at10 Pr.mt10 Pr.at11 Pr.mt11
attribute [go_sem] Pr.all Pr.mall Pr.one Pr.mone Pr.sp5 Pr.msp5 Pm.at0 Pm.mt0 Pm.at1 Pm.mt1
attribute [go_sem] Pm.at2 Pm.mt2 Pm.at3 Pm.mt3 Pm.at4 Pm.mt4 Pm.at5 Pm.mt5 Pm.at6 Pm.mt6
attribute [go_sem] Pm.all Pm.mall Pm.one Pm.mone Pm.sp1 Pm.msp1 Df.at0 Df.mt0 Df.at1 Df.mt1
attribute [go_sem] Df.at2 Df.mt2 Df.at3 Df.mt3 Df.at4 Df.mt4 Df.at5 Df.mt5 Df.at6 Df.mt6
attribute [go_sem] Df.at7 Df.mt7 Df.at8 Df.mt8 Df.at9 Df.mt9 Df.at10 Df.mt10 Df.at11 Df.mt11
attribute [go_sem] Df.at12 Df.mt12 Df.at13 Df.mt13 Df.all Df.mall Df.one Df.mone Df.sp2 Df.msp2
attribute [go_sem] Df.sp7 Df.msp7 Pg.at0 Pg.mt0 Pg.at1 Pg.mt1 Pg.at2 Pg.mt2 Pg.at3 Pg.mt3
attribute [go_sem] Pg.at4 Pg.mt4 Pg.at5 Pg.mt5 Pg.at6 Pg.mt6 Pg.at7 Pg.mt7 Pg.at8 Pg.mt8
attribute [go_sem] Pg.at9 Pg.mt9 Pg.at10 Pg.mt10 Pg.at11 Pg.mt11 Pg.at12 Pg.mt12 Pg.all Pg.mall
attribute [go_sem] Pg.one Pg.mone Pg.sp1 Pg.msp1 Pg.sp6 Pg.msp6 Ty.enc_len Vl.enc_len Pr.enc_len Pm.enc_len
attribute [go_sem] Df.enc_len Pg.enc_len frzs_map noVs_map okC_map cellsT_tG cellsT_c cellsT_k cellsT_g frzTV_nil
attribute [go_sem] frzTV_fl frzTV_vs frzTV_ref frzTV_ep frzTV_fn frzTV_k frzTV_g pureTV_d pureTV_nil pureTV_fl
attribute [go_sem] pureTV_ref pureTV_fn pureTV_g boxF_tG frzTV_tG frzTV_d pureTV_tG g_map datOf_map closed_tG
attribute [go_sem] closed_map List.getElem?_map Int.toNat_natCast Nat.le_refl decide_true decide_false Bool.false_eq_true
end Go.Proofs.Ythnnnnaifnddbaa
