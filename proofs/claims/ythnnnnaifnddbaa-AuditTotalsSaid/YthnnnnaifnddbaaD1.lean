/- The program's data, and as which plain data they read. -/
import Derived.Test.YthnnnnaifnddbaaE13
set_option linter.unusedVariables false
set_option linter.unusedSimpArgs false
namespace Go.Proofs.Ythnnnnaifnddbaa

structure Ty where
  kind : Int
  prio : Int
  name : ByteArray
  shift : Int
  labels : List ByteArray
  kids : List Ty
structure Vl where
  kind : Int
  name : ByteArray
  n : Int
structure Pr where
  kind : Int
  chan : ByteArray
  var : ByteArray
  labels : List ByteArray
  args : List Vl
  t : Ty
  kids : List Pr
structure Pm where
  name : ByteArray
  t : Ty
structure Df where
  name : ByteArray
  params : List Pm
  body : Pr
structure Pg where
  defs : List Df
  main : Pr

abbrev dI (n : Int) : Dat := .i .i64 n
abbrev dS (x : ByteArray) : Dat := .s x
abbrev dSs (l : List ByteArray) : Dat := .l (l.map fun x => [dS x])

theorem Ty.kid_lt {t k : Ty} (h : k ∈ t.kids) : SizeOf.sizeOf k < SizeOf.sizeOf t := by
  have := List.sizeOf_lt_of_mem h
  cases t
  simp at this ⊢
  omega
theorem Pr.kid_lt {t k : Pr} (h : k ∈ t.kids) : SizeOf.sizeOf k < SizeOf.sizeOf t := by
  have := List.sizeOf_lt_of_mem h
  cases t
  simp at this ⊢
  omega

def Ty.enc (t : Ty) : List Dat := [dI t.kind, dI t.prio, dS t.name, dI t.shift, dSs t.labels, .l (t.kids.attach.map fun ⟨k, h⟩ => k.enc)]
termination_by SizeOf.sizeOf t
decreasing_by exact Ty.kid_lt h
theorem Ty.enc_eq (t : Ty) : t.enc = [dI t.kind, dI t.prio, dS t.name, dI t.shift, dSs t.labels, .l (t.kids.map Ty.enc)] := by
  rw [Ty.enc]
  simp
def Vl.enc (v : Vl) : List Dat := [dI v.kind, dS v.name, dI v.n]
def Pr.enc (p : Pr) : List Dat := [dI p.kind, dS p.chan, dS p.var, dSs p.labels, .l (p.args.map Vl.enc)] ++ p.t.enc ++ [.l (p.kids.attach.map fun ⟨k, h⟩ => k.enc)]
termination_by SizeOf.sizeOf p
decreasing_by exact Pr.kid_lt h
theorem Pr.enc_eq (p : Pr) : p.enc = [dI p.kind, dS p.chan, dS p.var, dSs p.labels, .l (p.args.map Vl.enc), dI p.t.kind, dI p.t.prio, dS p.t.name, dI p.t.shift, dSs p.t.labels, .l (p.t.kids.map Ty.enc), .l (p.kids.map Pr.enc)] := by
  rw [Pr.enc, Ty.enc_eq]
  simp
def Pm.enc (p : Pm) : List Dat := dS p.name :: p.t.enc
def Df.enc (d : Df) : List Dat := [dS d.name, .l (d.params.map Pm.enc)] ++ d.body.enc
def Pg.enc (p : Pg) : List Dat := .l (p.defs.map Df.enc) :: p.main.enc

theorem Ty.enc_len (t : Ty) : t.enc.length = 6 := by rw [Ty.enc_eq]; rfl
theorem Vl.enc_len (v : Vl) : v.enc.length = 3 := rfl
theorem Pr.enc_len (p : Pr) : p.enc.length = 12 := by rw [Pr.enc_eq]; rfl
theorem Pm.enc_len (p : Pm) : p.enc.length = 7 := by simp [Pm.enc, Ty.enc_len]
theorem Df.enc_len (d : Df) : d.enc.length = 14 := by simp [Df.enc, Pr.enc_len]
theorem Pg.enc_len (p : Pg) : p.enc.length = 13 := by simp [Pg.enc, Pr.enc_len]

/-- A value of a struct type, as an argument. -/
def tG (ds : List Dat) : TV := .g (ds.map .d)
abbrev tI (n : Int) : TV := .c (.d (dI n))
abbrev tB (b : Bool) : TV := .c (.d (.b b))
abbrev tS (x : ByteArray) : TV := .c (.d (dS x))
abbrev tL (es : List (List Dat)) : TV := .c (.d (.l es))
abbrev tSs (l : List ByteArray) : TV := .c (.d (dSs l))
end Go.Proofs.Ythnnnnaifnddbaa
