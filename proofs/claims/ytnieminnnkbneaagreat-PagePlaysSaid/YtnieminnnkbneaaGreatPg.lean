/- The plain model of chapter 14: a Writer's pieces and what Read takes. No program in sight. -/
import Derived.Test.YtnieminnnkbneaaGreatMb
namespace Go.Proofs.YtnieminnnkbneaaGreat
open Go.RowKit

def leS (a b : ByteArray) : Bool := Op.bytesLess a.toList b.toList || a.toList == b.toList
def isKey (s : ByteArray) : Bool := decide (1 ≤ s.size) && decide (s.size ≤ 64)

def headFrame (x : PW) : Bs := frameB 1 0 (encNumber x.number ++ encNumber x.mark)
def pwHead (x : PW) : Bs × PW := if x.frames = 0 then (headFrame x, { x with frames := 1 }) else ([], x)
def pwProcE (x : PW) (p : Prc) : Int :=
 if (procCheck p).2 ≠ 0 then (procCheck p).2 else if 0 < x.entries then 25 else if leS p.name x.name then 25 else 0
def procFrame (x : PW) (p : Prc) : Bs := frameB 2 x.frames (encText (procBytes p))
def pwProc (x : PW) (p : Prc) : PW := { x with frames := x.frames + 1, name := p.name, procs := x.procs + 1 }
def pwProcs : PW → Bs → List Prc → (Bs × PW) × Int
 | x, ys, [] => ((ys, x), 0)
 | x, ys, p :: l => if pwProcE x p ≠ 0 then ((ys, x), pwProcE x p) else pwProcs (pwProc x p) (ys ++ procFrame x p) l
def pwEntE (x : PW) (y : Ent) : Int :=
 if isKey y.key = false then 5 else if datumCheck y.v ≠ 0 then datumCheck y.v else if y.v.kind = 0 then 14 else if leS y.key x.key then 25 else 0
def pwEnt (x : PW) (y : Ent) : PW := { x with key := y.key, entries := x.entries + 1 }
def pwEnts : PW → List Ent → PW × Int
 | x, [] => (x, 0)
 | x, y :: l => if pwEntE x y ≠ 0 then (x, pwEntE x y) else pwEnts (pwEnt x y) l
def entsFrame (x : PW) (l : List Ent) : Bs := frameB 3 x.frames (entsBytes l)

/-- Page: the bytes, the Writer behind it, the error. -/
def pwPage (x : PW) (ps : List Prc) (es : List Ent) : (Bs × PW) × Int :=
 if x.live = false then (([], x), 25) else
 if ps.length + es.length = 0 ∨ 128 < ps.length + es.length then (([], x), 1) else
 let q := pwProcs (pwHead x).2 (pwHead x).1 ps
 if q.2 ≠ 0 then (([], x), q.2) else
 let u := pwEnts q.1.2 es
 if u.2 ≠ 0 then (([], x), u.2) else
 if es = [] then ((q.1.1, u.1), 0) else ((q.1.1 ++ entsFrame u.1 es, { u.1 with frames := u.1.frames + 1 }), 0)

def PW.zero : PW := ⟨false, 0, 0, 0, 0, 0, emptyB, emptyB⟩
def endFrame (x : PW) : Bs := frameB 4 x.frames (encNumber x.procs ++ encNumber x.entries)
/-- What was read. -/
structure RS where
 frames : Nat
 number : Int
 mark : Int
 procs : List Prc
 entries : List Ent
 name : ByteArray
 key : ByteArray
def RS.zero : RS := ⟨0, 0, 0, [], [], emptyB, emptyB⟩

def maxNum : Int := 281474976710655
def pgHead (s : RS) (r : Rdr) : Option (RS × Rdr) :=
 if s.frames = 0 ∧ 1 ≤ r.number.1 ∧ r.number.1 ≤ maxNum ∧ r.number.2.number.1 ≤ maxNum then some ({ s with number := r.number.1, mark := r.number.2.number.1 }, r.number.2.number.2) else none
def pgProc (all : Nat) (s : RS) (r : Rdr) : Option (RS × Rdr) :=
 if 0 < s.frames ∧ (procDecode (r.text all).1).2 = 0 ∧ s.entries.length = 0 ∧ leS (procDecode (r.text all).1).1.name s.name = false then
  some ({ s with name := (procDecode (r.text all).1).1.name, procs := s.procs ++ [(procDecode (r.text all).1).1] }, (r.text all).2) else none
/-- One entry: its key, its value, the reader behind it. -/
def pgEnt (all : Nat) (s : RS) (r : Rdr) : Option (RS × Rdr) :=
 let k := ofBs (r.text all).1
 let q := datumDecode ((r.text all).2.text all).1
 if q.2 = 0 ∧ isKey k = true ∧ leS k s.key = false ∧ q.1.kind ≠ 0 then some ({ s with key := k, entries := s.entries ++ [⟨k, q.1⟩] }, ((r.text all).2.text all).2) else none
def pgEnts (all : Nat) : Nat → RS → Rdr → Option (RS × Rdr)
 | 0, s, r => some (s, r)
 | n + 1, s, r => match pgEnt all s r with
  | none => none
  | some (s', r') => pgEnts all n s' r'
def pgPage (all : Nat) (s : RS) (r : Rdr) : Option (RS × Rdr) :=
 if 0 < s.frames ∧ 1 ≤ r.number.1 ∧ r.number.1 ≤ 128 then pgEnts all r.number.1.toNat s r.number.2 else none
def pgEnd (s : RS) (r : Rdr) : Option (RS × Rdr) :=
 if 0 < s.frames ∧ r.number.1 = s.procs.length ∧ r.number.2.number.1 = s.entries.length then some (s, r.number.2.number.2) else none
def pgKind (k all : Nat) (s : RS) (r : Rdr) : Option (RS × Rdr) :=
 if k = 1 then pgHead s r else if k = 2 then pgProc all s r else if k = 3 then pgPage all s r else if k = 4 then pgEnd s r else none
/-- Behind what a kind reads: nothing may stand there; a frame more. -/
def pgShut (over : Bool) : Option (RS × Rdr) → Option (RS × Bool)
 | none => none
 | some q => if q.2.end_ = 0 then some ({ q.1 with frames := q.1.frames + 1 }, over) else none
/-- A frame's body: what was read then, and whether it is the end's. -/
def pgFrame (s : RS) (body : Bs) : Option (RS × Bool) :=
 if (Rdr.new body).byte.2.number.1 = s.frames then
  pgShut (decide ((Rdr.new body).byte.1 = 4)) (pgKind (Rdr.new body).byte.1 body.length s (Rdr.new body).byte.2.number.2)
 else none
def pgLoop (xs : Bs) : Nat → Nat → RS → RS × Int
 | 0, _, _ => (.zero, 3)
 | f + 1, at_, s =>
  if nextE xs at_ = 12 then (.zero, 2) else
  if nextE xs at_ ≠ 0 then (.zero, 13) else
  match pgFrame s (bodyAt xs at_) with
  | none => (.zero, 3)
  | some (s', over) =>
   if over then (if at_ + 8 + wordAt xs at_ = xs.length then (s', 0) else (.zero, 3))
   else pgLoop xs f (at_ + 8 + wordAt xs at_) s'
/-- Read: number, mark, procedures and entries, and the error. -/
def pageRead (xs : Bs) : RS × Int := pgLoop xs (xs.length + 1) 0 .zero

end Go.Proofs.YtnieminnnkbneaaGreat
