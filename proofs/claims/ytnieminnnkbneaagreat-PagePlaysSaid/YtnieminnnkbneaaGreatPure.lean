/- The plain model of chapters 1, 5 and 6: bytes, readers, values, procedures. No program in sight. -/
import Init
namespace Go.Proofs.YtnieminnnkbneaaGreat

abbrev Bs := List UInt8

def emptyB : ByteArray := ⟨#[]⟩

/-- A row of sevens. -/
def sevF : Nat → Nat → Bs
  | 0, _ => []
  | f + 1, u => if u < 128 then [UInt8.ofNat u] else UInt8.ofNat (u % 128 + 128) :: sevF f (u / 128)
def sevens (u : Nat) : Bs := sevF 10 u

def zig (v : Int) : Nat := if 0 ≤ v then (2 * v).toNat else (-2 * v - 1).toNat
def zag (u : Nat) : Int := if u % 2 = 0 then ((u / 2 : Nat) : Int) else -((u / 2 : Nat) : Int) - 1

def encNumber (v : Int) : Bs := sevens v.toNat
def encInt (v : Int) : Bs := sevens (zig v)
def encText (s : Bs) : Bs := sevens s.length ++ s

/-- A reader: the bytes, the place, the error. -/
structure Rdr where
  xs : Bs
  pos : Nat
  err : Int

namespace Rdr
def new (xs : Bs) : Rdr := ⟨xs, 0, 0⟩
def fail (r : Rdr) (e : Int) : Rdr := { r with err := e }

def byte (r : Rdr) : Nat × Rdr :=
  if r.err ≠ 0 then (0, r) else
  match r.xs[r.pos]? with
  | none => (0, r.fail 2)
  | some b => (b.toNat, { r with pos := r.pos + 1 })

/-- error, number, how many bytes -/
def rowGo (xs : Bs) (pos most last : Nat) : Nat → Nat → Nat → Int × Nat × Nat
  | 0, _, _ => (15, 0, 0)
  | f + 1, i, u =>
    match xs[pos + i]? with
    | none => (2, 0, 0)
    | some b =>
      if i + 1 = most ∧ last < b.toNat then (15, 0, 0) else
      if b.toNat < 128 then (if 0 < i ∧ b.toNat = 0 then (3, 0, 0) else (0, u + b.toNat % 128 * 128 ^ i, i + 1))
      else rowGo xs pos most last f (i + 1) (u + b.toNat % 128 * 128 ^ i)

def row (r : Rdr) (most last : Nat) : Nat × Rdr :=
  if r.err ≠ 0 then (0, r) else
  match rowGo r.xs r.pos most last most 0 0 with
  | (e, u, n) => if e = 0 then (u, { r with pos := r.pos + n }) else (0, r.fail e)

def number (r : Rdr) : Int × Rdr := let (u, r) := r.row 9 127; ((u : Int), r)
def int (r : Rdr) : Int × Rdr := let (u, r) := r.row 10 1; (zag u, r)

def text (r : Rdr) (most : Int) : Bs × Rdr :=
  if r.err ≠ 0 then ([], r) else
  let (n, q) := r.number
  if q.err ≠ 0 then ([], q) else
  if max most 0 < n then ([], r.fail 4) else
  if ((q.xs.length : Int) - q.pos) < n then ([], r.fail 2) else
  ((q.xs.drop q.pos).take n.toNat, { q with pos := q.pos + n.toNat })

def errAt (r : Rdr) : Int := if r.err = 0 then 0 else (r.pos : Int)
def end_ (r : Rdr) : Int := if r.err = 0 ∧ r.pos < r.xs.length then 3 else r.err
end Rdr

structure Val where
  kind : Int
  num : Int
  text : ByteArray

def Val.zero : Val := ⟨0, 0, emptyB⟩

def datumCheck (v : Val) : Int :=
  if ¬ (v.kind = 0 ∨ v.kind = 1 ∨ v.kind = 2) then 14 else
  if (v.kind ≠ 1 ∧ v.num ≠ 0) ∨ (v.kind ≠ 2 ∧ v.text.size ≠ 0) then 14 else
  if 256 < v.text.size then 4 else 0

def datumBytes (v : Val) : Bs :=
  UInt8.ofNat v.kind.toNat :: (if v.kind = 1 then encInt v.num else if v.kind = 2 then encText v.text.data.toList else [])

def datumEncode (v : Val) : Bs × Int := if datumCheck v = 0 then (datumBytes v, 0) else ([], datumCheck v)

def ofBs (s : Bs) : ByteArray := ⟨s.toArray⟩

def datumDecode (b : Bs) : Val × Int :=
  let (k, r) := (Rdr.new b).byte
  if r.err ≠ 0 then (.zero, r.err) else
  if ¬ (k = 0 ∨ k = 1 ∨ k = 2) then (.zero, 3) else
  let (v, r) : Val × Rdr :=
    if k = 1 then (let (n, r) := r.int; (⟨1, n, emptyB⟩, r))
    else if k = 2 then (let (s, r) := r.text 256; (⟨2, 0, ofBs s⟩, r))
    else (⟨0, 0, emptyB⟩, r)
  if r.end_ ≠ 0 then (.zero, r.end_) else (v, 0)

/-- An instruction. -/
structure Ins where
  op : Int
  a : Int
  b : Int
  c : Int
  n : Int
  v : Val

structure Prc where
  name : ByteArray
  args : Int
  code : List Ins

/-- The fields that an operation may have. -/
inductive Fld where
  | a | b | c | arg | how | many | skip
  deriving DecidableEq

def Fld.get (x : Ins) : Fld → Int
  | .a | .skip => x.a
  | .b => x.b
  | .c => x.c
  | .arg | .how | .many => x.n
def Fld.put (x : Ins) (v : Int) : Fld → Ins
  | .a | .skip => { x with a := v }
  | .b => { x with b := v }
  | .c => { x with c := v }
  | .arg | .how | .many => { x with n := v }
/-- laid as a byte? -/
def Fld.one : Fld → Bool
  | .a | .b | .c => true
  | _ => false
def Fld.may (args len place v : Int) : Fld → Bool
  | .a | .b | .c => decide (0 ≤ v) && decide (v < 16)
  | .arg => decide (0 ≤ v) && decide (v < args)
  | .how => decide (1 ≤ v) && decide (v ≤ 6)
  | .many => decide (1 ≤ v) && decide (v ≤ 64)
  | .skip => decide (1 ≤ v) && decide (v < len - place)

def fieldsOf (op : Int) : List Fld :=
  if op = 1 then [.a] else if op = 2 then [.a, .arg]
  else if op = 3 ∨ op = 14 ∨ op = 4 then [.a, .b]
  else if op = 5 ∨ op = 15 then [.a]
  else if op = 6 ∨ op = 7 ∨ op = 8 ∨ op = 9 then [.a, .b, .c]
  else if op = 10 then [.b, .c, .how]
  else if op = 11 then [.skip, .b, .c, .how]
  else if op = 12 ∨ op = 13 then [.a, .b, .c, .many]
  else []
def hasVal (op : Int) : Bool := op == 1

def Ins.isZero (x : Ins) : Bool :=
  x.op == 0 && (x.a == 0 && (x.b == 0 && (x.c == 0 && (x.n == 0 && (x.v.kind == 0 && (x.v.num == 0 && x.v.text.size == 0))))))

def clearF (r : Ins) (l : List Fld) : Ins := l.foldl (fun r f => f.put r 0) r
def insRest (x : Ins) : Ins :=
  let r := clearF { x with op := 0 } (fieldsOf x.op)
  if hasVal x.op then { r with v := .zero } else r

def insCheck (args len place : Int) (x : Ins) : Int :=
  if x.op < 1 ∨ 16 < x.op then 16 else
  if !(fieldsOf x.op).all (fun f => f.may args len place (f.get x)) then 16 else
  if !(insRest x).isZero then 16 else
  if hasVal x.op then datumCheck x.v else 0

def letterB (c : Nat) : Bool := (decide (97 ≤ c) && decide (c ≤ 122)) || (decide (65 ≤ c) && decide (c ≤ 90))
def nameB (c : Nat) : Bool := letterB c || (decide (48 ≤ c) && decide (c ≤ 57)) || c == 95 || c == 45 || c == 46
def isNameL (s : Bs) : Bool :=
  decide (1 ≤ s.length) && decide (s.length ≤ 32) && letterB (s.headD 0).toNat && s.all (fun c => nameB c.toNat)
def isName (s : ByteArray) : Bool := isNameL s.data.toList

def codeCheck (args len : Int) : Nat → List Ins → Int × Int
  | _, [] => (0, 0)
  | i, x :: l => if insCheck args len i x ≠ 0 then (i, insCheck args len i x) else codeCheck args len (i + 1) l

def procCheck (p : Prc) : Int × Int :=
  if !isName p.name then (-1, 5) else
  if p.args < 0 ∨ 16 < p.args then (-1, 1) else
  if 64 < p.code.length then (-1, 4) else
  codeCheck p.args p.code.length 0 p.code

def fldBytes (x : Ins) (f : Fld) : Bs := if f.one then [UInt8.ofNat (f.get x).toNat] else encNumber (f.get x)
def insBytes (x : Ins) : Bs :=
  UInt8.ofNat x.op.toNat :: ((fieldsOf x.op).flatMap (fldBytes x) ++ (if hasVal x.op then encText (datumBytes x.v) else []))
def procBytes (p : Prc) : Bs :=
  encText p.name.data.toList ++ encNumber p.args ++ encNumber p.code.length ++ p.code.flatMap insBytes
def procEncode (p : Prc) : Bs × Int := if (procCheck p).2 = 0 then (procBytes p, 0) else ([], (procCheck p).2)

def readFld (r : Rdr) (x : Ins) (f : Fld) : Ins × Rdr :=
  if f.one then (let (b, r) := r.byte; (f.put x b, r)) else (let (n, r) := r.number; (f.put x n, r))

/-- the fields one behind the other; the first error stops -/
def readFlds : Rdr → Ins → List Fld → (Ins × Rdr) × Int
  | r, x, [] => ((x, r), 0)
  | r, x, f :: l =>
    let (x, r) := readFld r x f
    if r.err ≠ 0 then ((x, r), r.err) else readFlds r x l

def zeroIns (op : Int) : Ins := ⟨op, 0, 0, 0, 0, .zero⟩

def readIns (all : Nat) (r : Rdr) : (Ins × Rdr) × Int :=
  let (o, r) := r.byte
  let x := zeroIns o
  if r.err ≠ 0 then ((x, r), r.err) else
  if (o : Int) < 1 ∨ 16 < (o : Int) then ((x, r), 16) else
  let ((x, r), e) := readFlds r x (fieldsOf o)
  if e ≠ 0 then ((x, r), e) else
  if hasVal o then
    let (s, r) := r.text all
    if r.err ≠ 0 then ((x, r), r.err) else
    let (v, e) := datumDecode s
    if e ≠ 0 then ((x, r), e) else (({ x with v := v }, r), 0)
  else ((x, r), 0)

def readCode (all : Nat) : Nat → Rdr → List Ins → (List Ins × Rdr) × Int
  | 0, r, l => ((l, r), 0)
  | k + 1, r, l =>
    let ((x, r), e) := readIns all r
    if e ≠ 0 then ((l, r), e) else readCode all k r (l ++ [x])

def Prc.zero : Prc := ⟨emptyB, 0, []⟩

def procDecode (b : Bs) : Prc × Int :=
  let (s, r) := (Rdr.new b).text 32
  let (a, r) := r.number
  let (n, r) := r.number
  if r.err ≠ 0 then (.zero, r.err) else
  if 64 < n then (.zero, 4) else
  let ((l, r), e) := readCode b.length n.toNat r []
  if e ≠ 0 then (.zero, e) else
  if r.end_ ≠ 0 then (.zero, r.end_) else
  let p : Prc := ⟨ofBs s, a, l⟩
  if (procCheck p).2 ≠ 0 then (.zero, (procCheck p).2) else (p, 0)

end Go.Proofs.YtnieminnnkbneaaGreat
