/- Programs as plain data: which are valid, their texts, and how a text is read. -/
import Derived.Test.YtpkefohcccpncaaGreatDoorPl
import Derived.Lib.ItoaNum
namespace Go.Proofs.YtpkefohcccpncaaGreatDoor
set_option linter.unusedSimpArgs false
set_option linter.unusedVariables false

structure Ln where
  k : Int
  a : Int
  n : Int
structure Th where
  nm : ByteArray
  ls : List Ln
structure Prg where
  v : Int
  ts : List Th

def kwValues : List UInt8 := [118, 97, 108, 117, 101, 115]
def kwThread : List UInt8 := [116, 104, 114, 101, 97, 100]
def kwEnd : List UInt8 := [101, 110, 100]
def kwOf (k : Nat) : List UInt8 :=
  if k = 1 then [115, 101, 116] else if k = 2 then [119, 104, 101, 110] else if k = 3 then [106, 117, 109, 112] else if k = 4 then [109, 97, 121, 98, 101]
  else if k = 5 then [115, 112, 97, 119, 110] else if k = 6 then [115, 116, 111, 112] else if k = 7 then [102, 97, 105, 108] else []
/-- the kind that a word stands for; 0 if it stands for none -/
def kindOf (x : List UInt8) : Nat :=
  if x = kwOf 1 then 1 else if x = kwOf 2 then 2 else if x = kwOf 3 then 3 else if x = kwOf 4 then 4 else if x = kwOf 5 then 5 else if x = kwOf 6 then 6 else if x = kwOf 7 then 7 else 0
/-- what the A of a kind of lines is: 0 nothing, 1 a value, 2 a place, 3 a thread -/
def argOf (k : Nat) : Nat := if k = 1 ∨ k = 2 then 1 else if k = 3 ∨ k = 4 then 2 else if k = 5 then 3 else 0
def namedL (x : List UInt8) : Bool := wordL x && !(x == kwValues || x == kwThread || x == kwEnd)

def mostP (p : Prg) (t : Th) (k : Nat) : Int := if argOf k = 1 then p.v else if argOf k = 2 then t.ls.length else if argOf k = 3 then p.ts.length else 1
def okLine (p : Prg) (t : Th) (num : Nat) (l : Ln) : Bool := decide (1 ≤ l.k) && decide (l.k ≤ 7) && decide (0 ≤ l.a) && decide (l.a < mostP p t l.k.toNat) && decide (l.n = (num : Int))
def okLines (p : Prg) (t : Th) : Nat → List Ln → Bool
  | _, [] => true
  | num, l :: r => okLine p t (num + 1) l && okLines p t (num + 1) r
/-- one thread: its number of lines, the count of lines ahead of it, the names ahead of it, the number of the line ahead of it -/
def okTh (p : Prg) (c num : Nat) (ns : List (List UInt8)) (t : Th) : Bool :=
  decide (t.ls.length ≠ 0) && decide (c + t.ls.length ≤ 6) && namedL t.nm.data.toList && !(ns.contains t.nm.data.toList) && okLines p t (num + 1) t.ls
def okThs (p : Prg) : Nat → Nat → List (List UInt8) → List Th → Bool
  | _, _, _, [] => true
  | c, num, ns, t :: r => okTh p c num ns t && okThs p (c + t.ls.length) (num + t.ls.length + 2) (ns ++ [t.nm.data.toList]) r
def checkP (p : Prg) : Bool := decide (1 ≤ p.v) && decide (p.v ≤ 8) && decide (p.ts.length ≠ 0) && okThs p 0 1 [] p.ts

def lineT (p : Prg) (l : Ln) : List UInt8 :=
  if argOf l.k.toNat = 0 then kwOf l.k.toNat
  else if argOf l.k.toNat = 3 then kwOf l.k.toNat ++ 32 :: ((p.ts[l.a.toNat]?.map fun t => t.nm.data.toList).getD [])
  else kwOf l.k.toNat ++ 32 :: Lib.itoa l.a
def linesT (p : Prg) (ls : List Ln) : List UInt8 := ls.flatMap fun l => lineT p l ++ [10]
def thT (p : Prg) (t : Th) : List UInt8 := kwThread ++ 32 :: t.nm.data.toList ++ [10] ++ linesT p t.ls ++ kwEnd ++ [10]
def textP (p : Prg) : List UInt8 := kwValues ++ 32 :: Lib.itoa p.v ++ [10] ++ p.ts.flatMap (thT p)

/-- the lines of a text, each with its line feed; the last one perhaps without -/
def splitLs : List UInt8 → List (List UInt8)
  | [] => []
  | c :: r => if c.toNat = 10 then [c] :: splitLs r else match splitLs r with
    | [] => [[c]]
    | x :: xs => (c :: x) :: xs

/-- what the reader holds: the program so far, is a thread open, the names of the lines so far -/
structure PS where
  v : Int
  ts : List Th
  op : Bool
  ns : List (List UInt8)
/-- a text of digits, as a number -/
def valD (l : List UInt8) : Int := (valL l : Int)
/-- a line is put behind the last thread -/
def putLn (ts : List Th) (l : Ln) : List Th := match ts.getLast? with
  | none => ts
  | some t => ts.dropLast ++ [⟨t.nm, t.ls ++ [l]⟩]
def cutL (x : List UInt8) : List UInt8 × List UInt8 × Bool := (x.takeWhile (fun c => decide (c.toNat ≠ 32)), (x.dropWhile (fun c => decide (c.toNat ≠ 32))).tail, x.any fun c => decide (c.toNat = 32))
def rdLine (st : PS) (at_ : Nat) (key rest : List UInt8) (more : Bool) : Option PS :=
  if kindOf key = 0 then none
  else if argOf (kindOf key) = 0 then (if more then none else some { st with ts := putLn st.ts ⟨kindOf key, 0, at_⟩, ns := st.ns ++ [[]] })
  else if argOf (kindOf key) = 3 then (if namedL rest then some { st with ts := putLn st.ts ⟨kindOf key, 0, at_⟩, ns := st.ns ++ [rest] } else none)
  else if numL rest then some { st with ts := putLn st.ts ⟨kindOf key, valD rest, at_⟩, ns := st.ns ++ [[]] } else none
def rdText (st : PS) (at_ : Nat) (x : List UInt8) : Option PS :=
  if at_ = 1 then (if (cutL x).1 = kwValues ∧ numL (cutL x).2.1 = true then some { st with v := valD (cutL x).2.1 } else none)
  else if st.op = false then (if (cutL x).1 = kwThread ∧ namedL (cutL x).2.1 = true then some { st with ts := st.ts ++ [⟨⟨(cutL x).2.1.toArray⟩, []⟩], op := true } else none)
  else if x = kwEnd then some { st with op := false }
  else rdLine st at_ (cutL x).1 (cutL x).2.1 (cutL x).2.2
def rd (st : PS) (at_ : Nat) (x : List UInt8) : Option PS := if x.getLast? = some 10 then rdText st at_ x.dropLast else none
/-- what reading leaves: the number of the first line that does not fit, or the reader behind all lines -/
def rdAll : PS → Nat → List (List UInt8) → Nat ⊕ PS × Nat
  | st, n, [] => .inr (st, n)
  | st, n, x :: xs => match rd st (n + 1) x with
    | none => .inl (n + 1)
    | some st' => rdAll st' (n + 1) xs
def findTh (ts : List Th) (x : List UInt8) : Option Nat := ts.findIdx? fun t => t.nm.data.toList == x
def fixLn (all : List Th) (l : Ln) : List UInt8 → Option Ln
  | [] => some l
  | c :: y => match findTh all (c :: y) with
    | none => none
    | some a => some ⟨l.k, a, l.n⟩
def resLines (all : List Th) : List Ln → List (List UInt8) → Option (List Ln)
  | [], _ => some []
  | l :: r, ns =>
    match fixLn all l (ns.headD []), resLines all r ns.tail with
    | some l', some r' => some (l' :: r')
    | _, _ => none
def resThs (all : List Th) : List Th → List (List UInt8) → Option (List Th)
  | [], _ => some []
  | t :: r, ns => match resLines all t.ls ns, resThs all r (ns.drop t.ls.length) with
    | some ls, some r' => some (⟨t.nm, ls⟩ :: r')
    | _, _ => none
/-- the program with a text, or the number of a line -/
def parseP (s : List UInt8) : Nat ⊕ Prg :=
  match rdAll ⟨0, [], false, []⟩ 0 (splitLs s) with
  | .inl n => .inl n
  | .inr (st, n) => if st.ts.length = 0 ∨ st.op = true then .inl (n + 1) else
    match resThs st.ts st.ts st.ns with
    | none => .inl 0
    | some ts => if checkP ⟨st.v, ts⟩ then .inr ⟨st.v, ts⟩ else .inl 0
end Go.Proofs.YtpkefohcccpncaaGreatDoor
