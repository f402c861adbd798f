/- Part of a proof of basisExact_holds. -/
import Derived.Test.YtbmheekaclmibaaGreatXMemAQ
import Derived.Lib.ItoaMem
import Derived.Lib.AtoiAllCases
import Derived.Lib.ItoaLen
namespace Go.Proofs.YtbmheekaclmibaaGreat
open Go.RowKit
set_option linter.unusedSimpArgs false
set_option linter.unusedVariables false
def digitB (c : UInt8) : Bool := decide (48 ≤ c.toNat) && decide (c.toNat ≤ 57)
def runL (p : UInt8 → Bool) (l : List UInt8) : Nat := (l.takeWhile p).length
end Go.Proofs.YtbmheekaclmibaaGreat
namespace Go.Proofs.YtbmheekaclmibaaGreat
set_option linter.unusedSimpArgs false
set_option linter.unusedVariables false
mutual
def i64V : V → Bool | .mk n ks => decide (-9223372036854775808 ≤ n) && decide (n ≤ 9223372036854775807) && i64L ks
def i64L : List V → Bool | [] => true | v :: r => i64V v && i64L r
end
theorem i64L_all : ∀ l : List V, i64L l = l.all i64V
 | [] => rfl
 | v :: r => by rw [i64L, List.all_cons, i64L_all r]
theorem i64V_eq (v : V) : i64V v = (decide (-9223372036854775808 ≤ v.n) && decide (v.n ≤ 9223372036854775807) && v.ks.all i64V) := by cases v; rw [i64V, i64L_all]; rfl
/- digits -/
/- the program's reader -/
def minusAt (l : List UInt8) (a : Nat) : Nat := if l[a]? = some 45 then a + 1 else a
def numEnd (l : List UInt8) (a : Nat) : Nat := minusAt l a + runL digitB (l.drop (minusAt l a))
def pk (g : Nat → Nat → Option (V × Nat × Nat)) (l : List UInt8) : Nat → List V → Nat → Nat → Option (List V × Nat × Nat)
 | 0, _, _, _ => none
 | f + 1, acc, a, m => match g a m with
   | none => none
   | some (v, a1, m1) => if l[a1]? = some 32 then pk g l f (acc ++ [v]) (a1 + 1) m1 else some (acc ++ [v], a1, m1)
def pv (l : List UInt8) : Nat → Nat → Nat → Option (V × Nat × Nat)
 | 0, _, _ => none
 | f + 1, a, m => match Lib.atoiAll ((l.take (numEnd l a)).drop a) with
   | .ok n => if 128 < m + 1 then none else
       if l[numEnd l a]? = some 40 then
         match pk (pv l f) l 129 [] (numEnd l a + 1) (m + 1) with
         | none => none
         | some (ks, a', m') => if l[a']? = some 41 then some (.mk n ks, a' + 1, m') else none
       else some (.mk n [], numEnd l a, m + 1)
   | _ => none
/- the reference's reader -/
def refFrom (l : List UInt8) : Nat := if l.head? = some 45 then 1 else 0
def refRun (l : List UInt8) : Nat := min (runL digitB (l.drop (refFrom l))) 20
def foldU (b : Nat) (l : List UInt8) : Nat := l.foldl (fun b c => (10 * b + (c.toNat - 48)) % 18446744073709551616) b
def refNum (l : List UInt8) : Int :=
 let u := foldU 0 ((l.drop (refFrom l)).take (refRun l))
 let x := if l.head? = some 45 then (18446744073709551616 - u) % 18446744073709551616 else u
 if x < 9223372036854775808 then (x : Int) else (x : Int) - 18446744073709551616
def rk (g : List UInt8 → Option (V × Nat)) (l : List UInt8) : Nat → List V → Nat → Option (List V × Nat)
 | 0, _, _ => none
 | f + 1, acc, a => if l[a]? = some 41 then some (acc, a + 1) else
   match g (l.drop (a + 1)) with
   | none => none
   | some (v, k) => if l.length ≤ a + 1 + k then none else if l[a + 1 + k]? = some 32 ∨ l[a + 1 + k]? = some 41 then rk g l f (acc ++ [v]) (a + 1 + k) else none
def rv : Nat → List UInt8 → Option (V × Nat)
 | d, l =>
   if refRun l = 0 then none else
   if l[refFrom l + refRun l]? = some 40 then
     match d with
     | 0 => none
     | d + 1 => (rk (rv d) l (l.length + 1) [] (refFrom l + refRun l)).map fun p => (.mk (refNum l) p.1, p.2)
   else some (.mk (refNum l) [], refFrom l + refRun l)
/- both parse -/
/- what the reader's function leaves -/
end Go.Proofs.YtbmheekaclmibaaGreat
