/- Part of a proof of orderExact_card. -/
import Derived.Test.YtlmnkcfnihhlgaaGreatDoorXMemAQ
import Derived.Lib.ItoaMem
import Derived.Lib.AtoiAllCases
import Derived.Lib.ItoaLen
namespace Go.Proofs.YtlmnkcfnihhlgaaGreatDoor
open Go.RowKit
set_option linter.unusedSimpArgs false
set_option linter.unusedVariables false
def digitB (c : UInt8) : Bool := decide (48 ≤ c.toNat) && decide (c.toNat ≤ 57)
def runL (p : UInt8 → Bool) (l : List UInt8) : Nat := (l.takeWhile p).length
theorem runL_le (p : UInt8 → Bool) (l : List UInt8) : runL p l ≤ l.length := by
 unfold runL; exact List.Sublist.length_le (List.takeWhile_sublist _)
theorem runL_lt {p : UInt8 → Bool} {l : List UInt8} {k : Nat} (hk : k ≤ runL p l) (hl : k < l.length) (hp : p l[k] = true) : k + 1 ≤ runL p l := by
 unfold runL at *
 induction l generalizing k with
 | nil => simp at hl
 | cons a l ih =>
   cases k with
   | zero => simp at hp; simp [List.takeWhile_cons, hp]
   | succ k =>
     by_cases ha : p a = true
     · simp only [List.takeWhile_cons, ha, if_true, List.length_cons] at hk ⊢
       have := ih (k := k) (by omega) (by simpa using hl) (by simpa using hp)
       omega
     · simp [List.takeWhile_cons, ha] at hk
theorem runL_eq {p : UInt8 → Bool} {l : List UInt8} {k : Nat} (hk : k ≤ runL p l) (hl : k < l.length) (hp : p l[k] = false) : runL p l = k := by
 unfold runL at *
 induction l generalizing k with
 | nil => simp at hl
 | cons a l ih =>
   cases k with
   | zero => simp at hp; simp [List.takeWhile_cons, hp]
   | succ k =>
     by_cases ha : p a = true
     · simp only [List.takeWhile_cons, ha, if_true, List.length_cons] at hk ⊢
       have := ih (k := k) (by omega) (by simpa using hl) (by simpa using hp)
       omega
     · simp [List.takeWhile_cons, ha] at hk
theorem digit_ofNat (d : Nat) (h : d < 10) : (UInt8.ofNat (48 + d)).toNat = 48 + d := by
 simp; omega
theorem dec_digits : ∀ (n u : Nat), u ≤ n → (Lib.decDigits u).all digitB = true := by
 intro n
 induction n with
 | zero => intro u hu; obtain rfl : u = 0 := by omega
           rw [Lib.decDigits, dif_pos (by omega)]; decide
 | succ n ih =>
   intro u hu
   rw [Lib.decDigits]
   by_cases h : u < 10
   · rw [dif_pos h]
     have := digit_ofNat u h
     simp only [List.all_cons, List.all_nil, Bool.and_true, digitB, this]; simp; omega
   · rw [dif_neg h, List.all_append, ih (u / 10) (by omega)]
     have := digit_ofNat (u % 10) (by omega)
     simp only [List.all_cons, List.all_nil, Bool.and_true, Bool.true_and, digitB, this]; simp; omega
theorem dec_pos (u : Nat) : 0 < (Lib.decDigits u).length := by rw [Lib.decDigits_length]; exact Lib.nDigits_pos u
end Go.Proofs.YtlmnkcfnihhlgaaGreatDoor
namespace Go.Proofs.YtlmnkcfnihhlgaaGreatDoor
set_option linter.unusedSimpArgs false
set_option linter.unusedVariables false
mutual
def textV : V → List UInt8 | .mk n ks => Lib.itoa n ++ (textK 40 ks ++ (if ks.isEmpty then [] else [41]))
def textK (c : UInt8) : List V → List UInt8 | [] => [] | v :: r => c :: (textV v ++ textK 32 r)
end
mutual
def i64V : V → Bool | .mk n ks => decide (-9223372036854775808 ≤ n) && decide (n ≤ 9223372036854775807) && i64L ks
def i64L : List V → Bool | [] => true | v :: r => i64V v && i64L r
end
theorem i64L_all : ∀ l : List V, i64L l = l.all i64V
 | [] => rfl
 | v :: r => by rw [i64L, List.all_cons, i64L_all r]
theorem i64V_eq (v : V) : i64V v = (decide (-9223372036854775808 ≤ v.n) && decide (v.n ≤ 9223372036854775807) && v.ks.all i64V) := by cases v; rw [i64V, i64L_all]; rfl
theorem textV_eq (v : V) : textV v = Lib.itoa v.n ++ (textK 40 v.ks ++ (if v.ks.isEmpty then [] else [41])) := by cases v; rw [textV]; rfl
theorem textK_snoc (c : UInt8) : ∀ (l : List V) (v : V), l ≠ [] → textK c (l ++ [v]) = textK c l ++ (32 :: textV v)
 | [], _, h => absurd rfl h
 | [a], v, _ => by simp [textK]
 | a :: b :: r, v, _ => by
   rw [List.cons_append, textK, textK_snoc 32 (b :: r) v (by simp)]
   simp [textK]
/- digits -/
def foldD (b : Nat) (l : List UInt8) : Nat := l.foldl (fun b c => 10 * b + (c.toNat - 48)) b
theorem foldD_dec : ∀ (n u : Nat), u ≤ n → foldD 0 (Lib.decDigits u) = u := by
 intro n
 induction n with
 | zero => intro u h; obtain rfl : u = 0 := by omega
           rw [Lib.decDigits, dif_pos (by omega)]; rfl
 | succ n ih =>
   intro u h
   by_cases h1 : u < 10
   · rw [Lib.decDigits, dif_pos h1]
     show 10 * 0 + ((UInt8.ofNat (48 + u)).toNat - 48) = u
     simp; omega
   · rw [Lib.decDigits, dif_neg h1]
     unfold foldD at *
     rw [List.foldl_append, ih (u / 10) (by omega)]
     show 10 * (u / 10) + ((UInt8.ofNat (48 + u % 10)).toNat - 48) = u
     simp; omega
theorem foldD_mono : ∀ (l : List UInt8) (b : Nat), b ≤ foldD b l
 | [], b => Nat.le_refl _
 | c :: r, b => by
   have := foldD_mono r (10 * b + (c.toNat - 48))
   have e : foldD b (c :: r) = foldD (10 * b + (c.toNat - 48)) r := rfl
   rw [e]; omega
theorem parseUint_digits : ∀ (l : List UInt8) (b : Nat), l.all digitB = true → foldD b l < 18446744073709551616 → Lib.parseUint10 b l = .ok (foldD b l)
 | [], b, _, _ => rfl
 | c :: r, b, h, h2 => by
   rw [List.all_cons, Bool.and_eq_true] at h
   have hc : 48 ≤ c.toNat ∧ c.toNat ≤ 57 := by simpa [digitB] using h.1
   have e : foldD b (c :: r) = foldD (10 * b + (c.toNat - 48)) r := rfl
   have h3 := foldD_mono r (10 * b + (c.toNat - 48))
   rw [e] at h2 ⊢
   rw [Lib.parseUint10, if_pos hc, if_neg (by omega), if_neg (by omega), Nat.mul_comm b 10]
   exact parseUint_digits r _ h.2 h2
theorem dec_ne (u : Nat) : Lib.decDigits u ≠ [] := fun e => by have := dec_pos u; rw [e] at this; simp at this
theorem parseMag_dec (u : Nat) (h : u < 18446744073709551616) : Lib.parseMag (Lib.decDigits u) = .ok u := by
 have hf := foldD_dec u u (Nat.le_refl _)
 unfold Lib.parseMag
 rw [if_neg (dec_ne u), parseUint_digits _ 0 (dec_digits u u (Nat.le_refl _)) (by rw [hf]; exact h), hf]
theorem dec_cons (u : Nat) : ∃ c r, Lib.decDigits u = c :: r ∧ 48 ≤ c.toNat ∧ c.toNat ≤ 57 := by
 have h := dec_digits u u (Nat.le_refl _)
 rcases e : Lib.decDigits u with _ | ⟨c, r⟩
 · exact absurd e (dec_ne u)
 · rw [e, List.all_cons, Bool.and_eq_true] at h
   exact ⟨c, r, rfl, by simpa [digitB] using h.1⟩
theorem atoi_itoa {n : Int} (h0 : -9223372036854775808 ≤ n) (h1 : n ≤ 9223372036854775807) : Lib.atoiAll (Lib.itoa n) = .ok n := by
 unfold Lib.itoa
 by_cases h : n < 0
 · rw [if_pos h, Lib.atoiAll_minus, parseMag_dec _ (by omega), Lib.signed, if_neg (by omega)]
   congr 1; omega
 · obtain ⟨c, r, e, h2, h3⟩ := dec_cons n.toNat
   have hm := parseMag_dec n.toNat (by omega)
   rw [if_neg h]
   rw [e] at hm ⊢
   rw [Lib.atoiAll_plain c r (by omega) (by omega), hm, Lib.signless, if_neg (by omega)]
   congr 1; omega
def goesOn (r : List UInt8) : Prop := ∀ c ∈ r.head?, digitB c = false ∧ c ≠ 40
theorem run_of {p : UInt8 → Bool} : ∀ {d r : List UInt8}, d.all p = true → (∀ c ∈ r.head?, p c = false) → runL p (d ++ r) = d.length
 | [], [], _, _ => rfl
 | [], c :: r, _, h => by
   have := h c (by simp)
   simp [runL, List.takeWhile_cons, this]
 | a :: d, r, h1, h2 => by
   rw [List.all_cons, Bool.and_eq_true] at h1
   have := run_of (d := d) (r := r) h1.2 h2
   unfold runL at *
   rw [List.cons_append, List.takeWhile_cons, if_pos h1.1, List.length_cons, this, List.length_cons]

/- the program's reader -/
def minusAt (l : List UInt8) (a : Nat) : Nat := if l[a]? = some 45 then a + 1 else a
def numEnd (l : List UInt8) (a : Nat) : Nat := minusAt l a + runL digitB (l.drop (minusAt l a))
def pk (g : Nat → Nat → Option (V × Nat × Nat)) (l : List UInt8) : Nat → List V → Nat → Nat → Option (List V × Nat × Nat)
 | 0, _, _, _ => none
 | f + 1, acc, a, m => match g a m with
   | none => none
   | some (v, a1, m1) => if l[a1]? = some 32 then pk g l f (acc ++ [v]) (a1 + 1) m1 else some (acc ++ [v], a1, m1)
def pv (l : List UInt8) : Nat → Nat → Nat → Option (V × Nat × Nat)
 | 0, _, _ => none
 | f + 1, a, m => match Lib.atoiAll ((l.take (numEnd l a)).drop a) with
   | .ok n => if 128 < m + 1 then none else
       if l[numEnd l a]? = some 40 then
         match pk (pv l f) l 129 [] (numEnd l a + 1) (m + 1) with
         | none => none
         | some (ks, a', m') => if l[a']? = some 41 then some (.mk n ks, a' + 1, m') else none
       else some (.mk n [], numEnd l a, m + 1)
   | _ => none
theorem num_at {n : Int} (h0 : -9223372036854775808 ≤ n) (h1 : n ≤ 9223372036854775807) (pre rest : List UInt8) (hr : ∀ c ∈ rest.head?, digitB c = false) :
   numEnd (pre ++ (Lib.itoa n ++ rest)) pre.length = pre.length + (Lib.itoa n).length ∧
   ((pre ++ (Lib.itoa n ++ rest)).take (pre.length + (Lib.itoa n).length)).drop pre.length = Lib.itoa n := by
 constructor
 · unfold numEnd minusAt Lib.itoa
   by_cases h : n < 0
   · rw [if_pos h]
     have e : (pre ++ (45 :: Lib.decDigits n.natAbs ++ rest))[pre.length]? = some 45 := by rw [List.getElem?_append_right (Nat.le_refl _)]; simp
     rw [if_pos e]
     have e2 : (pre ++ (45 :: Lib.decDigits n.natAbs ++ rest)).drop (pre.length + 1) = Lib.decDigits n.natAbs ++ rest := by
       rw [List.drop_append]; simp
     rw [e2, run_of (dec_digits _ _ (Nat.le_refl _)) hr, List.length_cons]
     omega
   · rw [if_neg h]
     obtain ⟨c, r, e, h2, h3⟩ := dec_cons n.toNat
     have e1 : ¬ (pre ++ (Lib.decDigits n.toNat ++ rest))[pre.length]? = some 45 := by
       rw [List.getElem?_append_right (Nat.le_refl _), e]
       simp only [Nat.sub_self, List.cons_append, List.getElem?_cons_zero, Option.some.injEq]
       intro e; subst e; exact absurd h2 (by decide)
     rw [if_neg e1]
     have e2 : (pre ++ (Lib.decDigits n.toNat ++ rest)).drop pre.length = Lib.decDigits n.toNat ++ rest := by rw [List.drop_append]; simp
     rw [e2, run_of (dec_digits _ _ (Nat.le_refl _)) hr]
 · rw [List.take_append, List.take_of_length_le (by omega), List.drop_append]
   simp
theorem goes_k (ks : List V) (rest : List UInt8) (h : goesOn rest) : ∀ c ∈ (textK 40 ks ++ ((if ks.isEmpty then [] else [41]) ++ rest)).head?, digitB c = false := by
 cases ks with
 | nil => simpa [textK] using fun c hc => (h c hc).1
 | cons v r => simp [textK]; decide
theorem goes_sep (ks : List V) (rest : List UInt8) : goesOn (textK 32 ks ++ (41 :: rest)) := by
 cases ks with
 | nil => intro c hc; simp [textK] at hc; subst hc; decide
 | cons v r => intro c hc; simp [textK] at hc; subst hc; decide
theorem pk_text (l : List UInt8) (g : Nat → Nat → Option (V × Nat × Nat)) (rest : List UInt8) (m0 : Nat) : ∀ (ks : List V) (v : V) (f m : Nat) (acc : List V) (pre : List UInt8),
   (∀ k ∈ v :: ks, ∀ (m : Nat) (pre rest : List UInt8), goesOn rest → m0 ≤ m → m + k.size ≤ 128 → l = pre ++ (textV k ++ rest) → g pre.length m = some (k, pre.length + (textV k).length, m + k.size)) →
   l = pre ++ (textV v ++ (textK 32 ks ++ (41 :: rest))) → m0 ≤ m → m + (v.size + sizeL ks) ≤ 128 → 129 ≤ f + m →
   pk g l f acc pre.length m = some (acc ++ v :: ks, pre.length + (textV v ++ textK 32 ks).length, m + (v.size + sizeL ks))
 | [], v, f, m, acc, pre, hg, hl, hm, hs, hf => by
   have hw := V.size_pos v
   cases f with
   | zero => omega
   | succ f =>
     simp only [textK, List.nil_append] at hl
     simp only [sizeL] at hs ⊢
     have h1 := hg v (by simp) m pre (41 :: rest) (goes_sep [] rest) hm (by omega) hl
     have e : ¬ l[pre.length + (textV v).length]? = some 32 := by
       rw [hl, List.getElem?_append_right (by omega), List.getElem?_append_right (by omega)]
       simp
     rw [pk, h1]
     simp only [if_neg e, textK, List.append_nil, Nat.add_zero]
 | w :: ks, v, f, m, acc, pre, hg, hl, hm, hs, hf => by
   have hw := V.size_pos v
   have hw2 := V.size_pos w
   simp only [sizeL] at hs ⊢
   cases f with
   | zero => omega
   | succ f =>
     have h1 := hg v (by simp) m pre _ (goes_sep (w :: ks) rest) hm (by omega) hl
     have e : l[pre.length + (textV v).length]? = some 32 := by
       rw [hl, List.getElem?_append_right (by omega), List.getElem?_append_right (by omega)]
       simp [textK]
     have e2 : (pre ++ (textV v ++ [32])).length = pre.length + (textV v).length + 1 := by simp; omega
     have h2 := pk_text l g rest m0 ks w f (m + v.size) (acc ++ [v]) (pre ++ (textV v ++ [32])) (fun k hk => hg k (List.mem_cons_of_mem _ hk)) (by rw [hl]; simp [textK]) (by omega) (by omega) (by omega)
     rw [e2] at h2
     rw [pk, h1]
     simp only [if_pos e, h2, textK, Option.some.injEq, Prod.mk.injEq, List.append_assoc, List.cons_append, List.nil_append, List.length_append, List.length_cons, true_and]
     exact ⟨by omega, by omega⟩
theorem pv_text (v : V) : i64V v = true → ∀ (f m : Nat) (pre rest : List UInt8), goesOn rest → 129 ≤ f + m → m + v.size ≤ 128 →
   pv (pre ++ (textV v ++ rest)) f pre.length m = some (v, pre.length + (textV v).length, m + v.size) := by
 induction v using V.ind with
 | h n ks ih =>
   intro hr f m pre rest hg hf hs
   rw [i64V_eq, Bool.and_eq_true, Bool.and_eq_true] at hr
   obtain ⟨⟨h0, h1⟩, hk⟩ := hr
   have h0 : -9223372036854775808 ≤ n := of_decide_eq_true h0
   have h1 : n ≤ 9223372036854775807 := of_decide_eq_true h1
   rw [V.size_eq] at hs ⊢
   simp only [V.ks_mk] at hs hk ⊢
   cases f with
   | zero => omega
   | succ f =>
     have ht : pre ++ (textV (.mk n ks) ++ rest) = pre ++ (Lib.itoa n ++ (textK 40 ks ++ ((if ks.isEmpty then [] else [41]) ++ rest))) := by rw [textV_eq]; simp
     obtain ⟨e1, e2⟩ := num_at h0 h1 pre _ (goes_k ks rest hg)
     rw [← ht] at e1 e2
     have hlen : (textV (.mk n ks)).length = (Lib.itoa n).length + ((textK 40 ks).length + (if ks.isEmpty then [] else [41] : List UInt8).length) := by rw [textV_eq]; simp
     generalize hL : pre ++ (textV (.mk n ks) ++ rest) = l at *
     rw [pv, e1, e2, atoi_itoa h0 h1]
     simp only
     rw [if_neg (by omega)]
     cases ks with
     | nil =>
       have e3 : ¬ l[pre.length + (Lib.itoa n).length]? = some 40 := by
         rw [ht, List.getElem?_append_right (by omega), List.getElem?_append_right (by omega)]
         simp only [textK, List.isEmpty_nil, if_true, List.nil_append]
         intro e
         have := hg 40 (by rw [List.head?_eq_getElem?]; simpa using e)
         exact this.2 rfl
       rw [if_neg e3, hlen]
       simp [textK, sizeL]
     | cons v r =>
       have e3 : l[pre.length + (Lib.itoa n).length]? = some 40 := by
         rw [ht, List.getElem?_append_right (by omega), List.getElem?_append_right (by omega)]
         simp [textK]
       simp only [sizeL] at hs ⊢
       have e4 : (pre ++ (Lib.itoa n ++ [40])).length = pre.length + (Lib.itoa n).length + 1 := by simp; omega
       have hp := pk_text l (pv l f) rest (m + 1) r v 129 (m + 1) [] (pre ++ (Lib.itoa n ++ [40])) (fun k hk2 m' pre' rest' g' q1 q2 q3 => by
         rw [q3]
         exact ih k hk2 (List.all_eq_true.1 hk k hk2) f m' pre' rest' g' (by omega) q2) (by rw [ht]; simp [textK]) (by omega) (by omega) (by omega)
       rw [e4] at hp
       rw [if_pos e3, hp]
       have e5 : l[pre.length + (Lib.itoa n).length + 1 + (textV v ++ textK 32 r).length]? = some 41 := by
         rw [ht, List.getElem?_append_right (by omega), List.getElem?_append_right (by omega)]
         simp only [textK, List.isEmpty_cons, Bool.false_eq_true, if_false, List.cons_append, List.nil_append]
         rw [show pre.length + (Lib.itoa n).length + 1 + (textV v ++ textK 32 r).length - pre.length - (Lib.itoa n).length = (textV v ++ textK 32 r).length + 1 by omega, List.getElem?_cons_succ, List.getElem?_append_right (Nat.le_refl _)]
         simp
       simp only [if_pos e5, List.nil_append, hlen]
       simp only [textK, List.isEmpty_cons, Bool.false_eq_true, if_false, Option.some.injEq, Prod.mk.injEq, true_and, List.length_cons, List.length_append, List.length_nil]
       omega
/- the reference's reader -/
def refFrom (l : List UInt8) : Nat := if l.head? = some 45 then 1 else 0
def refRun (l : List UInt8) : Nat := min (runL digitB (l.drop (refFrom l))) 20
def foldU (b : Nat) (l : List UInt8) : Nat := l.foldl (fun b c => (10 * b + (c.toNat - 48)) % 18446744073709551616) b
def refNum (l : List UInt8) : Int :=
 let u := foldU 0 ((l.drop (refFrom l)).take (refRun l))
 let x := if l.head? = some 45 then (18446744073709551616 - u) % 18446744073709551616 else u
 if x < 9223372036854775808 then (x : Int) else (x : Int) - 18446744073709551616
def rk (g : List UInt8 → Option (V × Nat)) (l : List UInt8) : Nat → List V → Nat → Option (List V × Nat)
 | 0, _, _ => none
 | f + 1, acc, a => if l[a]? = some 41 then some (acc, a + 1) else
   match g (l.drop (a + 1)) with
   | none => none
   | some (v, k) => if l.length ≤ a + 1 + k then none else if l[a + 1 + k]? = some 32 ∨ l[a + 1 + k]? = some 41 then rk g l f (acc ++ [v]) (a + 1 + k) else none
def rv : Nat → List UInt8 → Option (V × Nat)
 | d, l =>
   if refRun l = 0 then none else
   if l[refFrom l + refRun l]? = some 40 then
     match d with
     | 0 => none
     | d + 1 => (rk (rv d) l (l.length + 1) [] (refFrom l + refRun l)).map fun p => (.mk (refNum l) p.1, p.2)
   else some (.mk (refNum l) [], refFrom l + refRun l)
/- both parse -/
def okText (l : List UInt8) (v : V) : Bool := decide (v.size ≤ 128) && decide (textV v = l)
def parseP (l : List UInt8) : Option V := match pv l 129 0 0 with
 | some (v, a, _) => if a = l.length ∧ okText l v = true then some v else none
 | none => none
theorem goesOn_nil : goesOn [] := fun c hc => by simp at hc
theorem parseP_of {v : V} (h : i64V v = true) (hs : v.size ≤ 128) : parseP (textV v) = some v := by
 have h1 := pv_text v h 129 0 [] [] goesOn_nil (by omega) (by omega)
 rw [List.nil_append, List.append_nil] at h1
 have h2 : okText (textV v) v = true := by simp [okText, hs]
 unfold parseP
 rw [show pv (textV v) 129 0 0 = _ from h1]
 simp [h2]
theorem pk_inR (g : Nat → Nat → Option (V × Nat × Nat)) (l : List UInt8) (hg : ∀ a m v a' m', g a m = some (v, a', m') → i64V v = true) : ∀ (f : Nat) (acc : List V) (a m : Nat) (ks : List V) (a' m' : Nat), acc.all i64V = true → pk g l f acc a m = some (ks, a', m') → ks.all i64V = true
 | 0, _, _, _, _, _, _, _, h => by simp [pk] at h
 | f + 1, acc, a, m, ks, a', m', ha, h => by
   rw [pk] at h
   rcases e : g a m with _ | ⟨v, a1, m1⟩
   · rw [e] at h; simp at h
   · rw [e] at h
     simp only at h
     have hv : (acc ++ [v]).all i64V = true := by rw [List.all_append, ha]; simp [hg _ _ _ _ _ e]
     by_cases c : l[a1]? = some 32
     · rw [if_pos c] at h
       exact pk_inR g l hg f _ _ _ _ _ _ hv h
     · rw [if_neg c] at h
       injection h with h
       injection h with h _
       rw [← h]; exact hv
theorem pv_inR (l : List UInt8) : ∀ (f a m : Nat) (v : V) (a' m' : Nat), pv l f a m = some (v, a', m') → i64V v = true
 | 0, _, _, _, _, _, h => by simp [pv] at h
 | f + 1, a, m, v, a', m', h => by
   rw [pv] at h
   split at h
   · rename_i n hn
     obtain ⟨b0, b1⟩ := Lib.atoiAll_bounds hn
     have hb : (decide (-9223372036854775808 ≤ n) && decide (n ≤ 9223372036854775807)) = true := by simp [b0, b1]
     by_cases c : 128 < m + 1
     · rw [if_pos c] at h; simp at h
     rw [if_neg c] at h
     by_cases c2 : l[numEnd l a]? = some 40
     · rw [if_pos c2] at h
       split at h
       · simp at h
       · rename_i ks a1 m1 hp
         by_cases c3 : l[a1]? = some 41
         · rw [if_pos c3] at h
           injection h with h
           injection h with h _
           subst h
           rw [i64V, i64L_all, hb, Bool.true_and]
           exact pk_inR _ _ (pv_inR l f) _ _ _ _ _ _ _ (by simp) hp
         · rw [if_neg c3] at h; simp at h
     · rw [if_neg c2] at h
       injection h with h
       injection h with h _
       subst h
       rw [i64V_eq]
       simp [b0, b1]
   · simp at h
/- what the reader's function leaves -/
theorem minusAt_le {l : List UInt8} {a : Nat} (h : a ≤ l.length) : minusAt l a ≤ l.length ∧ a ≤ minusAt l a := by
 unfold minusAt
 split
 · rename_i e
   have : a < l.length := by
     by_cases h2 : a < l.length
     · exact h2
     · rw [List.getElem?_eq_none (by omega)] at e; simp at e
   omega
 · omega
theorem numEnd_le {l : List UInt8} {a : Nat} (h : a ≤ l.length) : numEnd l a ≤ l.length ∧ a ≤ numEnd l a := by
 have h1 := minusAt_le h
 have h2 := runL_le digitB (l.drop (minusAt l a))
 rw [List.length_drop] at h2
 unfold numEnd
 omega
theorem some_lt {l : List UInt8} {a : Nat} {c : UInt8} (h : l[a]? = some c) : a < l.length := by
 by_cases h2 : a < l.length
 · exact h2
 · rw [List.getElem?_eq_none (by omega)] at h; simp at h
theorem pk_ok (g : Nat → Nat → Option (V × Nat × Nat)) (l : List UInt8) (hg : ∀ a m v a' m', a ≤ l.length → g a m = some (v, a', m') → m < m' ∧ m' ≤ 128 ∧ a' ≤ l.length) : ∀ (f : Nat) (acc : List V) (a m : Nat) (ks : List V) (a' m' : Nat), a ≤ l.length → pk g l f acc a m = some (ks, a', m') → m < m' ∧ m' ≤ 128 ∧ a' ≤ l.length
 | 0, _, _, _, _, _, _, _, h => by simp [pk] at h
 | f + 1, acc, a, m, ks, a', m', ha, h => by
   rw [pk] at h
   rcases e : g a m with _ | ⟨v, a1, m1⟩
   · rw [e] at h; simp at h
   · rw [e] at h
     simp only at h
     have h1 := hg _ _ _ _ _ ha e
     by_cases c : l[a1]? = some 32
     · rw [if_pos c] at h
       have := some_lt c
       have h2 := pk_ok g l hg f _ _ _ _ _ _ (by omega) h
       omega
     · rw [if_neg c] at h
       injection h with h
       injection h with _ h
       injection h with h3 h4
       omega
theorem pv_ok (l : List UInt8) : ∀ (f a m : Nat) (v : V) (a' m' : Nat), a ≤ l.length → pv l f a m = some (v, a', m') → m < m' ∧ m' ≤ 128 ∧ a' ≤ l.length
 | 0, _, _, _, _, _, _, h => by simp [pv] at h
 | f + 1, a, m, v, a', m', ha, h => by
   have hn := numEnd_le ha
   rw [pv] at h
   split at h
   · by_cases c : 128 < m + 1
     · rw [if_pos c] at h; simp at h
     rw [if_neg c] at h
     by_cases c2 : l[numEnd l a]? = some 40
     · rw [if_pos c2] at h
       have := some_lt c2
       split at h
       · simp at h
       · rename_i ks a1 m1 hp
         have h1 := pk_ok _ _ (fun a m v a' m' ha h => pv_ok l f a m v a' m' ha h) _ _ _ _ _ _ _ (by omega) hp
         by_cases c3 : l[a1]? = some 41
         · rw [if_pos c3] at h
           have := some_lt c3
           injection h with h
           injection h with _ h
           injection h with h3 h4
           omega
         · rw [if_neg c3] at h; simp at h
     · rw [if_neg c2] at h
       injection h with h
       injection h with _ h
       injection h with h3 h4
       omega
   · simp at h
theorem pv_succ (l : List UInt8) (f a m : Nat) : pv l (f + 1) a m = match Lib.atoiAll ((l.take (numEnd l a)).drop a) with
   | .ok n => if 128 < m + 1 then none else
       if l[numEnd l a]? = some 40 then
         match pk (pv l f) l 129 [] (numEnd l a + 1) (m + 1) with
         | none => none
         | some (ks, a', m') => if l[a']? = some 41 then some (.mk n ks, a' + 1, m') else none
       else some (.mk n [], numEnd l a, m + 1)
   | _ => none := by rw [pv]
theorem textK_short (ks : List V) (h : ∀ k ∈ ks, i64V k = true → (textV k).length + 1 ≤ 23 * k.size) (hr : ks.all i64V = true) : ∀ c, (textK c ks).length ≤ 23 * sizeL ks := by
 induction ks with
 | nil => intro c; simp [textK]
 | cons v r ih =>
   intro c
   rw [List.all_cons, Bool.and_eq_true] at hr
   have h1 := h v (by simp) hr.1
   have h2 := ih (fun k hk => h k (List.mem_cons_of_mem _ hk)) hr.2 32
   simp only [sizeL, textK, List.length_cons, List.length_append]
   omega
theorem text_short (v : V) : i64V v = true → (textV v).length + 1 ≤ 23 * v.size := by
 induction v using V.ind with
 | h n ks ih =>
   intro h
   rw [i64V, i64L_all, Bool.and_eq_true, Bool.and_eq_true] at h
   have h1 := Lib.itoa_length_le n (of_decide_eq_true h.1.1) (of_decide_eq_true h.1.2)
   have h2 := textK_short ks ih h.2 40
   have h4 : ((if ks.isEmpty then [] else [41] : List UInt8)).length ≤ 1 := by cases ks <;> simp
   rw [V.size, textV]
   simp only [List.length_append]
   omega
end Go.Proofs.YtlmnkcfnihhlgaaGreatDoor
