/- Same: are two programs equal? The number that a text is. The kind that a word stands for: slices.IndexFunc over the words. The text of a line. -/
import Derived.Test.YtpkefohcccpncaaGreatDoorQAf
import Derived.Laws.StructEq
import Derived.Deep.QuietTactic
import Derived.BigQuiet
import Derived.Test.YtpkefohcccpncaaGreatDoorQAc
import Derived.Lib.AtoiTie
import Derived.Lib.AtoiAllCases
import Derived.Lib.AtoiErrMem
namespace Go.Proofs.YtpkefohcccpncaaGreatDoor
open Go.RowKit
set_option linter.unusedSimpArgs false
set_option linter.unusedVariables false

def eqLnB (x y : Ln) : Bool := x.k == y.k && (x.a == y.a && x.n == y.n)
def sameLns : List Ln → List Ln → Bool
  | [], [] => true
  | x :: xs, y :: ys => eqLnB x y && sameLns xs ys
  | _, _ => false
def sameTh (x y : Th) : Bool := x.nm.data.toList == y.nm.data.toList && sameLns x.ls y.ls
def sameThs : List Th → List Th → Bool
  | [], [] => true
  | x :: xs, y :: ys => sameTh x y && sameThs xs ys
  | _, _ => false
def sameP (p q : Prg) : Bool := p.v == q.v && sameThs p.ts q.ts
theorem eqLnB_self (x : Ln) : eqLnB x x = true := by simp [eqLnB]
theorem sameLns_self (xs : List Ln) : sameLns xs xs = true := by
  induction xs with
  | nil => rfl
  | cons x xs ih => simp [sameLns, eqLnB_self, ih]
theorem sameThs_self (xs : List Th) : sameThs xs xs = true := by
  induction xs with
  | nil => rfl
  | cons x xs ih => simp [sameThs, sameTh, sameLns_self, ih]
theorem sameP_self (p : Prg) : sameP p p = true := by simp [sameP, sameThs_self]
theorem sameLns_len : ∀ (xs ys : List Ln), xs.length ≠ ys.length → sameLns xs ys = false := by
  intro xs
  induction xs with
  | nil => intro ys h; cases ys with | nil => exact absurd rfl h | cons y ys => rfl
  | cons x xs ih =>
    intro ys h
    cases ys with
    | nil => rfl
    | cons y ys => simp only [sameLns]; rw [ih ys (by simpa using h)]; simp
theorem sameThs_len : ∀ (xs ys : List Th), xs.length ≠ ys.length → sameThs xs ys = false := by
  intro xs
  induction xs with
  | nil => intro ys h; cases ys with | nil => exact absurd rfl h | cons y ys => rfl
  | cons x xs ih =>
    intro ys h
    cases ys with
    | nil => rfl
    | cons y ys => simp only [sameThs]; rw [ih ys (by simpa using h)]; simp
theorem neLn (k1 a1 n1 k2 a2 n2 : Int) (w : World) : (binOp .neq 42 (.agg #[.int .i64 k1, .int .i64 a1, .int .i64 n1]) (.agg #[.int .i64 k2, .int .i64 a2, .int .i64 n2])).run Tryz.prog w = .ok (.bool (!eqLnB ⟨k1, a1, n1⟩ ⟨k2, a2, n2⟩)) w := by
  have u3 := Tryz.underlying3
  have a3 := Tryz.isAgg3
  have z3 := Tryz.sizeOf3
  have hS : Tryz.prog.underlying 42 = some (.struct (Tryz.prog.fieldsOf 42)) := by kernel_rfl
  have hp : Tryz.prog.stoodInHeld 42 = false := by kernel_rfl
  rw [run_neq_struct, show (10000 : Nat) = 9999 + 1 from rfl, run_equalIn_agg w 9999 42 _ _ hS hp]
  simp only [Program.fieldsOf, Tryz.underlying42]
  go_simp
  by_cases h1 : k1 = k2 <;> by_cases h2 : a1 = a2 <;> by_cases h3 : n1 = n2 <;> simp [h1, h2, h3, eqLnB]

set_option maxHeartbeats 2000000 in
theorem equalLn_any (A A' : Option Addr) (n n' c c' : Nat) (xs ys : List Ln) (w : World) (B B' : Nat) (hx : LnsAt w B A xs) (hy : LnsAt w B' A' ys) (hn : xs.length = n) (hn' : ys.length = n') (h9 : n ≤ 10000000000000) (b : Bool) (hb : sameLns xs ys = b) :
    Calls Tryz.prog 49 #[.slice A n c, .slice A' n' c'] w fun e w' => e = .returned (.bool b) ∧ ∃ q, w' = w.drewN q := by
  by_cases hl : n = n'
  · subst hl
    have c0 : ((n : Int) != n) = false := by simp
    have HB := Lib.hid hb
    have HX := Lib.hid hx
    have HY := Lib.hid hy
    have HN := Lib.hid hn
    have HN' := Lib.hid hn'
    have hg : ∀ W : World, (eqGuard .neq 42 (.tmp 19) (.tmp 23) (.agg #[]) (.agg #[])).run Tryz.prog W = (eqGuard .neq 42 (.tmp 19) (.tmp 23) (.agg #[]) (.agg #[])).run Tryz.prog W := fun _ => rfl
    clear hb hx hy hn hn' hg
    go_enter Tryz.func49, Tryz.ntmps49
    go_wp2
    go_loopw [13] (fun i wr => ∃ (k q : Nat), k ≤ n ∧ i = .int .i64 k ∧ Hid (wr = w.drewN q ∧ sameLns (xs.drop k) (ys.drop k) = b)) (fun i _ => n - (intOf i).toNat)
    case atStart => exact ⟨0, 0, by omega, rfl, Lib.hid ⟨rfl, HB.out⟩⟩
    case round =>
      obtain ⟨k, q, hk, rfl, HR⟩ := hrel
      obtain ⟨hw, hr⟩ := HR.out
      subst hw
      by_cases hlt : k < n
      · have hkx : k < xs.length := by rw [HN.out]; exact hlt
        have hky : k < ys.length := by rw [HN'.out]; exact hlt
        obtain ⟨ad, rfl, hab, h0, h1, h2⟩ := HX.out.at_ hkx
        obtain ⟨ad', rfl, hab', g0, g1, g2⟩ := HY.out.at_ hky
        rw [List.drop_eq_getElem_cons hkx, List.drop_eq_getElem_cons hky] at hr
        simp only [sameLns] at hr
        generalize xs[k]'hkx = x at *
        generalize ys[k]'hky = y at *
        obtain ⟨k1, a1, n1⟩ := x
        obtain ⟨k2, a2, n2⟩ := y
        dsimp only at *
        have ne := neLn k1 a1 n1 k2 a2 n2
        have HR2 := Lib.hid hr
        clear hr
        rcases he : eqLnB ⟨k1, a1, n1⟩ ⟨k2, a2, n2⟩ with _ | _
        · rw [he] at ne
          have HF : Hid (b = false) := Lib.hid (by rw [← HR2.out, he]; rfl)
          clear he
          go_wp2_with fail
          go_quiet (fail)
          go_wp2
          go_ret
          exact ⟨ret_bool HF.out.symm, _, World.drewN_drewN _ _ _⟩
        · rw [he] at ne
          have HF : Hid (sameLns (xs.drop (k + 1)) (ys.drop (k + 1)) = b) := Lib.hid (by rw [← HR2.out, he]; simp)
          clear he
          go_wp2_with fail
          go_quiet (fail)
          go_wp2
          go_roundw
          case rel => exact ⟨k + 1, _, by omega, by go_num, Lib.hid ⟨rfl, HF.out⟩⟩
          case measure => simp [intOf]; omega
      · obtain rfl : k = n := by omega
        have HF : Hid (b = true) := Lib.hid (by
          rw [← hr, List.drop_of_length_le (by rw [HN.out]; exact Nat.le_refl _), List.drop_of_length_le (by rw [HN'.out]; exact Nat.le_refl _)]; rfl)
        clear hr
        go_wp2
        go_ret
        exact ⟨ret_bool HF.out.symm, _, rfl⟩
  · have c0 : ((n : Int) != n') = true := by simp; omega
    have HF : Hid (b = false) := Lib.hid (by rw [← hb]; exact sameLns_len _ _ (by omega))
    go_enter Tryz.func49, Tryz.ntmps49
    go_wp2
    go_ret
    exact ⟨ret_bool HF.out.symm, 0, rfl⟩

set_option maxHeartbeats 2000000 in
theorem same1_any (nm nm' : ByteArray) (LA LA' : Option Addr) (ln ln' c c' : Nat) (xs ys : List Ln) (w : World) (hx : LnsAt w w.heap.size LA xs) (hy : LnsAt w w.heap.size LA' ys) (hn : xs.length = ln) (hn' : ys.length = ln') (h9 : ln ≤ 10000000000000) (b : Bool) (hb : sameTh ⟨nm, xs⟩ ⟨nm', ys⟩ = b) :
    Calls Tryz.prog 48 #[.agg #[.string nm, .slice LA ln c], .agg #[.string nm', .slice LA' ln' c']] w fun e w' => e = .returned (.bool b) ∧ Below w.heap.size w w' := by
  by_cases he : nm.data.toList = nm'.data.toList
  · have c0 : (nm.toList == nm'.toList) = true := by rw [str_eq_dec]; simpa using he
    have EQ : Hid (∀ o1 o2, Calls Tryz.prog 49 #[.slice LA ln c, .slice LA' ln' c'] ((w.alloc o1).alloc o2) fun e w' => e = .returned (.bool b) ∧ ∃ q, w' = ((w.alloc o1).alloc o2).drewN q) := Lib.hid (fun o1 o2 =>
      equalLn_any LA LA' ln ln' c c' xs ys _ w.heap.size w.heap.size (hx.below (((Below.refl _ _).alloc (Nat.le_refl _) _).alloc (by simp) _)) (hy.below (((Below.refl _ _).alloc (Nat.le_refl _) _).alloc (by simp) _)) hn hn' h9 b (by rw [← hb, sameTh]; simp [he]))
    clear hx hy hn hn' hb he
    go_enter Tryz.func48, Tryz.ntmps48
    go_wp2_with (go_at_call 49; go_must (refine (EQ.out _ _).mono ?_; rintro e w' ⟨rfl, q, rfl⟩))
    go_ret
    exact ⟨rfl, below_drewN (((Below.refl _ _).alloc (Nat.le_refl _) _).alloc (by simp) _) q⟩
  · have c0 : (nm.toList == nm'.toList) = false := by rw [str_eq_dec]; simpa using he
    have HF : Hid (b = false) := Lib.hid (by rw [← hb, sameTh, show (nm.data.toList == nm'.data.toList) = false from beq_eq_false_iff_ne.2 he]; rfl)
    clear hx hy hn hn' hb he
    go_enter Tryz.func48, Tryz.ntmps48
    go_wp2
    go_ret
    exact ⟨ret_bool HF.out.symm, ((Below.refl _ _).alloc (Nat.le_refl _) _).alloc (by simp) _⟩

set_option maxHeartbeats 2000000 in
theorem eqFuncTh_any (A A' : Option Addr) (n n' c c' : Nat) (xs ys : List Th) (w : World) (hx : ThsAt w w.heap.size A xs) (hy : ThsAt w w.heap.size A' ys) (hn : xs.length = n) (hn' : ys.length = n') (h9 : n ≤ 10000000000000) (hl9 : ∀ t ∈ xs, t.ls.length ≤ 10000000000000) (b : Bool) (hb : sameThs xs ys = b) :
    Calls Tryz.prog 47 #[.slice A n c, .slice A' n' c', .func (.func 48) #[] #[]] w fun e w' => e = .returned (.bool b) ∧ Below w.heap.size w w' := by
  by_cases hl : n = n'
  · subst hl
    have c0 : ((n : Int) != n) = false := by simp
    have HB := Lib.hid hb
    have HX := Lib.hid hx
    have HY := Lib.hid hy
    have HN := Lib.hid hn
    have HN' := Lib.hid hn'
    have HL9 := Lib.hid hl9
    clear hb hx hy hn hn' hl9
    go_enter Tryz.func47, Tryz.ntmps47
    go_wp2
    go_loopw [17] (fun i wr => ∃ (k : Nat), k ≤ n ∧ i = .int .i64 k ∧ Hid (Below w.heap.size w wr ∧ sameThs (xs.drop k) (ys.drop k) = b)) (fun i _ => n - (intOf i).toNat)
    case atStart => exact ⟨0, by omega, rfl, Lib.hid ⟨Below.refl _ _, HB.out⟩⟩
    case round =>
      obtain ⟨k, hk, rfl, HR⟩ := hrel
      obtain ⟨hbw, hr⟩ := HR.out
      by_cases hlt : k < n
      · have hkx : k < xs.length := by rw [HN.out]; exact hlt
        have hky : k < ys.length := by rw [HN'.out]; exact hlt
        obtain ⟨ad, LA, lc, rfl, hab, h0, h1, hL⟩ := (HX.out.below hbw).at_ hkx
        obtain ⟨ad', LA', lc', rfl, hab', g0, g1, gL⟩ := (HY.out.below hbw).at_ hky
        have l9 := HL9.out _ (List.getElem_mem hkx)
        rw [List.drop_eq_getElem_cons hkx, List.drop_eq_getElem_cons hky] at hr
        simp only [sameThs] at hr
        generalize xs[k]'hkx = x at *
        generalize ys[k]'hky = y at *
        obtain ⟨nm, ls⟩ := x
        obtain ⟨nm', ls'⟩ := y
        dsimp only at *
        obtain ⟨ln, hln⟩ : ∃ ln, ls.length = ln := ⟨_, rfl⟩
        obtain ⟨ln', hln'⟩ : ∃ ln, ls'.length = ln := ⟨_, rfl⟩
        rw [hln] at h1 l9
        rw [hln'] at g1
        have hwl : w.heap.size ≤ wr.heap.size := hbw.size
        obtain ⟨b1, hb1⟩ : ∃ b1, sameTh ⟨nm, ls⟩ ⟨nm', ls'⟩ = b1 := ⟨_, rfl⟩
        have SM : Hid (∀ o1 o2, Calls Tryz.prog 48 #[.agg #[.string nm, .slice LA ln lc], .agg #[.string nm', .slice LA' ln' lc']] ((wr.alloc o1).alloc o2) fun e w' => e = .returned (.bool b1) ∧ Below ((wr.alloc o1).alloc o2).heap.size ((wr.alloc o1).alloc o2) w') := Lib.hid (fun o1 o2 =>
          same1_any nm nm' LA LA' ln ln' lc lc' ls ls' _ ((hL.below (((Below.refl _ _).alloc hwl _).alloc (by simp; omega) _)).more (by simp; omega)) ((gL.below (((Below.refl _ _).alloc hwl _).alloc (by simp; omega) _)).more (by simp; omega)) hln hln' l9 b1 hb1)
        have HR2 : Hid ((b1 && sameThs (xs.drop (k + 1)) (ys.drop (k + 1))) = b) := Lib.hid (by rw [← hr, hb1])
        have g0' : ∀ o : Obj, (wr.alloc o).cell? (ad'.add (k * 2)) = some (.string nm') := fun o => (World.cell?_alloc_lt wr o _ (by rw [add_block]; omega)).trans g0
        have g1' : ∀ o : Obj, (wr.alloc o).cell? ⟨(ad'.add (k * 2)).block, (ad'.add (k * 2)).off + 1, none⟩ = some (.slice LA' ln' lc') := fun o => (World.cell?_alloc_lt wr o _ (by simp only [add_block]; omega)).trans g1
        have HBW := Lib.hid hbw
        clear hr hb1 hln hln' hL gL hbw
        rcases b1 with _ | _
        · have HF : Hid (b = false) := Lib.hid (by rw [← HR2.out]; rfl)
          go_wp2_with (go_at_call 48; go_must (refine (SM.out _ _).mono ?_; rintro e w' ⟨rfl, hb6⟩))
          go_ret
          exact ⟨ret_bool HF.out.symm, ((HBW.out.alloc hwl _).alloc (by simp; omega) _).trans (hb6.mono (by simp; omega))⟩
        · have HF : Hid (sameThs (xs.drop (k + 1)) (ys.drop (k + 1)) = b) := Lib.hid (by rw [← HR2.out]; simp)
          go_wp2_with (go_at_call 48; go_must (refine (SM.out _ _).mono ?_; rintro e w' ⟨rfl, hb6⟩))
          go_roundw
          case rel => exact ⟨k + 1, by omega, by go_num, Lib.hid ⟨((HBW.out.alloc hwl _).alloc (by simp; omega) _).trans (hb6.mono (by simp; omega)), HF.out⟩⟩
          case measure => simp [intOf]; omega
      · obtain rfl : k = n := by omega
        have HF : Hid (b = true) := Lib.hid (by
          rw [← hr, List.drop_of_length_le (by rw [HN.out]; exact Nat.le_refl _), List.drop_of_length_le (by rw [HN'.out]; exact Nat.le_refl _)]; rfl)
        have HBW := Lib.hid hbw
        clear hr hbw
        go_wp2
        go_ret
        exact ⟨ret_bool HF.out.symm, HBW.out⟩
  · have c0 : ((n : Int) != n') = true := by simp; omega
    have HF : Hid (b = false) := Lib.hid (by rw [← hb]; exact sameThs_len _ _ (by omega))
    clear hb hx hy hn hn' hl9
    go_enter Tryz.func47, Tryz.ntmps47
    go_wp2
    go_ret
    exact ⟨ret_bool HF.out.symm, Below.refl _ _⟩

set_option maxHeartbeats 1000000 in
theorem sameP_any (p q : Prg) (A A' : Option Addr) (n n' c c' : Nat) (w : World) (hx : ThsAt w w.heap.size A p.ts) (hy : ThsAt w w.heap.size A' q.ts) (hn : p.ts.length = n) (hn' : q.ts.length = n') (hok : PrgOk p) (b : Bool) (hb : sameP p q = b) :
    Calls Tryz.prog 20 #[.agg #[.int .i64 p.v, .slice A n c], .agg #[.int .i64 q.v, .slice A' n' c']] w fun e w' => e = .returned (.bool b) ∧ Below w.heap.size w w' := by
  have h9 := hok.n
  rw [hn] at h9
  by_cases hv : p.v = q.v
  · have c0 : (p.v == q.v) = true := by simpa using hv
    have hb2 : ∀ o1 o2, Below w.heap.size w ((w.alloc o1).alloc o2) := fun o1 o2 => ((Below.refl _ _).alloc (Nat.le_refl _) _).alloc (by simp) _
    have EF : Hid (∀ o1 o2, Calls Tryz.prog 47 #[.slice A n c, .slice A' n' c', .func (.func 48) #[] #[]] ((w.alloc o1).alloc o2) fun e w' => e = .returned (.bool b) ∧ Below ((w.alloc o1).alloc o2).heap.size ((w.alloc o1).alloc o2) w') := Lib.hid (fun o1 o2 =>
      eqFuncTh_any A A' n n' c c' p.ts q.ts _ (hx.up (hb2 o1 o2)) (hy.up (hb2 o1 o2)) hn hn' h9 (fun t ht => (hok.t t ht).1) b (by rw [← hb, sameP]; simp [hv]))
    clear hx hy hn hn' hb hok
    generalize p.v = v at *
    generalize q.v = v' at *
    subst hv
    go_enter Tryz.func20, Tryz.ntmps20
    go_wp2_with (go_at_call 47; go_must (refine (EF.out _ _).mono ?_; rintro e w' ⟨rfl, hb6⟩))
    go_ret
    exact ⟨rfl, (hb2 _ _).trans (hb6.mono (by simp; omega))⟩
  · have c0 : (p.v == q.v) = false := by simpa using hv
    have HF : Hid (b = false) := Lib.hid (by rw [← hb, sameP]; simp [hv])
    clear hx hy hn hn' hb hok
    generalize p.v = v at *
    generalize q.v = v' at *
    clear hv
    go_enter Tryz.func20, Tryz.ntmps20
    go_wp2
    go_ret
    exact ⟨ret_bool HF.out.symm, ((Below.refl _ _).alloc (Nat.le_refl _) _).alloc (by simp) _⟩
end Go.Proofs.YtpkefohcccpncaaGreatDoor
namespace Go.Proofs.YtpkefohcccpncaaGreatDoor
open Go.RowKit
set_option linter.unusedSimpArgs false
set_option linter.unusedVariables false

theorem decFrom_digits : ∀ (l : List UInt8) (acc : Nat), l.all digitB = true → Lib.decFrom acc l = some (l.foldl (fun b c => 10 * b + (c.toNat - 48)) acc) := by
  intro l
  induction l with
  | nil => intro acc _; rfl
  | cons c r ih =>
    intro acc h
    rw [List.all_cons, Bool.and_eq_true] at h
    have hc : 48 ≤ c.toNat ∧ c.toNat ≤ 57 := by simpa [digitB] using h.1
    have hd : Lib.digitVal c = some (c.toNat - 48) := by unfold Lib.digitVal; rw [if_pos hc]
    rw [Lib.decFrom, hd, List.foldl_cons, Nat.mul_comm 10 acc]
    exact ih _ h.2
theorem atoi_num {l : List UInt8} (h : numL l = true) : Lib.atoiAll l = .ok (valD l) := by
  obtain ⟨h1, h2, h3, h4⟩ := numL_parts h
  rw [Lib.atoiAll_short l (by omega)]
  have h5 : Lib.atoi l = some (valD l) := by
    cases l with
    | nil => exact absurd rfl h1
    | cons c r =>
      have hc : 48 ≤ c.toNat ∧ c.toNat ≤ 57 := by
        rw [List.all_cons, Bool.and_eq_true] at h3
        simpa [digitB] using h3.1
      have n1 : (c == 45) = false := by rw [beq_eq_false_iff_ne]; intro e; subst e; exact absurd hc (by decide)
      have n2 : (c == 43) = false := by rw [beq_eq_false_iff_ne]; intro e; subst e; exact absurd hc (by decide)
      have hd := decFrom_digits (c :: r) 0 h3
      show (if (c == 45) = true then (Lib.decNat r).map fun (m : Nat) => -(m : Int) else if (c == 43) = true then (Lib.decNat r).map fun (m : Nat) => (m : Int) else (Lib.decNat (c :: r)).map fun (m : Nat) => (m : Int)) = _
      rw [n1, n2]
      simp only [Bool.false_eq_true, if_false]
      unfold Lib.decNat
      rw [if_neg (by simp), hd]
      rfl
  rw [h5]; rfl
theorem itoa_numL {v : Int} (h0 : 0 ≤ v) (h7 : (Lib.itoa v).length ≤ 7) : numL (Lib.itoa v) = true := by
  obtain ⟨u, rfl⟩ := Int.eq_ofNat_of_zero_le h0
  rw [Lib.itoa_nonneg] at *
  have hd := dec_digits u u (Nat.le_refl _)
  have hp := dec_pos u
  simp only [numL, Bool.and_eq_true, Bool.or_eq_true, decide_eq_true_eq, Bool.not_eq_true']
  refine ⟨⟨⟨?_, h7⟩, runL_all hd⟩, ?_⟩
  · rcases h : Lib.decDigits u with _ | ⟨c, r⟩
    · rw [h] at hp; simp at hp
    · rfl
  · by_cases hu : u = 0
    · subst hu; right; rw [Lib.decDigits, dif_pos (by omega)]; rfl
    · left
      intro e
      have := dec_head u u (Nat.le_refl _) hu
      rw [e] at this
      exact this (by decide)
/-- a text is a number just where Atoi takes it and Itoa gives it back -/
theorem numL_iff {l : List UInt8} {v : Int} (h : Lib.atoiAll l = .ok v) : numL l = (decide (0 ≤ v) && decide (l.length ≤ 7) && (Lib.itoa v == l)) := by
  rw [Bool.eq_iff_iff]
  constructor
  · intro hn
    have h1 := atoi_num hn
    rw [h] at h1
    injection h1 with h1
    obtain ⟨q1, q2⟩ := itoa_num hn
    obtain ⟨_, h7, _, _⟩ := numL_parts hn
    subst h1
    have : 0 ≤ valD l := by unfold valD; omega
    simp [q1, h7, this]
  · intro hn
    simp only [Bool.and_eq_true, decide_eq_true_eq, beq_iff_eq] at hn
    obtain ⟨⟨h0, h7⟩, he⟩ := hn
    rw [← he]
    exact itoa_numL h0 (by rw [he]; exact h7)
theorem numL_not {l : List UInt8} (h : ∀ v, Lib.atoiAll l ≠ .ok v) : numL l = false := by
  rcases hn : numL l with _ | _
  · rfl
  · exact absurd (atoi_num hn) (h _)
theorem atoi_ok (s : ByteArray) (w : World) (hs : s.size ≤ 100000000) (v : Int) (h : Lib.atoiAll s.data.toList = .ok v) : Calls Tryz.prog 103 #[.string s] w fun e w' => e = .returned (.tuple #[.int .i64 v, .nilIface]) ∧ Below w.heap.size w w' := by
  refine (Tryz.strconv_Atoi_ok s (by omega) v h w).mono ?_
  rintro e w' ⟨rfl, hw⟩
  refine ⟨rfl, ?_⟩
  rcases hw with rfl | ⟨t, rfl⟩
  · exact Below.refl _ _
  · exact Lib.bytesWorld_below _ _ _
def AtoiBad (w : World) (e : Ending) (w' : World) : Prop := ∃ (n : Int) (T : TypeId) (x : Value), e = .returned (.tuple #[.int .i64 n, .iface T x]) ∧ Below w.heap.size w w' ∧ -9223372036854775808 ≤ n ∧ n ≤ 9223372036854775807
theorem atoi_bad (s : ByteArray) (w : World) (hs : s.size ≤ 100000000) (hg : GlobP w) (h : ∀ v, Lib.atoiAll s.data.toList ≠ .ok v) : Calls Tryz.prog 103 #[.string s] w (AtoiBad w) := by
  obtain ⟨tp, p, he⟩ := hg.es
  obtain ⟨tp2, p2, he2⟩ := hg.er
  by_cases h2 : Lib.atoiAll s.data.toList = .range
  rotate_left
  · refine (Tryz.strconv_Atoi_syntax_var s (by omega) h h2 tp p w he).mono ?_
    rintro e w' ⟨N, rfl, _, _, hb⟩
    exact ⟨0, _, _, rfl, hb, by omega, by omega⟩
  · refine (Tryz.strconv_Atoi_range_var s (by omega) h2 tp2 p2 w he2).mono ?_
    rintro e w' ⟨N, rfl, _, _, hb⟩
    exact ⟨_, _, _, rfl, hb, (Lib.atoiSat_bounds _).1, (Lib.atoiSat_bounds _).2⟩
def NumPost (w : World) (l : List UInt8) (b : Bool) (e : Ending) (w' : World) : Prop := ∃ n : Int, e = .returned (.tuple #[.int .i64 n, .bool b]) ∧ Below w.heap.size w w' ∧ (b = true → n = valD l)
set_option maxHeartbeats 1000000 in
theorem numberP_any (s : ByteArray) (w : World) (hs : s.size ≤ 100000000) (hg : GlobP w) (b : Bool) (hb : numL s.data.toList = b) :
    Calls Tryz.prog 89 #[.string s] w (NumPost w s.data.toList b) := by
  by_cases hv : ∃ v, Lib.atoiAll s.data.toList = .ok v
  · obtain ⟨v, hv⟩ := hv
    have AT := Lib.hid (atoi_ok s w hs v hv)
    obtain ⟨v0, v1⟩ := Lib.atoiAll_bounds hv
    have hi := numL_iff hv
    have HG := Lib.hid hg
    have HVV : Hid (b = true → v = valD s.data.toList) := Lib.hid (fun h => by
      subst h
      have := atoi_num hb
      rw [hv] at this; injection this)
    have HBB : Hid (b = (decide (0 ≤ v) && decide (s.size ≤ 7) && (Lib.itoa v == s.data.toList))) := Lib.hid (by rw [← hb, hi]; rfl)
    clear hv hi hg hb
    by_cases c1 : 0 ≤ v
    · have d1 : decide (0 ≤ v) = true := decide_eq_true c1
      by_cases c2 : s.size ≤ 7
      · have d2 : decide ((s.size : Int) ≤ 7) = true := by simp; omega
        obtain ⟨si, hsi⟩ : ∃ si : ByteArray, si = ⟨(Lib.itoa v).toArray⟩ := ⟨_, rfl⟩
        have IT : Hid (∀ W, Below w.heap.size w W → Calls Tryz.prog 40 #[.int .i64 v] W fun e w' => e = .returned (.string si) ∧ Below W.heap.size W w') := Lib.hid (fun W hW => by
          rw [hsi]
          refine (Tryz.strconv_Itoa v v0 v1 W (HG.out.below hW).tab).mono ?_
          rintro e w' ⟨rfl, k, os, rfl⟩
          exact ⟨rfl, Lib.below_grow _ _ (Nat.le_refl _) _ _⟩)
        rcases c3 : (Lib.itoa v == s.data.toList) with _ | _
        · have d3 : (si.toList == s.toList) = false := by rw [str_eq_dec, hsi]; exact c3
          have HF : Hid (b = false) := Lib.hid (by rw [HBB.out, c3]; simp)
          clear hsi c3
          go_enter Tryz.func89, Tryz.ntmps89
          go_wp2_with (first
            | (go_at_call 103; go_must (refine AT.out.mono ?_; rintro e w1 ⟨rfl, hb1⟩))
            | (go_at_call 40; go_must (refine (IT.out _ hb1).mono ?_; rintro e w2 ⟨rfl, hb2⟩)))
          go_ret2
          exact ⟨v, by rw [HF.out]; rfl, hb1.trans (hb2.mono hb1.size), HVV.out⟩
        · have d3 : (si.toList == s.toList) = true := by rw [str_eq_dec, hsi]; exact c3
          have HF : Hid (b = true) := Lib.hid (by rw [HBB.out, c3, d1, decide_eq_true c2]; rfl)
          clear hsi c3
          go_enter Tryz.func89, Tryz.ntmps89
          go_wp2_with (first
            | (go_at_call 103; go_must (refine AT.out.mono ?_; rintro e w1 ⟨rfl, hb1⟩))
            | (go_at_call 40; go_must (refine (IT.out _ hb1).mono ?_; rintro e w2 ⟨rfl, hb2⟩)))
          go_ret2
          exact ⟨v, by rw [HF.out]; rfl, hb1.trans (hb2.mono hb1.size), HVV.out⟩
      · have d2 : decide ((s.size : Int) ≤ 7) = false := by simp; omega
        have HF : Hid (b = false) := Lib.hid (by rw [HBB.out, decide_eq_false c2]; simp)
        go_enter Tryz.func89, Tryz.ntmps89
        go_wp2_with (go_at_call 103; go_must (refine AT.out.mono ?_; rintro e w1 ⟨rfl, hb1⟩))
        go_ret2
        exact ⟨v, by rw [HF.out]; rfl, hb1, HVV.out⟩
    · have d1 : decide (0 ≤ v) = false := decide_eq_false c1
      have HF : Hid (b = false) := Lib.hid (by rw [HBB.out, d1]; rfl)
      go_enter Tryz.func89, Tryz.ntmps89
      go_wp2_with (go_at_call 103; go_must (refine AT.out.mono ?_; rintro e w1 ⟨rfl, hb1⟩))
      go_ret2
      exact ⟨v, by rw [HF.out]; rfl, hb1, HVV.out⟩
  · have hv' : ∀ v, Lib.atoiAll s.data.toList ≠ .ok v := fun v h => hv ⟨v, h⟩
    have AT := Lib.hid (atoi_bad s w hs hg hv')
    have HF : Hid (b = false) := Lib.hid (by rw [← hb]; exact numL_not hv')
    clear hv hv' hg hb
    go_enter Tryz.func89, Tryz.ntmps89
    go_wp2_with (go_at_call 103; go_must (refine AT.out.mono ?_; rintro e w1 ⟨n, T, x, rfl, hb1, _, _⟩))
    go_ret2
    exact ⟨n, by rw [HF.out]; rfl, hb1, fun h => by rw [HF.out] at h; cases h⟩
end Go.Proofs.YtpkefohcccpncaaGreatDoor
namespace Go.Proofs.YtpkefohcccpncaaGreatDoor
open Go.RowKit
set_option linter.unusedSimpArgs false
set_option linter.unusedVariables false

def kindR (x : List UInt8) : Int := if kindOf x = 0 then -1 else kindOf x
theorem line1_any (t key : ByteArray) (a : Int) (kb : Nat) (w : World) (hk : w.cell? ⟨kb, 0, none⟩ = some (.string key)) (hb : kb < w.heap.size) (b : Bool) (hbb : (t.data.toList == key.data.toList && !(t.data.toList == [])) = b) :
    Calls Tryz.prog 91 #[.agg #[.string t, .int .i64 a], .pointer (some ⟨kb, 0, none⟩)] w fun e w' => e = .returned (.bool b) ∧ Below w.heap.size w w' := by
  by_cases he : t.data.toList = key.data.toList
  · have c1 : (t.toList == key.toList) = true := by rw [str_eq_dec]; simpa using he
    by_cases h0 : t.size = 0
    · have c2 := str_nil h0
      have c3 := str_empty h0
      have c4 : key.toList = [] := str_nil (by rw [← size_data, ← he, size_data]; exact h0)
      have HF : Hid (b = false) := Lib.hid (by
        rw [← hbb, show (t.data.toList == []) = true by rw [beq_iff_eq]; exact List.length_eq_zero_iff.1 (by rw [size_data]; exact h0)]; simp)
      clear hbb he h0
      go_enter Tryz.func91, Tryz.ntmps91
      go_wp2
      go_ret
      exact ⟨ret_bool HF.out.symm, (Below.refl _ _).alloc (Nat.le_refl _) _⟩
    · have c2 := str_ne h0
      have HF : Hid (b = true) := Lib.hid (by
        rw [← hbb, show (t.data.toList == []) = false by rw [beq_eq_false_iff_ne]; intro e; exact h0 (by rw [← size_data, e]; rfl)]; simp [he])
      clear hbb he h0
      go_enter Tryz.func91, Tryz.ntmps91
      go_wp2
      go_ret
      exact ⟨ret_bool HF.out.symm, (Below.refl _ _).alloc (Nat.le_refl _) _⟩
  · have c1 : (t.toList == key.toList) = false := by rw [str_eq_dec]; simpa using he
    have HF : Hid (b = false) := Lib.hid (by rw [← hbb, beq_eq_false_iff_ne.2 he]; rfl)
    clear hbb he
    go_enter Tryz.func91, Tryz.ntmps91
    go_wp2
    go_ret
    exact ⟨ret_bool HF.out.symm, (Below.refl _ _).alloc (Nat.le_refl _) _⟩
theorem kindOf_at {k : Nat} {x : List UInt8} (h1 : 1 ≤ k) (h7 : k ≤ 7) (he : kwOf k = x) : kindOf x = k := by
  rw [← he]; exact (kw_ok h1 h7).1
theorem kindOf_none {x : List UInt8} (h : ∀ k, k < 8 → (kwOf k == x && !(kwOf k == [])) = false) : kindOf x = 0 := by
  by_cases hk : kindOf x = 0
  · exact hk
  · obtain ⟨h1, h2, h3⟩ := kindOf_eq hk
    have := h (kindOf x) (by omega)
    have hne : (kwOf (kindOf x) == []) = false := by
      rcases kw_cases h2 h3 with e | e | e | e | e | e | e <;> rw [e] <;> decide
    rw [hne, h1] at this
    simp at this
set_option maxHeartbeats 1000000 in
theorem idxWord_any (key : ByteArray) (kb : Nat) (w : World) (hg : GlobP w) (hk : w.cell? ⟨kb, 0, none⟩ = some (.string key)) (hb : kb < w.heap.size) :
    Calls Tryz.prog 90 #[.slice (some ⟨0, 0, none⟩) 8 8, .func (.func 91) #[] #[.pointer (some ⟨kb, 0, none⟩)]] w fun e w' => e = .returned (.int .i64 (kindR key.data.toList)) ∧ Below w.heap.size w w' := by
  have HG := Lib.hid hg
  have HK := Lib.hid hk
  clear hg hk
  go_enter Tryz.func90, Tryz.ntmps90
  go_wp2
  go_loopw [8] (fun i wr => ∃ k : Nat, k ≤ 8 ∧ i = .int .i64 k ∧ Hid (Below w.heap.size w wr ∧ ∀ j, j < k → (kwOf j == key.data.toList && !(kwOf j == [])) = false)) (fun i _ => 8 - (intOf i).toNat)
  case atStart => exact ⟨0, by omega, rfl, Lib.hid ⟨Below.refl _ _, fun j hj => absurd hj (by omega)⟩⟩
  case round =>
    obtain ⟨k, hk8, rfl, HR⟩ := hrel
    obtain ⟨hbw, hno⟩ := HR.out
    have hwl : w.heap.size ≤ wr.heap.size := hbw.size
    by_cases hlt : k < 8
    · obtain ⟨q0, q1⟩ := (HG.out.below hbw).wd k hlt
      obtain ⟨b, hbb⟩ : ∃ b, (kwOf k == key.data.toList && !(kwOf k == [])) = b := ⟨_, rfl⟩
      have L1 : Hid (Calls Tryz.prog 91 #[.agg #[.string ⟨(kwOf k).toArray⟩, .int .i64 (argOf k)], .pointer (some ⟨kb, 0, none⟩)] wr fun e w' => e = .returned (.bool b) ∧ Below wr.heap.size wr w') := Lib.hid (line1_any ⟨(kwOf k).toArray⟩ key (argOf k) kb wr ((hbw.cell (p := ⟨kb, 0, none⟩) hb).trans HK.out) (by omega) b hbb)
      have HBW := Lib.hid hbw
      have HNO := Lib.hid hno
      have HBB := Lib.hid hbb
      clear hbw hno hbb
      generalize hkw : (⟨(kwOf k).toArray⟩ : ByteArray) = kw at *
      generalize (argOf k : Int) = ka at *
      clear hkw
      rcases b with _ | _
      · go_wp2_with (go_at_call 91; go_must (refine L1.out.mono ?_; rintro e w6 ⟨rfl, hb6⟩))
        go_roundw
        case rel =>
          refine ⟨k + 1, by omega, by go_num, Lib.hid ⟨HBW.out.trans (hb6.mono hwl), fun j hj => ?_⟩⟩
          by_cases e : j = k
          · rw [e]; exact HBB.out
          · exact HNO.out j (by omega)
        case measure => simp [intOf]; omega
      · have HF : Hid (kindR key.data.toList = k) := Lib.hid (by
          have := HBB.out
          simp only [Bool.and_eq_true, beq_iff_eq, Bool.not_eq_true', beq_eq_false_iff_ne, ne_eq] at this
          have h1 : 1 ≤ k := by
            rcases Nat.eq_zero_or_pos k with e | e
            · rw [e] at this; exact absurd rfl this.2
            · exact e
          unfold kindR
          rw [kindOf_at h1 (by omega) this.1, if_neg (by omega)])
        go_wp2_with (go_at_call 91; go_must (refine L1.out.mono ?_; rintro e w6 ⟨rfl, hb6⟩))
        go_ret
        exact ⟨ret_int HF.out.symm, HBW.out.trans (hb6.mono hwl)⟩
    · obtain rfl : k = 8 := by omega
      have HF : Hid (kindR key.data.toList = -1) := Lib.hid (by unfold kindR; rw [if_pos (kindOf_none hno)])
      have HBW := Lib.hid hbw
      clear hno hbw
      go_wp2
      go_ret
      exact ⟨ret_int HF.out.symm, HBW.out⟩
end Go.Proofs.YtpkefohcccpncaaGreatDoor
namespace Go.Proofs.YtpkefohcccpncaaGreatDoor
open Go.RowKit
set_option linter.unusedSimpArgs false
set_option linter.unusedVariables false

theorem append_data (a b : ByteArray) : (a ++ b).data.toList = a.data.toList ++ b.data.toList := by simp
theorem named_len {x : List UInt8} (h : namedL x = true) : x.length ≤ 12 := by
  simp only [namedL, wordL, Bool.and_eq_true, decide_eq_true_eq] at h
  omega
def StrPost (w : World) (l : List UInt8) (e : Ending) (w' : World) : Prop := ∃ s : ByteArray, e = .returned (.string s) ∧ s.data.toList = l ∧ Below w.heap.size w w'
theorem below_boxes {w : World} (a b c : Obj) (n : Nat) : Below w.heap.size w ((((w.alloc a).alloc b).alloc c).drewN n) :=
  below_drewN ((((Below.refl _ _).alloc (Nat.le_refl _) _).alloc (by simp) _).alloc (by simp; omega) _) n
set_option maxHeartbeats 4000000 in
theorem textOf_any (p : Prg) (A : Option Addr) (n c : Nat) (w : World) (hT : ThsAt w w.heap.size A p.ts) (hn : p.ts.length = n) (hn9 : n ≤ 1000000) (hg : GlobP w) (m : Nat) (l : Ln) (hl : LnOk p m l) :
    Calls Tryz.prog 41 #[.agg #[.int .i64 p.v, .slice A n c], .agg #[.int .i64 l.k, .int .i64 l.a, .int .i64 l.n]] w (StrPost w (lineT p l)) := by
  have HL := Lib.hid hl
  have HG := Lib.hid hg
  have HT := Lib.hid hT
  have HN := Lib.hid hn
  have l3 := hg.lt.2.2.1
  have W := hg.wd
  have k1 := hl.k1
  have k7 := hl.k7
  have kn := hl.kn
  have a0 := hl.a0
  have a9 := hl.a9
  obtain ⟨lk, la, lm⟩ := l
  dsimp only at *
  obtain ⟨kk, rfl⟩ : ∃ kk : Nat, lk = kk := ⟨_, kn⟩
  obtain ⟨u, rfl⟩ := Int.eq_ofNat_of_zero_le a0
  simp only [Int.toNat_natCast] at k1 k7
  generalize hpv : p.v = v at *
  have IT : ∀ W : World, Calls Tryz.prog 40 #[.int .i64 (u : Int)] W fun e w' => e = .returned (.string ⟨(Lib.decDigits u).toArray⟩) ∧ w' = W := fun W => Tryz.strconv_Itoa_small u (by omega) W
  have hdl : (Lib.decDigits u).length ≤ 7 := by rw [Lib.decDigits_length]; exact nDigits_le 6 u (by omega)
  have HDT : Hid (Lib.itoa (u : Int) = Lib.decDigits u) := Lib.hid (Lib.itoa_nonneg u)
  have hsz : (⟨(Lib.decDigits u).toArray⟩ : ByteArray).size ≤ 7 := hdl
  obtain ⟨du, hdu⟩ : ∃ du : ByteArray, du = ⟨(Lib.decDigits u).toArray⟩ := ⟨_, rfl⟩
  rw [← hdu] at IT hsz
  have HDU : Hid (du.data.toList = Lib.itoa (u : Int)) := Lib.hid (by rw [hdu, Lib.itoa_nonneg])
  have HIT := Lib.hid IT
  clear IT hdl hdu HDT hpv hl hg hT hn kn a0
  rcases kinds7 k1 k7 with rfl | rfl | rfl | rfl | rfl | rfl | rfl
  · have q0 : w.cell? ⟨0, 2, none⟩ = some (.string ⟨#[115, 101, 116]⟩) := (W 1 (by omega)).1
    have q1 : w.cell? ⟨0, 3, none⟩ = some (.int .i64 1) := (W 1 (by omega)).2
    have HR : Hid (∀ s : ByteArray, s.data.toList = [115, 101, 116, 32] ++ Lib.itoa (u : Int) → s.data.toList = lineT p ⟨((1 : Nat) : Int), u, lm⟩) := Lib.hid (fun s h => h)
    clear W k1 k7
    go_enter Tryz.func41, Tryz.ntmps41
    go_wp2_with fail
    go_quiet ((go_at_call 40; refine Calls.quiet_of_same (HIT.out _)))
    go_wp2
    go_ret
    exact ⟨_, rfl, HR.out _ (by simp only [append_data, HDU.out]; rfl), below_boxes _ _ _ _⟩
  · have q0 : w.cell? ⟨0, 4, none⟩ = some (.string ⟨#[119, 104, 101, 110]⟩) := (W 2 (by omega)).1
    have q1 : w.cell? ⟨0, 5, none⟩ = some (.int .i64 1) := (W 2 (by omega)).2
    have HR : Hid (∀ s : ByteArray, s.data.toList = [119, 104, 101, 110, 32] ++ Lib.itoa (u : Int) → s.data.toList = lineT p ⟨((2 : Nat) : Int), u, lm⟩) := Lib.hid (fun s h => h)
    clear W k1 k7
    go_enter Tryz.func41, Tryz.ntmps41
    go_wp2_with fail
    go_quiet ((go_at_call 40; refine Calls.quiet_of_same (HIT.out _)))
    go_wp2
    go_ret
    exact ⟨_, rfl, HR.out _ (by simp only [append_data, HDU.out]; rfl), below_boxes _ _ _ _⟩
  · have q0 : w.cell? ⟨0, 6, none⟩ = some (.string ⟨#[106, 117, 109, 112]⟩) := (W 3 (by omega)).1
    have q1 : w.cell? ⟨0, 7, none⟩ = some (.int .i64 2) := (W 3 (by omega)).2
    have HR : Hid (∀ s : ByteArray, s.data.toList = [106, 117, 109, 112, 32] ++ Lib.itoa (u : Int) → s.data.toList = lineT p ⟨((3 : Nat) : Int), u, lm⟩) := Lib.hid (fun s h => h)
    clear W k1 k7
    go_enter Tryz.func41, Tryz.ntmps41
    go_wp2_with fail
    go_quiet ((go_at_call 40; refine Calls.quiet_of_same (HIT.out _)))
    go_wp2
    go_ret
    exact ⟨_, rfl, HR.out _ (by simp only [append_data, HDU.out]; rfl), below_boxes _ _ _ _⟩
  · have q0 : w.cell? ⟨0, 8, none⟩ = some (.string ⟨#[109, 97, 121, 98, 101]⟩) := (W 4 (by omega)).1
    have q1 : w.cell? ⟨0, 9, none⟩ = some (.int .i64 2) := (W 4 (by omega)).2
    have HR : Hid (∀ s : ByteArray, s.data.toList = [109, 97, 121, 98, 101, 32] ++ Lib.itoa (u : Int) → s.data.toList = lineT p ⟨((4 : Nat) : Int), u, lm⟩) := Lib.hid (fun s h => h)
    clear W k1 k7
    go_enter Tryz.func41, Tryz.ntmps41
    go_wp2_with fail
    go_quiet ((go_at_call 40; refine Calls.quiet_of_same (HIT.out _)))
    go_wp2
    go_ret
    exact ⟨_, rfl, HR.out _ (by simp only [append_data, HDU.out]; rfl), below_boxes _ _ _ _⟩
  · have q0 : w.cell? ⟨0, 10, none⟩ = some (.string ⟨#[115, 112, 97, 119, 110]⟩) := (W 5 (by omega)).1
    have q1 : w.cell? ⟨0, 11, none⟩ = some (.int .i64 3) := (W 5 (by omega)).2
    obtain ⟨t, ht, hnm⟩ := HL.out.at3 rfl
    obtain ⟨hul, hut⟩ := List.getElem?_eq_some_iff.1 ht
    simp only [Int.toNat_natCast] at hul hut
    have hun : u < n := by rw [← HN.out]; exact hul
    obtain ⟨ad, LA, lc, rfl, hab, h0, h1, hLn⟩ := HT.out.at_ hul
    rw [hut] at h0
    have h0' : ∀ a b c : Obj, (((w.alloc a).alloc b).alloc c).cell? (ad.add (u * 2)) = some (.string t.nm) := fun a b c =>
      ((((Below.refl _ _).alloc (Nat.le_refl _) a).alloc (by simp) b).alloc (by simp; omega) c : Below w.heap.size w _).cell (p := ad.add (u * 2)) (by rw [add_block]; exact hab) |>.trans h0
    have hn12 : t.nm.size ≤ 12 := named_len hnm
    have HR : Hid (∀ s : ByteArray, s.data.toList = [115, 112, 97, 119, 110, 32] ++ t.nm.data.toList → s.data.toList = lineT p ⟨((5 : Nat) : Int), u, lm⟩) := Lib.hid (fun s h => by
      rw [h]
      show _ = kwOf 5 ++ 32 :: ((p.ts[((u : Nat) : Int).toNat]?.map fun t => t.nm.data.toList).getD [])
      rw [ht]; rfl)
    clear W k1 k7 h1 hLn ht hut hul
    generalize t.nm = nm at *
    go_enter Tryz.func41, Tryz.ntmps41
    go_wp2_with fail
    go_quiet (fail)
    go_wp2
    go_ret
    exact ⟨_, rfl, HR.out _ (by simp only [append_data]; rfl), below_boxes _ _ _ _⟩
  · have q0 : w.cell? ⟨0, 12, none⟩ = some (.string ⟨#[115, 116, 111, 112]⟩) := (W 6 (by omega)).1
    have q1 : w.cell? ⟨0, 13, none⟩ = some (.int .i64 0) := (W 6 (by omega)).2
    clear W k1 k7
    go_enter Tryz.func41, Tryz.ntmps41
    go_wp2
    go_ret
    exact ⟨_, rfl, rfl, below_boxes _ _ _ 0⟩
  · have q0 : w.cell? ⟨0, 14, none⟩ = some (.string ⟨#[102, 97, 105, 108]⟩) := (W 7 (by omega)).1
    have q1 : w.cell? ⟨0, 15, none⟩ = some (.int .i64 0) := (W 7 (by omega)).2
    clear W k1 k7
    go_enter Tryz.func41, Tryz.ntmps41
    go_wp2
    go_ret
    exact ⟨_, rfl, rfl, below_boxes _ _ _ 0⟩
end Go.Proofs.YtpkefohcccpncaaGreatDoor
