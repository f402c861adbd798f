/- Same: are two programs equal? -/
import Derived.Test.YtpkefohcccpncaaGreatDoorCheck
import Derived.Laws.StructEq
import Derived.Deep.QuietTactic
import Derived.BigQuiet
namespace Go.Proofs.YtpkefohcccpncaaGreatDoor
open Go.RowKit
set_option linter.unusedSimpArgs false
set_option linter.unusedVariables false

def eqLnB (x y : Ln) : Bool := x.k == y.k && (x.a == y.a && x.n == y.n)
def sameLns : List Ln → List Ln → Bool
  | [], [] => true
  | x :: xs, y :: ys => eqLnB x y && sameLns xs ys
  | _, _ => false
def sameTh (x y : Th) : Bool := x.nm.data.toList == y.nm.data.toList && sameLns x.ls y.ls
def sameThs : List Th → List Th → Bool
  | [], [] => true
  | x :: xs, y :: ys => sameTh x y && sameThs xs ys
  | _, _ => false
def sameP (p q : Prg) : Bool := p.v == q.v && sameThs p.ts q.ts
theorem eqLnB_self (x : Ln) : eqLnB x x = true := by simp [eqLnB]
theorem sameLns_self (xs : List Ln) : sameLns xs xs = true := by
  induction xs with
  | nil => rfl
  | cons x xs ih => simp [sameLns, eqLnB_self, ih]
theorem sameThs_self (xs : List Th) : sameThs xs xs = true := by
  induction xs with
  | nil => rfl
  | cons x xs ih => simp [sameThs, sameTh, sameLns_self, ih]
theorem sameP_self (p : Prg) : sameP p p = true := by simp [sameP, sameThs_self]
theorem sameLns_len : ∀ (xs ys : List Ln), xs.length ≠ ys.length → sameLns xs ys = false := by
  intro xs
  induction xs with
  | nil => intro ys h; cases ys with | nil => exact absurd rfl h | cons y ys => rfl
  | cons x xs ih =>
    intro ys h
    cases ys with
    | nil => rfl
    | cons y ys => simp only [sameLns]; rw [ih ys (by simpa using h)]; simp
theorem sameThs_len : ∀ (xs ys : List Th), xs.length ≠ ys.length → sameThs xs ys = false := by
  intro xs
  induction xs with
  | nil => intro ys h; cases ys with | nil => exact absurd rfl h | cons y ys => rfl
  | cons x xs ih =>
    intro ys h
    cases ys with
    | nil => rfl
    | cons y ys => simp only [sameThs]; rw [ih ys (by simpa using h)]; simp
theorem neLn (k1 a1 n1 k2 a2 n2 : Int) (w : World) : (binOp .neq 42 (.agg #[.int .i64 k1, .int .i64 a1, .int .i64 n1]) (.agg #[.int .i64 k2, .int .i64 a2, .int .i64 n2])).run Tryz.prog w = .ok (.bool (!eqLnB ⟨k1, a1, n1⟩ ⟨k2, a2, n2⟩)) w := by
  have u3 := Tryz.underlying3
  have a3 := Tryz.isAgg3
  have z3 := Tryz.sizeOf3
  have hS : Tryz.prog.underlying 42 = some (.struct (Tryz.prog.fieldsOf 42)) := by kernel_rfl
  have hp : Tryz.prog.stoodInHeld 42 = false := by kernel_rfl
  rw [run_neq_struct, show (10000 : Nat) = 9999 + 1 from rfl, run_equalIn_agg w 9999 42 _ _ hS hp]
  simp only [Program.fieldsOf, Tryz.underlying42]
  go_simp
  by_cases h1 : k1 = k2 <;> by_cases h2 : a1 = a2 <;> by_cases h3 : n1 = n2 <;> simp [h1, h2, h3, eqLnB]

set_option maxHeartbeats 2000000 in
theorem equalLn_any (A A' : Option Addr) (n n' c c' : Nat) (xs ys : List Ln) (w : World) (B B' : Nat) (hx : LnsAt w B A xs) (hy : LnsAt w B' A' ys) (hn : xs.length = n) (hn' : ys.length = n') (h9 : n ≤ 1000000000000) (b : Bool) (hb : sameLns xs ys = b) :
    Calls Tryz.prog 49 #[.slice A n c, .slice A' n' c'] w fun e w' => e = .returned (.bool b) ∧ ∃ q, w' = w.drewN q := by
  by_cases hl : n = n'
  · subst hl
    have c0 : ((n : Int) != n) = false := by simp
    have HB := Lib.hid hb
    have HX := Lib.hid hx
    have HY := Lib.hid hy
    have HN := Lib.hid hn
    have HN' := Lib.hid hn'
    have hg : ∀ W : World, (eqGuard .neq 42 (.tmp 19) (.tmp 23) (.agg #[]) (.agg #[])).run Tryz.prog W = (eqGuard .neq 42 (.tmp 19) (.tmp 23) (.agg #[]) (.agg #[])).run Tryz.prog W := fun _ => rfl
    clear hb hx hy hn hn' hg
    go_enter Tryz.func49, Tryz.ntmps49
    go_wp2
    go_loopw [13] (fun i wr => ∃ (k q : Nat), k ≤ n ∧ i = .int .i64 k ∧ Hid (wr = w.drewN q ∧ sameLns (xs.drop k) (ys.drop k) = b)) (fun i _ => n - (intOf i).toNat)
    case atStart => exact ⟨0, 0, by omega, rfl, Lib.hid ⟨rfl, HB.out⟩⟩
    case round =>
      obtain ⟨k, q, hk, rfl, HR⟩ := hrel
      obtain ⟨hw, hr⟩ := HR.out
      subst hw
      by_cases hlt : k < n
      · have hkx : k < xs.length := by rw [HN.out]; exact hlt
        have hky : k < ys.length := by rw [HN'.out]; exact hlt
        obtain ⟨ad, rfl, hab, h0, h1, h2⟩ := HX.out.at_ hkx
        obtain ⟨ad', rfl, hab', g0, g1, g2⟩ := HY.out.at_ hky
        rw [List.drop_eq_getElem_cons hkx, List.drop_eq_getElem_cons hky] at hr
        simp only [sameLns] at hr
        generalize xs[k]'hkx = x at *
        generalize ys[k]'hky = y at *
        obtain ⟨k1, a1, n1⟩ := x
        obtain ⟨k2, a2, n2⟩ := y
        dsimp only at *
        have ne := neLn k1 a1 n1 k2 a2 n2
        have HR2 := Lib.hid hr
        clear hr
        rcases he : eqLnB ⟨k1, a1, n1⟩ ⟨k2, a2, n2⟩ with _ | _
        · rw [he] at ne
          have HF : Hid (b = false) := Lib.hid (by rw [← HR2.out, he]; rfl)
          clear he
          go_wp2_with fail
          go_quiet (fail)
          go_wp2
          go_ret
          exact ⟨ret_bool HF.out.symm, _, World.drewN_drewN _ _ _⟩
        · rw [he] at ne
          have HF : Hid (sameLns (xs.drop (k + 1)) (ys.drop (k + 1)) = b) := Lib.hid (by rw [← HR2.out, he]; simp)
          clear he
          go_wp2_with fail
          go_quiet (fail)
          go_wp2
          go_roundw
          case rel => exact ⟨k + 1, _, by omega, by go_num, Lib.hid ⟨rfl, HF.out⟩⟩
          case measure => simp [intOf]; omega
      · obtain rfl : k = n := by omega
        have HF : Hid (b = true) := Lib.hid (by
          rw [← hr, List.drop_of_length_le (by rw [HN.out]; exact Nat.le_refl _), List.drop_of_length_le (by rw [HN'.out]; exact Nat.le_refl _)]; rfl)
        clear hr
        go_wp2
        go_ret
        exact ⟨ret_bool HF.out.symm, _, rfl⟩
  · have c0 : ((n : Int) != n') = true := by simp; omega
    have HF : Hid (b = false) := Lib.hid (by rw [← hb]; exact sameLns_len _ _ (by omega))
    go_enter Tryz.func49, Tryz.ntmps49
    go_wp2
    go_ret
    exact ⟨ret_bool HF.out.symm, 0, rfl⟩

set_option maxHeartbeats 2000000 in
theorem same1_any (nm nm' : ByteArray) (LA LA' : Option Addr) (ln ln' c c' : Nat) (xs ys : List Ln) (w : World) (hx : LnsAt w w.heap.size LA xs) (hy : LnsAt w w.heap.size LA' ys) (hn : xs.length = ln) (hn' : ys.length = ln') (h9 : ln ≤ 1000000000000) (b : Bool) (hb : sameTh ⟨nm, xs⟩ ⟨nm', ys⟩ = b) :
    Calls Tryz.prog 48 #[.agg #[.string nm, .slice LA ln c], .agg #[.string nm', .slice LA' ln' c']] w fun e w' => e = .returned (.bool b) ∧ Below w.heap.size w w' := by
  by_cases he : nm.data.toList = nm'.data.toList
  · have c0 : (nm.toList == nm'.toList) = true := by rw [str_eq_dec]; simpa using he
    have EQ : Hid (∀ o1 o2, Calls Tryz.prog 49 #[.slice LA ln c, .slice LA' ln' c'] ((w.alloc o1).alloc o2) fun e w' => e = .returned (.bool b) ∧ ∃ q, w' = ((w.alloc o1).alloc o2).drewN q) := Lib.hid (fun o1 o2 =>
      equalLn_any LA LA' ln ln' c c' xs ys _ w.heap.size w.heap.size (hx.below (((Below.refl _ _).alloc (Nat.le_refl _) _).alloc (by simp) _)) (hy.below (((Below.refl _ _).alloc (Nat.le_refl _) _).alloc (by simp) _)) hn hn' h9 b (by rw [← hb, sameTh]; simp [he]))
    clear hx hy hn hn' hb he
    go_enter Tryz.func48, Tryz.ntmps48
    go_wp2_with (go_at_call 49; go_must (refine (EQ.out _ _).mono ?_; rintro e w' ⟨rfl, q, rfl⟩))
    go_ret
    exact ⟨rfl, below_drewN (((Below.refl _ _).alloc (Nat.le_refl _) _).alloc (by simp) _) q⟩
  · have c0 : (nm.toList == nm'.toList) = false := by rw [str_eq_dec]; simpa using he
    have HF : Hid (b = false) := Lib.hid (by rw [← hb, sameTh, show (nm.data.toList == nm'.data.toList) = false from beq_eq_false_iff_ne.2 he]; rfl)
    clear hx hy hn hn' hb he
    go_enter Tryz.func48, Tryz.ntmps48
    go_wp2
    go_ret
    exact ⟨ret_bool HF.out.symm, ((Below.refl _ _).alloc (Nat.le_refl _) _).alloc (by simp) _⟩

set_option maxHeartbeats 2000000 in
theorem eqFuncTh_any (A A' : Option Addr) (n n' c c' : Nat) (xs ys : List Th) (w : World) (hx : ThsAt w w.heap.size A xs) (hy : ThsAt w w.heap.size A' ys) (hn : xs.length = n) (hn' : ys.length = n') (h9 : n ≤ 1000000000000) (hl9 : ∀ t ∈ xs, t.ls.length ≤ 1000000000000) (b : Bool) (hb : sameThs xs ys = b) :
    Calls Tryz.prog 47 #[.slice A n c, .slice A' n' c', .func (.func 48) #[] #[]] w fun e w' => e = .returned (.bool b) ∧ Below w.heap.size w w' := by
  by_cases hl : n = n'
  · subst hl
    have c0 : ((n : Int) != n) = false := by simp
    have HB := Lib.hid hb
    have HX := Lib.hid hx
    have HY := Lib.hid hy
    have HN := Lib.hid hn
    have HN' := Lib.hid hn'
    have HL9 := Lib.hid hl9
    clear hb hx hy hn hn' hl9
    go_enter Tryz.func47, Tryz.ntmps47
    go_wp2
    go_loopw [17] (fun i wr => ∃ (k : Nat), k ≤ n ∧ i = .int .i64 k ∧ Hid (Below w.heap.size w wr ∧ sameThs (xs.drop k) (ys.drop k) = b)) (fun i _ => n - (intOf i).toNat)
    case atStart => exact ⟨0, by omega, rfl, Lib.hid ⟨Below.refl _ _, HB.out⟩⟩
    case round =>
      obtain ⟨k, hk, rfl, HR⟩ := hrel
      obtain ⟨hbw, hr⟩ := HR.out
      by_cases hlt : k < n
      · have hkx : k < xs.length := by rw [HN.out]; exact hlt
        have hky : k < ys.length := by rw [HN'.out]; exact hlt
        obtain ⟨ad, LA, lc, rfl, hab, h0, h1, hL⟩ := (HX.out.below hbw).at_ hkx
        obtain ⟨ad', LA', lc', rfl, hab', g0, g1, gL⟩ := (HY.out.below hbw).at_ hky
        have l9 := HL9.out _ (List.getElem_mem hkx)
        rw [List.drop_eq_getElem_cons hkx, List.drop_eq_getElem_cons hky] at hr
        simp only [sameThs] at hr
        generalize xs[k]'hkx = x at *
        generalize ys[k]'hky = y at *
        obtain ⟨nm, ls⟩ := x
        obtain ⟨nm', ls'⟩ := y
        dsimp only at *
        obtain ⟨ln, hln⟩ : ∃ ln, ls.length = ln := ⟨_, rfl⟩
        obtain ⟨ln', hln'⟩ : ∃ ln, ls'.length = ln := ⟨_, rfl⟩
        rw [hln] at h1 l9
        rw [hln'] at g1
        have hwl : w.heap.size ≤ wr.heap.size := hbw.size
        obtain ⟨b1, hb1⟩ : ∃ b1, sameTh ⟨nm, ls⟩ ⟨nm', ls'⟩ = b1 := ⟨_, rfl⟩
        have SM : Hid (∀ o1 o2, Calls Tryz.prog 48 #[.agg #[.string nm, .slice LA ln lc], .agg #[.string nm', .slice LA' ln' lc']] ((wr.alloc o1).alloc o2) fun e w' => e = .returned (.bool b1) ∧ Below ((wr.alloc o1).alloc o2).heap.size ((wr.alloc o1).alloc o2) w') := Lib.hid (fun o1 o2 =>
          same1_any nm nm' LA LA' ln ln' lc lc' ls ls' _ ((hL.below (((Below.refl _ _).alloc hwl _).alloc (by simp; omega) _)).more (by simp; omega)) ((gL.below (((Below.refl _ _).alloc hwl _).alloc (by simp; omega) _)).more (by simp; omega)) hln hln' l9 b1 hb1)
        have HR2 : Hid ((b1 && sameThs (xs.drop (k + 1)) (ys.drop (k + 1))) = b) := Lib.hid (by rw [← hr, hb1])
        have g0' : ∀ o : Obj, (wr.alloc o).cell? (ad'.add (k * 2)) = some (.string nm') := fun o => (World.cell?_alloc_lt wr o _ (by rw [add_block]; omega)).trans g0
        have g1' : ∀ o : Obj, (wr.alloc o).cell? ⟨(ad'.add (k * 2)).block, (ad'.add (k * 2)).off + 1, none⟩ = some (.slice LA' ln' lc') := fun o => (World.cell?_alloc_lt wr o _ (by simp only [add_block]; omega)).trans g1
        have HBW := Lib.hid hbw
        clear hr hb1 hln hln' hL gL hbw
        rcases b1 with _ | _
        · have HF : Hid (b = false) := Lib.hid (by rw [← HR2.out]; rfl)
          go_wp2_with (go_at_call 48; go_must (refine (SM.out _ _).mono ?_; rintro e w' ⟨rfl, hb6⟩))
          go_ret
          exact ⟨ret_bool HF.out.symm, ((HBW.out.alloc hwl _).alloc (by simp; omega) _).trans (hb6.mono (by simp; omega))⟩
        · have HF : Hid (sameThs (xs.drop (k + 1)) (ys.drop (k + 1)) = b) := Lib.hid (by rw [← HR2.out]; simp)
          go_wp2_with (go_at_call 48; go_must (refine (SM.out _ _).mono ?_; rintro e w' ⟨rfl, hb6⟩))
          go_roundw
          case rel => exact ⟨k + 1, by omega, by go_num, Lib.hid ⟨((HBW.out.alloc hwl _).alloc (by simp; omega) _).trans (hb6.mono (by simp; omega)), HF.out⟩⟩
          case measure => simp [intOf]; omega
      · obtain rfl : k = n := by omega
        have HF : Hid (b = true) := Lib.hid (by
          rw [← hr, List.drop_of_length_le (by rw [HN.out]; exact Nat.le_refl _), List.drop_of_length_le (by rw [HN'.out]; exact Nat.le_refl _)]; rfl)
        have HBW := Lib.hid hbw
        clear hr hbw
        go_wp2
        go_ret
        exact ⟨ret_bool HF.out.symm, HBW.out⟩
  · have c0 : ((n : Int) != n') = true := by simp; omega
    have HF : Hid (b = false) := Lib.hid (by rw [← hb]; exact sameThs_len _ _ (by omega))
    clear hb hx hy hn hn' hl9
    go_enter Tryz.func47, Tryz.ntmps47
    go_wp2
    go_ret
    exact ⟨ret_bool HF.out.symm, Below.refl _ _⟩

set_option maxHeartbeats 1000000 in
theorem sameP_any (p q : Prg) (A A' : Option Addr) (n n' c c' : Nat) (w : World) (hx : ThsAt w w.heap.size A p.ts) (hy : ThsAt w w.heap.size A' q.ts) (hn : p.ts.length = n) (hn' : q.ts.length = n') (hok : PrgOk p) (b : Bool) (hb : sameP p q = b) :
    Calls Tryz.prog 20 #[.agg #[.int .i64 p.v, .slice A n c], .agg #[.int .i64 q.v, .slice A' n' c']] w fun e w' => e = .returned (.bool b) ∧ Below w.heap.size w w' := by
  have h9 := hok.n
  rw [hn] at h9
  by_cases hv : p.v = q.v
  · have c0 : (p.v == q.v) = true := by simpa using hv
    have hb2 : ∀ o1 o2, Below w.heap.size w ((w.alloc o1).alloc o2) := fun o1 o2 => ((Below.refl _ _).alloc (Nat.le_refl _) _).alloc (by simp) _
    have EF : Hid (∀ o1 o2, Calls Tryz.prog 47 #[.slice A n c, .slice A' n' c', .func (.func 48) #[] #[]] ((w.alloc o1).alloc o2) fun e w' => e = .returned (.bool b) ∧ Below ((w.alloc o1).alloc o2).heap.size ((w.alloc o1).alloc o2) w') := Lib.hid (fun o1 o2 =>
      eqFuncTh_any A A' n n' c c' p.ts q.ts _ (hx.up (hb2 o1 o2)) (hy.up (hb2 o1 o2)) hn hn' h9 (fun t ht => (hok.t t ht).1) b (by rw [← hb, sameP]; simp [hv]))
    clear hx hy hn hn' hb hok
    generalize p.v = v at *
    generalize q.v = v' at *
    subst hv
    go_enter Tryz.func20, Tryz.ntmps20
    go_wp2_with (go_at_call 47; go_must (refine (EF.out _ _).mono ?_; rintro e w' ⟨rfl, hb6⟩))
    go_ret
    exact ⟨rfl, (hb2 _ _).trans (hb6.mono (by simp; omega))⟩
  · have c0 : (p.v == q.v) = false := by simpa using hv
    have HF : Hid (b = false) := Lib.hid (by rw [← hb, sameP]; simp [hv])
    clear hx hy hn hn' hb hok
    generalize p.v = v at *
    generalize q.v = v' at *
    clear hv
    go_enter Tryz.func20, Tryz.ntmps20
    go_wp2
    go_ret
    exact ⟨ret_bool HF.out.symm, ((Below.refl _ _).alloc (Nat.le_refl _) _).alloc (by simp) _⟩
end Go.Proofs.YtpkefohcccpncaaGreatDoor
