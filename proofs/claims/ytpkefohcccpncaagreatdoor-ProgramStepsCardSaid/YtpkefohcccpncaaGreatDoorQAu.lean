/- The reference's Same of two programs, and of two lists of events. The walk of Do at an event that can happen. -/
import Derived.Test.YtpkefohcccpncaaGreatDoorQAt
import Derived.Test.YtpkefohcccpncaaGreatDoorQAg
import Derived.Deep.DeepCutAuto
import Derived.Deep.CutBlock
import Derived.Deep.RegionHeld3
namespace Go.Proofs.YtpkefohcccpncaaGreatDoor
open Go.RowKit
set_option linter.unusedSimpArgs false
set_option linter.unusedVariables false

theorem two_newP (w : World) (T : TypeId) (a b : Array Value) : Below w.heap.size w ((w.alloc (.cells a T)).alloc (.cells b T)) ∧ Blk ((w.alloc (.cells a T)).alloc (.cells b T)) w.heap.size T a ∧ Blk ((w.alloc (.cells a T)).alloc (.cells b T)) (w.heap.size + 1) T b := by
  have h := Blk.new (w.alloc (.cells a T)) T b
  rw [World.size_alloc] at h
  exact ⟨((Below.refl _ _).alloc (Nat.le_refl _) _).alloc (by simp) _, (Blk.new w _ _).alloc _, h⟩
theorem two_newD (w : World) (T : TypeId) (a b : Array Value) : Below w.heap.size w ((w.alloc (.cells a T)).alloc (.cells b T)).drew ∧ Blk ((w.alloc (.cells a T)).alloc (.cells b T)).drew w.heap.size T a ∧ Blk ((w.alloc (.cells a T)).alloc (.cells b T)).drew (w.heap.size + 1) T b :=
  ⟨below_drewN (two_newP w T a b).1 1, (two_newP w T a b).2.1.drew, (two_newP w T a b).2.2.drew⟩
theorem neEv (a b c d e a' b' c' d' e' : Int) (w : World) : (binOp .neq 38 (.agg #[.int .i64 a, .int .i64 b, .int .i64 c, .int .i64 d, .int .i64 e]) (.agg #[.int .i64 a', .int .i64 b', .int .i64 c', .int .i64 d', .int .i64 e'])).run Tryz.prog w = .ok (.bool (!eqEvB ⟨a, b, c, d, e⟩ ⟨a', b', c', d', e'⟩)) w := by
  have u3 := Tryz.underlying3
  have a3 := Tryz.isAgg3
  have z3 := Tryz.sizeOf3
  have hS : Tryz.prog.underlying 38 = some (.struct (Tryz.prog.fieldsOf 38)) := by kernel_rfl
  have hp : Tryz.prog.stoodInHeld 38 = false := by kernel_rfl
  rw [run_neq_struct, show (10000 : Nat) = 9999 + 1 from rfl, run_equalIn_agg w 9999 38 _ _ hS hp]
  simp only [Program.fieldsOf, Tryz.underlying38]
  go_simp
  by_cases h1 : a = a' <;> by_cases h2 : b = b' <;> by_cases h3 : c = c' <;> by_cases h4 : d = d' <;> by_cases h5 : e = e' <;> simp [h1, h2, h3, h4, h5, eqEvB]
def sameEvs : List Ev → List Ev → Bool
  | [], [] => true
  | x :: xs, y :: ys => eqEvB x y && sameEvs xs ys
  | _, _ => false
theorem sameEvs_self (xs : List Ev) : sameEvs xs xs = true := by
  induction xs with
  | nil => rfl
  | cons x xs ih => rw [sameEvs, ih, Bool.and_true]; exact (eqEvB_iff x x).2 rfl
theorem sameEvs_len : ∀ (xs ys : List Ev), xs.length ≠ ys.length → sameEvs xs ys = false := by
  intro xs
  induction xs with
  | nil => intro ys h; cases ys with | nil => exact absurd rfl h | cons y ys => rfl
  | cons x xs ih =>
    intro ys h
    cases ys with
    | nil => rfl
    | cons y ys => simp only [sameEvs]; rw [ih ys (by simpa using h)]; simp

set_option maxHeartbeats 2000000 in
theorem rsameEv_any (A A' : Option Addr) (n n' c c' : Nat) (xs ys : List Ev) (w : World) (B B' : Nat) (hx : EvsAt w B A xs) (hy : EvsAt w B' A' ys) (hn : xs.length = n) (hn' : ys.length = n') (h9 : n ≤ 10000000000000) (b : Bool) (hb : sameEvs xs ys = b) :
    Calls Tryz.prog 25 #[.slice A n c, .slice A' n' c'] w fun e w' => e = .returned (.bool b) ∧ ∃ q, w' = w.drewN q := by
  by_cases hl : n = n'
  · subst hl
    have c0 : ((n : Int) != n) = false := by simp
    have HB := Lib.hid hb
    have HX := Lib.hid hx
    have HY := Lib.hid hy
    have HN := Lib.hid hn
    have HN' := Lib.hid hn'
    clear hb hx hy hn hn'
    go_enter Tryz.func25, Tryz.ntmps25
    go_wp2
    go_loopw [5] (fun i wr => ∃ (k q : Nat), k ≤ n ∧ i = .int .i64 k ∧ Hid (wr = w.drewN q ∧ sameEvs (xs.drop k) (ys.drop k) = b)) (fun i _ => n - (intOf i).toNat)
    case atStart => exact ⟨0, 0, by omega, rfl, Lib.hid ⟨rfl, HB.out⟩⟩
    case round =>
      obtain ⟨k, q, hk, rfl, HR⟩ := hrel
      obtain ⟨hw, hr⟩ := HR.out
      subst hw
      by_cases hlt : k < n
      · have hkx : k < xs.length := by rw [HN.out]; exact hlt
        have hky : k < ys.length := by rw [HN'.out]; exact hlt
        obtain ⟨ad, rfl, hab, h0, h1, h2, h3, h4⟩ := HX.out.at_ hkx
        obtain ⟨ad', rfl, hab', g0, g1, g2, g3, g4⟩ := HY.out.at_ hky
        rw [List.drop_eq_getElem_cons hkx, List.drop_eq_getElem_cons hky] at hr
        simp only [sameEvs] at hr
        generalize xs[k]'hkx = x at *
        generalize ys[k]'hky = y at *
        obtain ⟨x1, x2, x3, x4, x5⟩ := x
        obtain ⟨y1, y2, y3, y4, y5⟩ := y
        dsimp only at *
        have ne := neEv x1 x2 x3 x4 x5 y1 y2 y3 y4 y5
        have HR2 := Lib.hid hr
        have j0 : (0 : Int) ≤ (k : Int) := by omega
        have j1 : (k : Int) < (n : Int) := by omega
        clear hr
        rcases he : eqEvB ⟨x1, x2, x3, x4, x5⟩ ⟨y1, y2, y3, y4, y5⟩ with _ | _
        · rw [he] at ne
          have HF : Hid (b = false) := Lib.hid (by rw [← HR2.out, he]; rfl)
          clear he
          go_wp2_with fail
          go_quiet (fail)
          go_wp2
          go_ret
          exact ⟨ret_bool HF.out.symm, _, World.drewN_drewN _ _ _⟩
        · rw [he] at ne
          have HF : Hid (sameEvs (xs.drop (k + 1)) (ys.drop (k + 1)) = b) := Lib.hid (by rw [← HR2.out, he]; simp)
          clear he
          go_wp2_with fail
          go_quiet (fail)
          go_wp2
          go_roundw
          case rel => exact ⟨k + 1, _, by omega, by go_num, Lib.hid ⟨rfl, HF.out⟩⟩
          case measure => simp [intOf]; omega
      · obtain rfl : k = n := by omega
        have HF : Hid (b = true) := Lib.hid (by
          rw [← hr, List.drop_of_length_le (by rw [HN.out]; exact Nat.le_refl _), List.drop_of_length_le (by rw [HN'.out]; exact Nat.le_refl _)]; rfl)
        clear hr
        go_wp2
        go_ret
        exact ⟨ret_bool HF.out.symm, _, rfl⟩
  · have c0 : ((n : Int) != n') = true := by simp; omega
    have HF : Hid (b = false) := Lib.hid (by rw [← hb]; exact sameEvs_len _ _ (by omega))
    go_enter Tryz.func25, Tryz.ntmps25
    go_wp2
    go_ret
    exact ⟨ret_bool HF.out.symm, 0, rfl⟩

set_option maxRecDepth 100000 in
set_option maxHeartbeats 8000000 in
theorem rsameP_any (p q : Prg) (A A' : Option Addr) (n n' c c' : Nat) (w : World) (hx : ThsAt w w.heap.size A p.ts) (hy : ThsAt w w.heap.size A' q.ts) (hn : p.ts.length = n) (hn' : q.ts.length = n') (hok : PrgOk p) (b : Bool) (hb : sameP p q = b) :
    Calls Tryz.prog 21 #[.agg #[.int .i64 p.v, .slice A n c], .agg #[.int .i64 q.v, .slice A' n' c']] w fun e w' => e = .returned (.bool b) ∧ Below w.heap.size w w' := by
  have h9 := hok.n
  rw [hn] at h9
  have HB0 : Hid (∀ o1 o2, Below w.heap.size w ((w.alloc o1).alloc o2)) := Lib.hid (fun o1 o2 => ((Below.refl _ _).alloc (Nat.le_refl _) _).alloc (by simp) _)
  by_cases hv : p.v = q.v
  rotate_left
  · have c0 : (p.v == q.v) = false := by simpa using hv
    have c1 : (p.v != q.v) = true := by simpa using hv
    have HF : Hid (b = false) := Lib.hid (by rw [← hb, sameP]; simp [hv])
    clear hx hy hn hn' hb hok
    generalize p.v = v at *
    generalize q.v = v' at *
    clear hv
    go_enter Tryz.func21, Tryz.ntmps21
    go_wp2_with fail
    go_ret
    exact ⟨ret_bool HF.out.symm, HB0.out _ _⟩
  by_cases hl : n = n'
  rotate_left
  · have c0 : (p.v == q.v) = true := by simpa using hv
    have c1 : (p.v != q.v) = false := by simpa using hv
    have c2 : ((n : Int) != (n' : Int)) = true := by simp; omega
    have HF : Hid (b = false) := Lib.hid (by rw [← hb, sameP, sameThs_len _ _ (by omega)]; simp)
    clear hx hy hn hn' hb hok
    generalize p.v = v at *
    generalize q.v = v' at *
    clear hv
    go_enter Tryz.func21, Tryz.ntmps21
    go_wp2_with fail
    go_ret
    exact ⟨ret_bool HF.out.symm, HB0.out _ _⟩
  subst hl
  have c0 : (p.v == q.v) = true := by simpa using hv
  have c1 : (p.v != q.v) = false := by simpa using hv
  have c2 : ((n : Int) != (n : Int)) = false := by simp
  have HB : Hid (sameThs (p.ts.drop 0) (q.ts.drop 0) = b) := Lib.hid (by rw [← hb, sameP, c0]; rfl)
  have HX := Lib.hid hx
  have HY := Lib.hid hy
  have HN := Lib.hid hn
  have HN' := Lib.hid hn'
  have HL9 := Lib.hid (fun t (ht : t ∈ p.ts) => (hok.t t ht).1)
  clear hb hx hy hn hn' hok
  generalize p.v = v at *
  generalize q.v = v' at *
  generalize p.ts = xs at *
  generalize q.ts = ys at *
  subst hv
  go_enter Tryz.func21, Tryz.ntmps21
  go_wp2_with fail
  go_loopw [5] (fun i wr => ∃ (k : Nat), k ≤ n ∧ i = .int .i64 k ∧ Hid (Below w.heap.size w wr ∧ Blk wr w.heap.size 28 #[.int .i64 v, .slice A n c] ∧ Blk wr (w.heap.size + 1) 28 #[.int .i64 v, .slice A' n c'] ∧ sameThs (xs.drop k) (ys.drop k) = b)) (fun i _ => n - (intOf i).toNat)
  case atStart =>
    have h := two_newP w 28 #[.int .i64 v, .slice A n c] #[.int .i64 v, .slice A' n c']
    exact ⟨0, by omega, rfl, Lib.hid ⟨h.1, h.2.1, h.2.2, HB.out⟩⟩
  case round =>
    obtain ⟨wo, rfl⟩ : ∃ wo : World, wo = wr := ⟨_, rfl⟩
    obtain ⟨k, hk, rfl, HR⟩ := hrel
    obtain ⟨hbw, hq0, hq1, hr⟩ := HR.out
    have p0 := hq0.cell 1
    have p1 := hq1.cell 1
    by_cases hlt : k < n
    · have hkx : k < xs.length := by rw [HN.out]; exact hlt
      have hky : k < ys.length := by rw [HN'.out]; exact hlt
      obtain ⟨ad, LA, lc, rfl, hab, h0, h1, hL⟩ := (HX.out.below hbw).at_ hkx
      obtain ⟨ad', LA', lc', rfl, hab', g0, g1, gL⟩ := (HY.out.below hbw).at_ hky
      have l9 := HL9.out _ (List.getElem_mem hkx)
      rw [List.drop_eq_getElem_cons hkx, List.drop_eq_getElem_cons hky] at hr
      simp only [sameThs] at hr
      generalize xs[k]'hkx = x at *
      generalize ys[k]'hky = y at *
      obtain ⟨nm, ls⟩ := x
      obtain ⟨nm', ls'⟩ := y
      dsimp only at *
      obtain ⟨ln, hln⟩ : ∃ ln, ls.length = ln := ⟨_, rfl⟩
      obtain ⟨ln', hln'⟩ : ∃ ln, ls'.length = ln := ⟨_, rfl⟩
      rw [hln] at h1 l9
      rw [hln'] at g1
      have hwl : w.heap.size + 1 < wo.heap.size := hq1.lt
      have HR2 := Lib.hid hr
      have HLN := Lib.hid hln
      have HLN' := Lib.hid hln'
      have HBW := Lib.hid hbw
      have HQ0 := Lib.hid hq0
      have HQ1 := Lib.hid hq1
      have HL := Lib.hid hL
      have HL' := Lib.hid gL
      have j0 : (0 : Int) ≤ (k : Int) := by omega
      have j1 : (k : Int) < (n : Int) := by omega
      have KS : Hid (∀ W', Below wo.heap.size wo W' → W'.cell? ⟨w.heap.size, 1, none⟩ = some (.slice (some ad) n c) ∧ W'.cell? ⟨w.heap.size + 1, 1, none⟩ = some (.slice (some ad') n c') ∧ W'.cell? (ad.add (k * 2)) = some (.string nm) ∧ W'.cell? ⟨(ad.add (k * 2)).block, (ad.add (k * 2)).off + 1, none⟩ = some (.slice LA ln lc) ∧ W'.cell? (ad'.add (k * 2)) = some (.string nm') ∧ W'.cell? ⟨(ad'.add (k * 2)).block, (ad'.add (k * 2)).off + 1, none⟩ = some (.slice LA' ln' lc')) := Lib.hid (fun W' h =>
        ⟨(hq0.below h (by omega)).cell 1, (hq1.below h hwl).cell 1, (h.cell (p := ad.add (k * 2)) (by rw [add_block]; omega)).trans h0, (h.cell (p := ⟨(ad.add (k * 2)).block, (ad.add (k * 2)).off + 1, none⟩) (by simp only [add_block]; omega)).trans h1, (h.cell (p := ad'.add (k * 2)) (by rw [add_block]; omega)).trans g0, (h.cell (p := ⟨(ad'.add (k * 2)).block, (ad'.add (k * 2)).off + 1, none⟩) (by simp only [add_block]; omega)).trans g1⟩)
      have HD0 : Hid (Below wo.heap.size wo wo.drew) := Lib.hid (below_drewN (Below.refl _ _) 1)
      have HD1 : Hid (∀ o, Below wo.heap.size wo (wo.drew.alloc o) ∧ Below wo.heap.size wo ((wo.alloc o).drew) ∧ Below wo.heap.size wo (wo.alloc o)) := Lib.hid (fun o => ⟨(below_drewN (Below.refl _ _) 1).alloc (Nat.le_refl _) o, below_drewN ((Below.refl _ _).alloc (Nat.le_refl _) o) 1, (Below.refl _ _).alloc (Nat.le_refl _) o⟩)
      have HD2 : Hid (∀ o o', Below wo.heap.size wo ((wo.drew.alloc o).alloc o') ∧ Below wo.heap.size wo (((wo.alloc o).alloc o').drew) ∧ Below wo.heap.size wo ((wo.alloc o).alloc o')) := Lib.hid (fun o o' => ⟨((below_drewN (Below.refl _ _) 1).alloc (Nat.le_refl _) o).alloc (by simp [World.drew]) o', below_drewN (((Below.refl _ _).alloc (Nat.le_refl _) o).alloc (by simp) o') 1, ((Below.refl _ _).alloc (Nat.le_refl _) o).alloc (by simp) o'⟩)
      clear hr hln hln' hL gL hbw hq0 hq1 HR
      go_upto_region 6 with fail
      go_cut [6, 7] from 30 to 39 (fun s6 s7 wx => ∃ y1 y2 : Nat, s6 = .pointer (some ⟨y1, 0, none⟩) ∧ s7 = .pointer (some ⟨y2, 0, none⟩) ∧ Hid (Below wo.heap.size wo wx ∧ Blk wx y1 45 #[.string nm, .slice LA ln lc] ∧ Blk wx y2 45 #[.string nm', .slice LA' ln' lc']))
      case first =>
        go_region_held3 (fun W' => W'.cell? ⟨w.heap.size, 1, none⟩ = some (.slice (some ad) n c) ∧ W'.cell? ⟨w.heap.size + 1, 1, none⟩ = some (.slice (some ad') n c') ∧ W'.cell? (ad.add (k * 2)) = some (.string nm) ∧ W'.cell? ⟨(ad.add (k * 2)).block, (ad.add (k * 2)).off + 1, none⟩ = some (.slice LA ln lc) ∧ W'.cell? (ad'.add (k * 2)) = some (.string nm') ∧ W'.cell? ⟨(ad'.add (k * 2)).block, (ad'.add (k * 2)).off + 1, none⟩ = some (.slice LA' ln' lc')) (first | (refine KS.out _ ?_; first | exact HD0.out | exact (HD1.out _).1 | exact (HD1.out _).2.1 | exact (HD1.out _).2.2 | exact (HD2.out _ _).1 | exact (HD2.out _ _).2.1 | exact (HD2.out _ _).2.2) | go_keep) (fail)
        all_goals
          go_wp2_with fail
          go_meet
          first
          | exact ⟨_, _, rfl, rfl, Lib.hid (two_newD wo 45 #[.string nm, .slice LA ln lc] #[.string nm', .slice LA' ln' lc'])⟩
          | exact ⟨_, _, rfl, rfl, Lib.hid ⟨(two_newD wo 45 #[.string nm', .slice LA' ln' lc'] #[.string nm, .slice LA ln lc]).1, (two_newD wo 45 #[.string nm', .slice LA' ln' lc'] #[.string nm, .slice LA ln lc]).2.2, (two_newD wo 45 #[.string nm', .slice LA' ln' lc'] #[.string nm, .slice LA ln lc]).2.1⟩⟩
      case rest =>
      obtain ⟨b1, b2, rfl, rfl, HG⟩ := hcut
      obtain ⟨W3, rfl⟩ : ∃ W3 : World, W3 = wc := ⟨_, rfl⟩
      clear p0 p1 h0 h1 g0 g1
      have x0 := HG.out.2.1.cell 0
      have x1 := HG.out.2.1.cell 1
      have y0 := HG.out.2.2.cell 0
      have y1 := HG.out.2.2.cell 1
      have HBW3 : Hid (Below w.heap.size w W3) := Lib.hid (HBW.out.trans (HG.out.1.mono (by omega)))
      by_cases he : nm.data.toList = nm'.data.toList
      rotate_left
      · have d0 : (nm.toList == nm'.toList) = false := by rw [str_eq_dec]; simpa using he
        have d1 : (nm.toList != nm'.toList) = true := by rw [bne, d0]; rfl
        have HF : Hid (b = false) := Lib.hid (by rw [← HR2.out, sameTh, show (nm.data.toList == nm'.data.toList) = false from beq_eq_false_iff_ne.2 he]; rfl)
        clear he
        go_wp2_with fail
        go_ret
        exact ⟨ret_bool HF.out.symm, HBW3.out⟩
      have d0 : (nm.toList == nm'.toList) = true := by rw [str_eq_dec]; simpa using he
      have d1 : (nm.toList != nm'.toList) = false := by rw [bne, d0]; rfl
      by_cases hll : ln = ln'
      rotate_left
      · have d2 : ((ln : Int) != (ln' : Int)) = true := by simp; omega
        have HF : Hid (b = false) := Lib.hid (by rw [← HR2.out, sameTh, sameLns_len _ _ (by rw [HLN.out, HLN'.out]; exact hll)]; simp)
        clear he hll
        go_wp2_with fail
        go_ret
        exact ⟨ret_bool HF.out.symm, HBW3.out⟩
      subst hll
      have d2 : ((ln : Int) != (ln : Int)) = false := by simp
      have HR3 : Hid ((sameLns (ls.drop 0) (ls'.drop 0) && sameThs (xs.drop (k + 1)) (ys.drop (k + 1))) = b) := Lib.hid (by rw [← HR2.out, sameTh]; simp [he])
      clear he
      go_wp2_with fail
      go_loopw [8] (fun s8 wr => ∃ (j r : Nat), j ≤ ln ∧ s8 = .int .i64 j ∧ Hid (wr = W3.drewN r ∧ (sameLns (ls.drop j) (ls'.drop j) && sameThs (xs.drop (k + 1)) (ys.drop (k + 1))) = b)) (fun s8 _ => ln - (intOf s8).toNat)
      case atStart => exact ⟨0, 0, by omega, rfl, Lib.hid ⟨rfl, HR3.out⟩⟩
      case round =>
        obtain ⟨j, r, hj, rfl, HJ⟩ := hrel
        obtain ⟨hw, hr⟩ := HJ.out
        subst hw
        by_cases hjl : j < ln
        · have hjx : j < ls.length := by rw [HLN.out]; exact hjl
          have hjy : j < ls'.length := by rw [HLN'.out]; exact hjl
          obtain ⟨bd, rfl, hbb, l0, l1, l2⟩ := (HL.out.below (HG.out.1.mono (by have := HBW.out.size; omega))).at_ hjx
          obtain ⟨bd', rfl, hbb', m0, m1, m2⟩ := (HL'.out.below (HG.out.1.mono (by have := HBW.out.size; omega))).at_ hjy
          rw [List.drop_eq_getElem_cons hjx, List.drop_eq_getElem_cons hjy] at hr
          simp only [sameLns] at hr
          generalize ls[j]'hjx = x at *
          generalize ls'[j]'hjy = y at *
          obtain ⟨k1, a1, n1⟩ := x
          obtain ⟨k2, a2, n2⟩ := y
          dsimp only at *
          have ne := neLn k1 a1 n1 k2 a2 n2
          have HR5 := Lib.hid hr
          have i0 : (0 : Int) ≤ (j : Int) := by omega
          have i1 : (j : Int) < (ln : Int) := by omega
          clear hr
          rcases he : eqLnB ⟨k1, a1, n1⟩ ⟨k2, a2, n2⟩ with _ | _
          · rw [he] at ne
            have HF : Hid (b = false) := Lib.hid (by rw [← HR5.out, he]; rfl)
            clear he
            go_wp2_with fail
            go_quiet (fail)
            go_wp2_with fail
            go_ret
            exact ⟨ret_bool HF.out.symm, below_drewN (below_drewN HBW3.out _) _⟩
          · rw [he] at ne
            have HF : Hid ((sameLns (ls.drop (j + 1)) (ls'.drop (j + 1)) && sameThs (xs.drop (k + 1)) (ys.drop (k + 1))) = b) := Lib.hid (by rw [← HR5.out, he]; simp)
            clear he
            go_wp2_with fail
            go_quiet (fail)
            go_wp2_with fail
            go_roundw
            case rel => exact ⟨j + 1, _, by omega, by go_num, Lib.hid ⟨rfl, HF.out⟩⟩
            case measure => simp [intOf]; omega
        · obtain rfl : j = ln := by omega
          have HF : Hid (sameThs (xs.drop (k + 1)) (ys.drop (k + 1)) = b) := Lib.hid (by
            rw [← hr, List.drop_of_length_le (show ls.length ≤ j by rw [HLN.out]; exact Nat.le_refl _), List.drop_of_length_le (show ls'.length ≤ j by rw [HLN'.out]; exact Nat.le_refl _)]; rfl)
          have HQA : Hid (Blk (W3.drewN r) w.heap.size 28 #[.int .i64 v, .slice (some ad) n c] ∧ Blk (W3.drewN r) (w.heap.size + 1) 28 #[.int .i64 v, .slice (some ad') n c']) := Lib.hid ⟨(HQ0.out.below HG.out.1 (by have := HQ0.out.lt; omega)).drewN _, (HQ1.out.below HG.out.1 hwl).drewN _⟩
          clear hr HJ
          go_wp2_with fail
          go_roundw
          case rel => exact ⟨k + 1, by omega, by go_num, Lib.hid ⟨below_drewN HBW3.out _, HQA.out.1, HQA.out.2, HF.out⟩⟩
          case measure => simp [intOf]; omega
    · obtain rfl : k = n := by omega
      have HF : Hid (b = true) := Lib.hid (by
        rw [← hr, List.drop_of_length_le (by rw [HN.out]; exact Nat.le_refl _), List.drop_of_length_le (by rw [HN'.out]; exact Nat.le_refl _)]; rfl)
      have HBW := Lib.hid hbw
      clear hr hbw hq0 hq1 HR
      go_wp2_with fail
      go_ret
      exact ⟨ret_bool HF.out.symm, HBW.out⟩
end Go.Proofs.YtpkefohcccpncaaGreatDoor
namespace Go.Proofs.YtpkefohcccpncaaGreatDoor
open Go.RowKit
set_option linter.unusedSimpArgs false
set_option linter.unusedVariables false

theorem bump_bd {cs : List Int} {a b : Int} (h : ∀ j, a ≤ cs.getD j 0 ∧ cs.getD j 0 ≤ b) (i : Nat) (d : Int) (hd : -10 ≤ d ∧ d ≤ 10) (ha : a ≤ 0) (hb : 0 ≤ b) : ∀ j, a - 10 ≤ (bump cs i d).getD j 0 ∧ (bump cs i d).getD j 0 ≤ b + 10 := by
  intro j
  by_cases hj : j < cs.length
  · rw [bump_get d hj]
    have := h j
    split <;> omega
  · rw [List.getD_eq_getElem?_getD, List.getElem?_eq_none (by rw [bump_length]; omega)]
    simp; omega
set_option maxRecDepth 100000 in
set_option maxHeartbeats 8000000 in
theorem do_ok (p : Prg) (A : Option Addr) (n c : Nat) (v : Int) (CA : Option Addr) (cn cc : Nat) (cs : List Int) (e : Ev) (w : World) (M : Int) (hT : ThsAt w w.heap.size A p.ts) (hn : p.ts.length = n) (hg : GlobP w) (hok : PrgOk p)
    (hC : IsAt w w.heap.size CA cs) (hcn : cs.length = cn) (h0 : (stepsP p v cs).1 = 0) (he : e ∈ (stepsP p v cs).2) (hb : Bd cs M) (hM : M + 2 ≤ 1048576) :
    Calls Tryz.prog 12 #[.agg #[.int .i64 p.v, .slice A n c], .int .i64 v, .slice CA cn cc, .agg #[.int .i64 e.th, .int .i64 e.ln, .int .i64 e.nu, .int .i64 e.va, .int .i64 e.nx]] w (DoOwn w e.va (doC p cs e)) := by
  obtain ⟨i, k, hat⟩ := ev_place h0 he
  obtain ⟨hck, v0, v1, hbad, hlen, hsteps⟩ := steps_ok h0
  have h6 := placesP_le p
  have hp0 := placesP_pos p hck
  have hcn6 : cn ≤ 6 := by omega
  have hcn0 : 0 < cn := by omega
  obtain ⟨x2, x3⟩ := ev_ix hck hlen hat
  have x1 := hat.lt
  have hlnat := lnOf_at hat.hi hat.hk
  have HBD := Lib.hid hb
  have HDOB := Lib.hid (doC_bd hat hb)
  have HDL := Lib.hid (doC_length p cs e)
  obtain ⟨es, hes⟩ : ∃ es, (stepsP p v cs).2 = es := ⟨_, rfl⟩
  have hr : stepsP p v cs = (0, es) := by rw [← hes, ← h0]
  obtain ⟨el, hel⟩ : ∃ el, es.length = el := ⟨_, rfl⟩
  have hel9 : el ≤ 12 := by
    have := stepsTo_le p v cs (placesP p) (placesP p).length
    rw [← hsteps, hes, hel] at this
    omega
  rw [hes] at he
  have HIN : Hid (es.any (eqEvB · e) = true) := Lib.hid (List.any_eq_true.2 ⟨e, he, (eqEvB_iff _ _).2 rfl⟩)
  have HEL := Lib.hid hel
  have ST : Hid (∀ W, Below w.heap.size w W → Calls Tryz.prog 10 #[.agg #[.int .i64 p.v, .slice A n c], .int .i64 v, .slice CA cn cc] W (StepsPost W (0, es))) := Lib.hid (fun W h =>
    steps_any p A n c v CA cn cc cs W (hT.up h) hn (hg.below h) hok ((hC.below h).more h.size) hcn (by omega) _ hr)
  have PL : Hid (∀ W, Below w.heap.size w W → Calls Tryz.prog 13 #[.agg #[.int .i64 p.v, .slice A n c]] W (PlacesPost W (placesP p))) := Lib.hid (fun W h => places_any p A n c W (hT.up h) hn (hg.below h) hok)
  have CL : Hid (∀ W, Below w.heap.size w W → Calls Tryz.prog 36 #[.slice CA cn cc] W (ClonePost W cs cn)) := Lib.hid (fun W h => clone_any CA cn cc cs W ((hC.below h).more h.size) hcn hcn0 (by omega))
  have CE : Hid (∀ W EA ec, EvsAt W W.heap.size EA es → Calls Tryz.prog 35 #[.slice EA el ec, .agg #[.int .i64 e.th, .int .i64 e.ln, .int .i64 e.nu, .int .i64 e.va, .int .i64 e.nx]] W fun e' w' => e' = .returned (.bool true) ∧ Below W.heap.size W w') := Lib.hid (fun W EA ec h => contEv_any EA el ec es e W h hel (by omega) true HIN.out)
  have HLN : Hid (∀ W, Below w.heap.size w W → ∃ ad LA lc ad2, A = some ad ∧ LA = some ad2 ∧ ad.block < w.heap.size ∧ ad2.block < w.heap.size ∧ W.cell? (ad.add (i * 2)) = some (.string (p.ts[i]'hat.hi).nm) ∧ W.cell? ⟨(ad.add (i * 2)).block, (ad.add (i * 2)).off + 1, none⟩ = some (.slice LA (p.ts[i]'hat.hi).ls.length lc) ∧
      W.cell? (ad2.add (k * 3)) = some (.int .i64 (lnOf p e.th e.ln).k) ∧ W.cell? ⟨(ad2.add (k * 3)).block, (ad2.add (k * 3)).off + 1, none⟩ = some (.int .i64 (lnOf p e.th e.ln).a) ∧ W.cell? ⟨(ad2.add (k * 3)).block, (ad2.add (k * 3)).off + 2, none⟩ = some (.int .i64 (lnOf p e.th e.ln).n)) := Lib.hid (fun W h => by
    obtain ⟨ad, LA, lc, e1, hab, g0, g1, hL⟩ := (hT.below h).at_ hat.hi
    obtain ⟨ad2, e2, hab2, l0, l1, l2⟩ := hL.at_ hat.hk
    rw [hat.ok.th, hat.ok.ln, hlnat]
    exact ⟨ad, LA, lc, ad2, e1, e2, hab, hab2, g0, g1, l0, l1, l2⟩)
  obtain ⟨nl, hnl⟩ : ∃ nl, (p.ts[i]'hat.hi).ls.length = nl := ⟨_, rfl⟩
  have hkn : k < nl := by rw [← hnl]; exact hat.hk
  have hin : i < n := by rw [← hn]; exact hat.hi
  rw [hnl] at HLN
  generalize (p.ts[i]'hat.hi).nm = nm at HLN
  have hth := hat.ok.th
  have hln2 := hat.ok.ln
  have hbi := hb _ x1
  have HDC : Hid (∀ c1 c2, c1 = bump cs (ixOf (placesP p) e.th e.ln) (-1) → c2 = (if 0 ≤ e.nx then bump c1 (ixOf (placesP p) e.th e.nx) 1 else c1) → doC p cs e = (if (lnOf p e.th e.ln).k = 5 then bump c2 (ixOf (placesP p) (lnOf p e.th e.ln).a 0) 1 else c2)) := Lib.hid (fun c1 c2 h1 h2 => by subst h1; subst h2; rfl)
  have hix1 : ixOf (placesP p) e.th e.ln < (placesP p).length := by omega
  have hix2 : 0 ≤ e.nx → ixOf (placesP p) e.th e.nx < (placesP p).length := fun h => by have := x2 h; omega
  have hix3 : (lnOf p e.th e.ln).k = 5 → ixOf (placesP p) (lnOf p e.th e.ln).a 0 < (placesP p).length := fun h => by have := x3 h; omega
  generalize lnOf p e.th e.ln = L at *
  obtain ⟨lk, la, lm⟩ := L
  have hps : (placesP p).length = cn := by omega
  have HPS := Lib.hid hps
  have HCN := Lib.hid hcn
  have HPSR : Hid (∀ W, PlacesPost W (placesP p) = fun e w' => ∃ A c, e = .returned (.slice A cn c) ∧ PlsAt w' w'.heap.size A (placesP p) ∧ Below W.heap.size W w') := Lib.hid (fun W => by unfold PlacesPost; rw [hps])
  have HB0 : Hid (Bd (doC p cs e) (M + 2) ∧ (doC p cs e).length = cn) := Lib.hid ⟨HDOB.out, by rw [HDL.out]; exact hcn⟩
  have hlb : ∀ j, -1000 ≤ cs.getD j 0 ∧ cs.getD j 0 ≤ 1048576 := fun j => by
    by_cases hj : j < cs.length
    · have := hb j hj; omega
    · rw [List.getD_eq_getElem?_getD, List.getElem?_eq_none (by omega)]; simp
  have HLB := Lib.hid hlb
  generalize placesP p = ps at *
  have CT : Hid (∀ (t l d : Int) (ix : Nat) (W : World) (ob pb g B cap : Nat) (PA : Option Addr) (pc : Nat) (cs' : List Int), ixOf ps t l = ix → ix < cn → -10 ≤ d ∧ d ≤ 10 → (-1000000000 ≤ cs'.getD ix 0 ∧ cs'.getD ix 0 ≤ 1000000000) → CntI W ob pb g B cn cap PA cn pc ps cs' →
      Calls Tryz.prog 37 #[.int .i64 t, .int .i64 l, .int .i64 d, .pointer (some ⟨ob, 0, none⟩), .pointer (some ⟨pb, 0, none⟩)] W (CntPost W ob pb g B cn cap PA cn pc ps (bump cs' ix d))) := Lib.hid (fun t l d ix W ob pb g B cap PA pc cs' h1 h2 h3 h4 h5 => by
    have := count_any t l d ob pb g B cn cap PA cn pc ps cs' W h5 (by rw [hps, h1]; exact h2) (by rw [h1]; exact h2) h3 (by rw [h1]; exact h4)
    rw [h1] at this
    exact this)
  obtain ⟨DC, hDC⟩ : ∃ DC, doC p cs e = DC := ⟨_, rfl⟩
  rw [hDC] at HDC HB0 ⊢
  obtain ⟨et, eln, en, ea, ex⟩ := e
  dsimp only at *
  subst hth
  subst hln2
  obtain ⟨ix1, hx1⟩ : ∃ ix, ixOf ps (i : Int) (k : Int) = ix := ⟨_, rfl⟩
  obtain ⟨ix2, hx2⟩ : ∃ ix, ixOf ps (i : Int) ex = ix := ⟨_, rfl⟩
  obtain ⟨ix3, hx3⟩ : ∃ ix, ixOf ps la 0 = ix := ⟨_, rfl⟩
  rw [hx1] at HDC hix1
  rw [hx2] at HDC hix2
  rw [hx3] at HDC hix3
  rw [hps] at hix1 hix2 hix3
  have CT1 := Lib.hid (fun W ob pb g B cap PA pc cs' => CT.out i k (-1) ix1 W ob pb g B cap PA pc cs' hx1 hix1 (by omega))
  have CT2 := Lib.hid (fun (h : 0 ≤ ex) W ob pb g B cap PA pc cs' => CT.out i ex 1 ix2 W ob pb g B cap PA pc cs' hx2 (hix2 h) (by omega))
  have CT3 := Lib.hid (fun (h : lk = 5) W ob pb g B cap PA pc cs' => CT.out la 0 1 ix3 W ob pb g B cap PA pc cs' hx3 (hix3 h) (by omega))
  generalize p.v = pv at *
  clear hT hn hg hok hC hcn h0 he hb hat hck hlen hsteps h6 hp0 x2 x3 x1 hlnat hes hr hel hDC hx1 hx2 hx3 hix1 hix2 hix3 hps hlb HDOB HDL HBD CT hbad hnl hbi HIN
  go_enter Tryz.func12, Tryz.ntmps12
  go_wp2_with fail
  refine (ST.out _ (((Below.refl _ _).alloc (Nat.le_refl _) _).alloc (by simp) _)).mono ?_
  rintro e' w2 ⟨EA, ec, rfl, hes2, hb2⟩
  dsimp only at hes2 ⊢
  rw [HEL.out]
  have HES := Lib.hid hes2
  have HB2 : Hid (Below w.heap.size w w2) := Lib.hid ((((Below.refl _ _).alloc (Nat.le_refl _) _).alloc (by simp) _).trans (hb2.mono (by simp <;> omega)))
  have hP2 : Blk w2 w.heap.size 28 #[.int .i64 pv, .slice A n c] := ((Blk.new w _ _).alloc _).below hb2 (by simp <;> omega)
  have hE2 : Blk w2 (w.heap.size + 1) 38 #[.int .i64 i, .int .i64 k, .int .i64 en, .int .i64 ea, .int .i64 ex] := by
    have := Blk.new (w.alloc (.cells #[.int .i64 pv, .slice A n c] 28)) 38 #[.int .i64 i, .int .i64 k, .int .i64 en, .int .i64 ea, .int .i64 ex]
    rw [World.size_alloc] at this
    exact this.below hb2 (by simp)
  have HP2 := Lib.hid hP2
  have HE2 := Lib.hid hE2
  have e0 := hE2.cell 0
  have e1 := hE2.cell 1
  have e2 := hE2.cell 2
  have e3 := hE2.cell 3
  have e4 := hE2.cell 4
  have z2 := hE2.lt
  clear hes2 hb2 hP2 hE2 ST
  go_wp2_with fail
  refine (CE.out w2 EA ec HES.out).mono ?_
  rintro e' w3 ⟨rfl, hb3⟩
  have HB3 := Lib.hid (HB2.out.trans (hb3.mono HB2.out.size))
  have HP3 := Lib.hid (HP2.out.below hb3 HP2.out.lt)
  have HE3 := Lib.hid (HE2.out.below hb3 HE2.out.lt)
  have p0 := HP3.out.cell 0
  have p1 := HP3.out.cell 1
  have z3 := HE3.out.lt
  clear e0 e1 e2 e3 e4 hb3 CE HES HB2 HP2 HE2
  go_wp2_with fail
  refine (PL.out _ HB3.out).mono ?_
  rintro e' w4 ⟨PA, pc, rfl, hpl, hb4⟩
  rw [HPS.out]
  have HPL := Lib.hid hpl
  have HB4 := Lib.hid (HB3.out.trans (hb4.mono HB3.out.size))
  have HP4 := Lib.hid (HP3.out.below hb4 HP3.out.lt)
  have HE4 := Lib.hid (HE3.out.below hb4 HE3.out.lt)
  have z4 := HE4.out.lt
  clear p0 p1 hpl hb4 PL HB3 HP3 HE3
  go_wp2_with fail
  refine (CL.out _ HB4.out).mono ?_
  rintro e' w5 ⟨g, cap, rfl, hown, hb5⟩
  have HOW := Lib.hid hown
  have HB5 := Lib.hid (HB4.out.trans (hb5.mono HB4.out.size))
  have HP5 := Lib.hid (HP4.out.below hb5 HP4.out.lt)
  have HE5 := Lib.hid (HE4.out.below hb5 HE4.out.lt)
  have HPL5 := Lib.hid (show PlsAt w5 w4.heap.size PA ps from Reads.below HPL.out hb5)
  have hgw := hown.lt g rfl
  have z5 := hb5.size
  clear hown hb5 CL HP4 HE4 HPL
  go_upto_region 8 with fail
  refine wp_world (fun W => Hid (DoI w W pv A n c ⟨i, k, en, ea, ex⟩ (w5.heap.size + 1) w5.heap.size g w4.heap.size cn cap PA cn pc ps cs)) (Lib.hid ⟨⟨?_, ?_, ?_, ?_, HPS.out, HCN.out, by omega, by omega⟩, (HP5.out.alloc _).alloc _, (HE5.out.alloc _).alloc _, (HB5.out.alloc HB5.out.size _).alloc (by have := HB5.out.size; simp; omega) _, by omega, by omega⟩) ?_
  · have := Blk.new (w5.alloc (.cells #[.slice PA cn pc] 47)) 30 #[.slice (some ⟨g, 0, none⟩) cn cap]
    rw [World.size_alloc] at this
    exact this
  · exact (Blk.new w5 _ _).alloc _
  · exact (HOW.out.alloc _).alloc _
  · exact Reads.alloc (Reads.alloc HPL5.out z5 _) (by simp; omega) _
  intro W6 HI6
  have e0 := HI6.out.e.cell 0
  have e1 := HI6.out.e.cell 1
  go_wp2_with fail
  refine (CT1.out W6 _ _ g _ cap PA pc cs (by have := HLB.out ix1; omega) HI6.out.cn).mono ?_
  rintro e' w7 ⟨rfl, hc7, hg7⟩
  obtain ⟨C1, hC1⟩ : ∃ C1, bump cs ix1 (-1) = C1 := ⟨_, rfl⟩
  rw [hC1] at hc7
  have HI7 := Lib.hid (HI6.out.next hc7 hg7)
  have HC1 := Lib.hid hC1
  have HL1 := Lib.hid (bump_bd HLB.out ix1 (-1) (by omega) (by omega) (by omega))
  rw [hC1] at HL1
  clear e0 e1 hc7 hg7 HI6 hC1 CT1
  have e0 := HI7.out.e.cell 0
  have e4 := HI7.out.e.cell 4
  obtain ⟨C2, hC2⟩ : ∃ C2, (if 0 ≤ ex then bump C1 ix2 1 else C1) = C2 := ⟨_, rfl⟩
  have HC2 := Lib.hid hC2
  have HL2 : Hid (∀ j, -1000 - 10 - 10 ≤ C2.getD j 0 ∧ C2.getD j 0 ≤ 1048576 + 10 + 10) := Lib.hid (fun j => by
    rw [← hC2]
    split
    · exact bump_bd HL1.out ix2 1 (by omega) (by omega) (by omega) j
    · have := HL1.out j; omega)
  clear hC2
  dsimp only at e0 e4
  go_upto_if 44 with fail
  go_cut [] from 42 to 50 (fun wx => Hid (DoI w wx pv A n c ⟨i, k, en, ea, ex⟩ (w5.heap.size + 1) w5.heap.size g w4.heap.size cn cap PA cn pc ps C2))
  case first =>
    by_cases hx : 0 ≤ ex
    · have d1 : decide (0 ≤ ex) = true := decide_eq_true hx
      have CT2b := Lib.hid (CT2.out hx)
      have HF : Hid (bump C1 ix2 1 = C2) := Lib.hid (by rw [← HC2.out, if_pos hx])
      rw [d1]
      clear hx
      go_wp2_with fail
      refine (CT2b.out w7 _ _ g _ cap PA pc C1 (by have := HL1.out ix2; omega) HI7.out.cn).mono ?_
      rintro e' w8 ⟨rfl, hc8, hg8⟩
      rw [HF.out] at hc8
      have HI8 := Lib.hid (HI7.out.next hc8 hg8)
      clear hc8 hg8 e0 e4
      go_wp2_with fail
      go_meet
      exact HI8
    · have d1 : decide (0 ≤ ex) = false := decide_eq_false hx
      have HF : Hid (C1 = C2) := Lib.hid (by rw [← HC2.out, if_neg hx])
      rw [d1]
      clear hx
      go_wp2_with fail
      go_meet
      exact Lib.hid (by rw [← HF.out]; exact HI7.out)
  case rest =>
    have HI9 := hcut
    clear e0 e4 HI7 hcut CT2
    obtain ⟨ad, LA, lc, ad2, rfl, rfl, hab, hab2, l0, l1, l2, l3, l4⟩ := HLN.out wc HI9.out.be
    have e0 := HI9.out.e.cell 0
    have e1 := HI9.out.e.cell 1
    have p1 := HI9.out.p.cell 1
    dsimp only at e0 e1
    have hzc := HI9.out.be.size
    have hze := HI9.out.e.lt
    have HKA : Hid (∀ o, (wc.alloc o).cell? ⟨w.heap.size, 1, none⟩ = some (.slice (some ad) n c) ∧ (wc.alloc o).cell? ⟨w.heap.size + 1, 0, none⟩ = some (.int .i64 (i : Int)) ∧ (wc.alloc o).cell? ⟨w.heap.size + 1, 1, none⟩ = some (.int .i64 (k : Int)) ∧ (wc.alloc o).cell? (ad.add (i * 2)) = some (.string nm) ∧ (wc.alloc o).cell? ⟨(ad.add (i * 2)).block, (ad.add (i * 2)).off + 1, none⟩ = some (.slice (some ad2) nl lc) ∧ (wc.alloc o).cell? (ad2.add (k * 3)) = some (.int .i64 lk) ∧ (wc.alloc o).cell? ⟨(ad2.add (k * 3)).block, (ad2.add (k * 3)).off + 1, none⟩ = some (.int .i64 la) ∧ (wc.alloc o).cell? ⟨(ad2.add (k * 3)).block, (ad2.add (k * 3)).off + 2, none⟩ = some (.int .i64 lm)) := Lib.hid (fun o => by
      refine ⟨?_, ?_, ?_, ?_, ?_, ?_, ?_, ?_⟩
      all_goals rw [World.cell?_alloc_lt _ _ _ (by (try dsimp only); (try rw [add_block]); omega)]; assumption)
    have i0 : (0 : Int) ≤ (i : Int) := by omega
    have i1 : (i : Int) < (n : Int) := by omega
    have k0 : (0 : Int) ≤ (k : Int) := by omega
    have k1 : (k : Int) < (nl : Int) := by omega
    go_upto_region 11 with fail
    go_region_held3 (fun w' => w'.cell? ⟨w.heap.size, 1, none⟩ = some (.slice (some ad) n c) ∧ w'.cell? ⟨w.heap.size + 1, 0, none⟩ = some (.int .i64 (i : Int)) ∧ w'.cell? ⟨w.heap.size + 1, 1, none⟩ = some (.int .i64 (k : Int)) ∧ w'.cell? (ad.add (i * 2)) = some (.string nm) ∧ w'.cell? ⟨(ad.add (i * 2)).block, (ad.add (i * 2)).off + 1, none⟩ = some (.slice (some ad2) nl lc) ∧ w'.cell? (ad2.add (k * 3)) = some (.int .i64 lk) ∧ w'.cell? ⟨(ad2.add (k * 3)).block, (ad2.add (k * 3)).off + 1, none⟩ = some (.int .i64 la) ∧ w'.cell? ⟨(ad2.add (k * 3)).block, (ad2.add (k * 3)).off + 2, none⟩ = some (.int .i64 lm)) (first | go_keep | exact ⟨p1, e0, e1, l0, l1, l2, l3, l4⟩ | exact HKA.out _) (fail)
    go_upto_if 64 with fail
    refine wp_world (fun W => Hid (DoI w W pv (some ad) n c ⟨i, k, en, ea, ex⟩ (w5.heap.size + 1) w5.heap.size g w4.heap.size cn cap PA cn pc ps C2 ∧ Blk W wc.heap.size 42 #[.int .i64 lk, .int .i64 la, .int .i64 lm])) (Lib.hid ⟨(HI9.out.alloc _).drew, Blk.new wc _ _⟩) ?_
    intro W10 HI10
    have l10 := HI10.out.2.cell 1
    obtain ⟨C3, hC3⟩ : ∃ C3, (if lk = 5 then bump C2 ix3 1 else C2) = C3 := ⟨_, rfl⟩
    have HC3 := Lib.hid hC3
    have HDC3 : Hid (DC = C3) := Lib.hid (by rw [HDC.out C1 C2 HC1.out.symm HC2.out.symm]; exact hC3)
    clear hC3 e0 e1 p1 l0 l1 l2 l3 l4 HKA HLN i0 i1 k0 k1 HI9
    go_cut [] from 62 to 68 (fun wx => Hid (DoI w wx pv (some ad) n c ⟨i, k, en, ea, ex⟩ (w5.heap.size + 1) w5.heap.size g w4.heap.size cn cap PA cn pc ps C3))
    case first =>
      by_cases hx : lk = 5
      · have d1 : (lk == 5) = true := by simpa using hx
        have CT3b := Lib.hid (CT3.out hx)
        have HF : Hid (bump C2 ix3 1 = C3) := Lib.hid (by rw [← HC3.out, if_pos hx])
        rw [d1]
        clear hx
        go_wp2_with fail
        refine (CT3b.out W10 _ _ g _ cap PA pc C2 (by have := HL2.out ix3; omega) HI10.out.1.cn).mono ?_
        rintro e' w8 ⟨rfl, hc8, hg8⟩
        rw [HF.out] at hc8
        have HI8 := Lib.hid (HI10.out.1.next hc8 hg8)
        clear hc8 hg8 l10
        go_wp2_with fail
        go_meet
        exact HI8
      · have d1 : (lk == 5) = false := by simpa using hx
        have HF : Hid (C2 = C3) := Lib.hid (by rw [← HC3.out, if_neg hx])
        rw [d1]
        clear hx
        go_wp2_with fail
        go_meet
        exact Lib.hid (by rw [← HF.out]; exact HI10.out.1)
    case rest =>
      have HI := hcut
      rw [← HDC3.out] at HI
      have o0 := HI.out.cn.o.cell 0
      have e3 := HI.out.e.cell 3
      dsimp only at e3
      have MX : Hid (Calls Tryz.prog 39 #[.slice (some ⟨g, 0, none⟩) cn cap] wc (MaxPost wc (M + 2))) := Lib.hid (max_any g cn cap DC _ wc (M + 2) HI.out.cn.own HB0.out.2 hcn0 (by omega) (fun x hx => by
        obtain ⟨j, hj, rfl⟩ := List.getElem_of_mem hx
        have := (HB0.out.1 j hj).2
        simpa [List.getD, hj] using this))
      clear l10 HI10 hcut CT3
      go_wp2_with fail
      refine (MX.out).mono ?_
      rintro e' w' ⟨r, rfl, hr, rfl⟩
      have d2 : decide (1048576 < r) = false := by simp; omega
      go_wp2_with fail
      go_quiet (fail)
      go_wp2_with fail
      go_ret3
      refine ⟨some ⟨g, 0, none⟩, cap, (by rw [HB0.out.2]; rfl), ?_, below_drewN HI.out.be _⟩
      rw [HB0.out.2]
      exact own_down HI.out.cn.own HI.out.bb
end Go.Proofs.YtpkefohcccpncaaGreatDoor
