/- Proved: for every list l, value v, string text, int at and byte by the call OrderTexts(l, v, text, at, by) returns true, and the inputs read as they did. Conditions: the five listed variables of the library (math/bits, internal/strconv, strconv) read as listed, which the given ties tie to the program text. Law 06: the texts of values, and which values texts stand for. -/
import Derived.Test.YtlmnkcfnihhlgaaGreatDoorAwkA
import Derived.Test.YtlmnkcfnihhlgaaGreatDoorTxtA
import Derived.Test.YtlmnkcfnihhlgaaGreatDoorTxtC
import Derived.Deep.DeepCutAuto
import Derived.Deep.CutBlock
import Derived.Deep.RegionHeld3
import Derived.IntWalk
import Derived.Test.YtlmnkcfnihhlgaaGreatDoorCrdA
import Derived.ChangeMaps5
namespace Go.Proofs.YtlmnkcfnihhlgaaGreatDoor
open Go.RowKit
set_option linter.unusedSimpArgs false
set_option linter.unusedVariables false

theorem tmod_mod {x n : Int} (h : 1 ≤ n) : (x.tmod n + n) % n = x % n := by
  have h1 : x.tmod n = x - n * (x.tdiv n) := by have := Int.mul_tdiv_add_tmod x n; omega
  rw [h1, show x - n * (x.tdiv n) + n = x + n * (1 - x.tdiv n) by rw [Int.mul_sub]; omega, Int.add_mul_emod_self_left]
def StrsAt (w : World) (B : Nat) (L : List ByteArray) : Prop := ∀ j (h : j < L.length), w.cell? ⟨B, j, none⟩ = some (.string L[j])
theorem strsAt_new (w : World) (L : List ByteArray) (ca : Array Value) (h : ca = (L.map Value.string).toArray) : StrsAt (w.alloc (.cells ca 9)) w.heap.size L := fun j hj => by
  subst h
  rw [cell_of_row _ _ _ _ _ _ (heap_alloc_new w _)]
  simp [hj]
theorem StrsAt.below {w w' : World} {B : Nat} {L : List ByteArray} (h : StrsAt w B L) {b : Nat} (hb : Below b w w') (hB : B < b) : StrsAt w' B L := fun j hj => (hb.cell (p := ⟨B, j, none⟩) hB).trans (h j hj)
theorem kat_two {w : World} {u v : V} {s1 s2 : Value} (ty : TypeId) (h1 : KB w w.heap.size s1 u.ks) (h2 : KB w w.heap.size s2 v.ks) :
    KB (w.alloc (.cells #[.int .i64 u.n, s1, .int .i64 v.n, s2] ty)) (w.alloc (.cells #[.int .i64 u.n, s1, .int .i64 v.n, s2] ty)).heap.size (.slice (some ⟨w.heap.size, 0, none⟩) 2 2) [u, v] := by
  have hk := Blk.new w ty #[.int .i64 u.n, s1, .int .i64 v.n, s2]
  have hb : Bw w (w.alloc (.cells #[.int .i64 u.n, s1, .int .i64 v.n, s2] ty)) := (Bw.refl _).alloc _
  refine .mk _ 2 2 [u, v] [s1, s2] rfl rfl (Nat.le_refl _) (by unfold maxLen; omega) (fun _ => ⟨_, rfl, by simp, fun k h h' => ?_⟩) (fun k h h' => ?_)
  · match k, h, h' with
    | 0, _, _ => exact ⟨hk.cell 0, hk.cell 1⟩
    | 1, _, _ => exact ⟨hk.cell 2, hk.cell 3⟩
  · match k, h, h' with
    | 0, _, _ => exact h1.bw hb
    | 1, _, _ => exact h2.bw hb
theorem txtP_size {x : V} (h : i64V x = true) : (txtP x).1.size ≤ 2944 := by
  unfold txtP
  split
  · rename_i h0
    have := text_short x h
    show (textV x).length ≤ 2944
    omega
  · show 0 ≤ 2944
    omega
set_option maxRecDepth 100000 in
set_option maxHeartbeats 8000000 in
theorem l6Texts_any (A : Option Addr) (n c : Nat) (hn : n ≤ maxLen) (u : V) (s0 : Value) (tx : ByteArray) (htx : tx.size ≤ 9223372036854775807) (at_ by_ : Int) (hy0 : 0 ≤ by_) (hy1 : by_ ≤ 255) (w : World) (h : IntsArg w A n) (hgl : GlobO w)
    (hu : KB w w.heap.size s0 u.ks) (hiu : i64V u = true) : Calls Tryz.prog 4 #[.slice A n c, .agg #[.int .i64 u.n, s0], .string tx, .int .i64 at_, .int .u8 by_] w (BoolPost w true) := by
  obtain ⟨A0, n0, c0, rfl, -, -, -⟩ := hu.form
  have hn63 : n ≤ 9223372036854775807 := by unfold maxLen at hn; omega
  have AW := Lib.hid (fun W (g : Bw w W) => awake6_any W (hgl.bw g))
  have FW := Lib.hid (fun W => few_any W A n c hn63)
  have SM := Lib.hid (fun W (g : Bw w W) => rsmall_any u _ W 3 (by omega) (by omega) (hu.bw g))
  have HU := Lib.hid hu
  have HIU := Lib.hid hiu
  have HGL := Lib.hid hgl
  have HH := Lib.hid h
  have HB0 : Hid (Bw w (w.alloc (.cells #[.int .i64 u.n, .slice A0 n0 c0] 28)) ∧ Blk (w.alloc (.cells #[.int .i64 u.n, .slice A0 n0 c0] 28)) w.heap.size 28 #[.int .i64 u.n, .slice A0 n0 c0]) := Lib.hid ⟨(Bw.refl _).alloc _, Blk.new _ _ _⟩
  unfold BoolPost at SM
  clear hu hiu hgl h
  generalize hun : u.n = un at *
  have HUN := Lib.hid hun
  clear hun
  go_enter Tryz.func4, Tryz.ntmps4
  go_upto_region 1 with fail
  refine wp_world (fun W => Hid (Bw w W ∧ Blk W w.heap.size 28 #[.int .i64 un, .slice A0 n0 c0])) HB0 ?_
  intro W0 HW0
  have HW00 : Hid (Bw w W0) := Lib.hid HW0.out.1
  have KS : Hid (∀ W, Bw W0 W → W.cell? ⟨w.heap.size, 0, none⟩ = some (.int .i64 un) ∧ W.cell? ⟨w.heap.size, 1, none⟩ = some (.slice A0 n0 c0)) := Lib.hid (fun W g => by
    have hb := HW0.out.2.below g.b HW0.out.2.lt
    exact ⟨hb.cell 0, hb.cell 1⟩)
  have hwz : w.heap.size < W0.heap.size := HW0.out.2.lt
  clear HB0 HW0
  by_cases h4 : n ≤ 400
  rotate_left
  · have d4 : decide (n ≤ 400) = false := decide_eq_false h4
    rw [d4] at FW
    clear SM
    go_wp2_with (first
      | (go_at_call 9; (with_reducible refine (AW.out W0 HW00.out).mono ?_); rintro e w1 ⟨rfl, hg1⟩; have hw1 : Bw w w1 := HW00.out.trans hg1)
      | (go_at_call 10; (with_reducible refine (FW.out w1).mono ?_); rintro e w2 ⟨rfl, rfl⟩)
      | (go_at_call 9; (with_reducible refine (AW.out w1 hw1).mono ?_); rintro e w3 ⟨rfl, hg3⟩))
    go_ret
    exact ⟨rfl, hw1.trans hg3⟩
  have d4 : decide (n ≤ 400) = true := decide_eq_true h4
  rw [d4] at FW
  rcases hq : smallP u 3 with _ | _
  · rw [hq] at SM
    clear hq
    go_wp2_with (first
      | (go_at_call 9; (with_reducible refine (AW.out W0 HW00.out).mono ?_); rintro e w1 ⟨rfl, hg1⟩; have hw1 : Bw w w1 := HW00.out.trans hg1; obtain ⟨x0, x1⟩ := KS.out w1 hg1)
      | (go_at_call 10; (with_reducible refine (FW.out w1).mono ?_); rintro e w2 ⟨rfl, rfl⟩)
      | (go_at_call 12; (with_reducible refine (SM.out w1 hw1).mono ?_); rintro e w2 ⟨rfl, hg2⟩; have hw2 : Bw w w2 := hw1.trans hg2)
      | (go_at_call 9; (with_reducible refine (AW.out w2 hw2).mono ?_); rintro e w3 ⟨rfl, hg3⟩))
    go_ret
    exact ⟨rfl, hw2.trans hg3⟩
  rw [hq] at SM
  clear hq
  by_cases h200 : 200 < tx.size
  · have d2 : decide ((200 : Int) < (tx.size : Int)) = true := decide_eq_true (by omega)
    go_wp2_with (first
      | (go_at_call 9; (with_reducible refine (AW.out W0 HW00.out).mono ?_); rintro e w1 ⟨rfl, hg1⟩; have hw1 : Bw w w1 := HW00.out.trans hg1; obtain ⟨x0, x1⟩ := KS.out w1 hg1)
      | (go_at_call 10; (with_reducible refine (FW.out w1).mono ?_); rintro e w2 ⟨rfl, rfl⟩)
      | (go_at_call 12; (with_reducible refine (SM.out w1 hw1).mono ?_); rintro e w2 ⟨rfl, hg2⟩; have hw2 : Bw w w2 := hw1.trans hg2)
      | (go_at_call 9; (with_reducible refine (AW.out w2 hw2).mono ?_); rintro e w3 ⟨rfl, hg3⟩))
    go_ret
    exact ⟨rfl, hw2.trans hg3⟩
  have d2 : decide ((200 : Int) < (tx.size : Int)) = false := decide_eq_false (by omega)
  have CN := Lib.hid (fun W g => new_arg w W A n c h4 HH.out g)
  have CD := Lib.hid (fun W b hd => dealt_any W b false hd)
  have CV := Lib.hid (fun W b t ht hs rv pv hd hT => dealt1_any W b t ht hs rv pv hd hT)
  unfold NewPost at CN
  unfold DealtT at CD
  unfold Dealt1 at CV
  clear HH
  go_upto_region 5 with (first
    | (go_at_call 9; (with_reducible refine (AW.out W0 HW00.out).mono ?_); rintro e w1 ⟨rfl, hg1⟩; have hw1 : Bw w w1 := HW00.out.trans hg1; obtain ⟨x0, x1⟩ := KS.out w1 hg1)
    | (go_at_call 10; (with_reducible refine (FW.out w1).mono ?_); rintro e w2 ⟨rfl, rfl⟩)
    | (go_at_call 12; (with_reducible refine (SM.out w1 hw1).mono ?_); rintro e w2 ⟨rfl, hg2⟩; have hw2 : Bw w w2 := hw1.trans hg2; have hw02 : Bw W0 w2 := hg1.trans hg2)
    | (go_at_call 13; (with_reducible refine (CN.out w2 hw2).mono ?_); rintro e w3 ⟨rfl, hd3, hg3⟩; have hs1 := hw02.size; generalize w2.heap.size = b at hd3 hg3 hs1 ⊢)
    | (go_at_call 14; (with_reducible refine (CD.out w3 b hd3).mono ?_); rintro e w4 ⟨t, A1, rn, c1, A2, pn, c2, rfl, ht, hls, hT, hg4⟩; have hd4 : DeckOk w4 b := hg4.2)
    | (go_at_call 15; go_must ((with_reducible refine (CV.out w4 b t ht hls _ _ hd4 hT).mono ?_); rintro e w5 ⟨v, A5, n5, c5, rfl, hv, hk5, hg5⟩)))
  have hw03 : Bw W0 w3 := Below.trans hw02 (Below.mono hg3 hs1)
  have hw05 : Bw W0 w5 := bw_row hw03 (hg4.trans hg5).1 (fun r e => by injection e with e; omega)
  have HIV := Lib.hid (nat_i64V v (valid_nat hv))
  have H0 : Hid (Bw w (w5.alloc (.cells #[.int .i64 v.n, .slice A5 n5 c5] 28)) ∧ (w5.alloc (.cells #[.int .i64 v.n, .slice A5 n5 c5] 28)).cell? ⟨w.heap.size, 0, none⟩ = some (.int .i64 un) ∧ (w5.alloc (.cells #[.int .i64 v.n, .slice A5 n5 c5] 28)).cell? ⟨w.heap.size, 1, none⟩ = some (.slice A0 n0 c0) ∧ w.heap.size < (w5.alloc (.cells #[.int .i64 v.n, .slice A5 n5 c5] 28)).heap.size ∧ Blk (w5.alloc (.cells #[.int .i64 v.n, .slice A5 n5 c5] 28)) w5.heap.size 28 #[.int .i64 v.n, .slice A5 n5 c5] ∧ KB (w5.alloc (.cells #[.int .i64 v.n, .slice A5 n5 c5] 28)) (w5.alloc (.cells #[.int .i64 v.n, .slice A5 n5 c5] 28)).heap.size (.slice A5 n5 c5) v.ks) := by
    obtain ⟨k0, k1⟩ := KS.out _ (hw05.alloc (.cells #[.int .i64 v.n, .slice A5 n5 c5] 28))
    exact Lib.hid ⟨HW00.out.trans (hw05.alloc _), k0, k1, by have := hw05.size; simp; omega, Blk.new _ _ _, KAt.bw (KAt.kb_ hk5) ((Bw.refl _).alloc _)⟩
  refine wp_world (fun W => Hid (Bw w W ∧ W.cell? ⟨w.heap.size, 0, none⟩ = some (.int .i64 un) ∧ W.cell? ⟨w.heap.size, 1, none⟩ = some (.slice A0 n0 c0) ∧ w.heap.size < W.heap.size ∧ Blk W w5.heap.size 28 #[.int .i64 v.n, .slice A5 n5 c5] ∧ KB W W.heap.size (.slice A5 n5 c5) v.ks)) H0 ?_
  intro W5 HW5
  clear H0 hw03 hw05 hg5 hk5 hd4 hg4 hT hls ht hg3 hd3 hs1 AW FW CN CD CV hn hn63 h4 d4 hv SM hw1 hg1 hw2 hg2 hw02 x0 x1 KS HW00 hwz d2
  generalize w5.heap.size = g5 at *
  have x0 := HW5.out.2.1
  have x1 := HW5.out.2.2.1
  have x2 := HW5.out.2.2.2.1
  have x3 := HW5.out.2.2.2.2.1.cell 0
  have x4 := HW5.out.2.2.2.2.1.cell 1
  have x5 := HW5.out.2.2.2.2.1.lt
  have HKL : Hid (KB (W5.alloc (.cells #[.int .i64 un, .slice A0 n0 c0, .int .i64 v.n, .slice A5 n5 c5] 28)) (W5.alloc (.cells #[.int .i64 un, .slice A0 n0 c0, .int .i64 v.n, .slice A5 n5 c5] 28)).heap.size (.slice (some ⟨W5.heap.size, 0, none⟩) 2 2) [u, v]) := Lib.hid (by
    have := kat_two 28 (HU.out.bw HW5.out.1) HW5.out.2.2.2.2.2
    rw [HUN.out] at this
    exact this)
  have HGW : Hid (Bw w (W5.alloc (.cells #[.int .i64 un, .slice A0 n0 c0, .int .i64 v.n, .slice A5 n5 c5] 28))) := Lib.hid (HW5.out.1.alloc _)
  generalize hvn : v.n = vn at *
  clear hvn HU HUN HW5
  go_wp2_with fail
  generalize (⟨W5.heap.size, 0, none⟩ : Addr) = adL at HKL ⊢
  go_loopw [54] (fun i wr => ∃ k : Nat, k ≤ 2 ∧ i = .int .i64 k ∧ Hid (Bw w wr ∧ KB wr wr.heap.size (.slice (some adL) 2 2) [u, v])) (fun i _ => 2 - (intOf i).toNat)
  case atStart => exact ⟨0, by omega, rfl, Lib.hid ⟨HGW.out, HKL.out⟩⟩
  case round =>
    obtain ⟨wo, rfl⟩ : ∃ wo : World, wo = wr := ⟨_, rfl⟩
    obtain ⟨k, hk, rfl, HR⟩ := hrel
    clear HKL HGW x0 x1 x2 x3 x4 x5
    by_cases hlt : k < 2
    rotate_left
    · obtain rfl : k = 2 := by omega
      go_wp2_with fail
      go_ret
      exact ⟨rfl, HR.out.1⟩
    obtain ⟨hg, hkl⟩ := HR.out
    have e1 : k < [u, v].length := hlt
    obtain ⟨ad, sA, sn, sc, had, hb, q0, q1, -, hs⟩ := hkl.at_ e1
    obtain rfl := Option.some.inj had
    have hix : i64V [u, v][k] = true := by
      match k, e1 with
      | 0, _ => exact HIU.out
      | 1, _ => exact HIV.out
    generalize [u, v][k] = x at *
    have CT : Hid (∀ W, Bw wo W → Calls Tryz.prog 33 #[.agg #[.int .i64 x.n, .slice sA sn sc]] W (TxtPost W (txtP x))) := Lib.hid (fun W g => oText_any x hix _ W (HGL.out.bw (hg.trans g)) (hs.bw g) _ rfl)
    have CR : Hid (∀ W, Bw wo W → Calls Tryz.prog 34 #[.agg #[.int .i64 x.n, .slice sA sn sc]] W (TxtPost W (txtP x))) := Lib.hid (fun W g => r6Text_any x hix _ W (hs.bw g) _ rfl)
    have htl := txtP_size hix
    generalize txtP x = p at *
    obtain ⟨t, er⟩ := p
    have htl : t.size ≤ 2944 := htl
    generalize x.n = xn at *
    unfold TxtPost at CT CR
    have HWO := Lib.hid hg
    have HKO := Lib.hid hkl
    have HB14 : Hid (∀ W, Bw (wo.alloc (.cells #[.int .i64 xn, .slice sA sn sc] 28)) W → Bw wo W ∧ W.cell? ⟨wo.heap.size, 0, none⟩ = some (.int .i64 xn) ∧ W.cell? ⟨wo.heap.size, 1, none⟩ = some (.slice sA sn sc)) := Lib.hid (fun W g => by
      have hb := (Blk.new wo 28 #[.int .i64 xn, .slice sA sn sc]).below g.b (by simp)
      exact ⟨((Bw.refl _).alloc _).trans g, hb.cell 0, hb.cell 1⟩)
    have de : (t.toList == t.toList) = true := by simp
    have HA : Hid (Bw wo (wo.alloc (.cells #[.int .i64 xn, .slice sA sn sc] 28))) := Lib.hid ((Bw.refl _).alloc _)
    clear hs hg hkl hix HR hb had e1
    go_upto_region 12 with (first
      | (go_at_call 33; go_must (refine (CT.out _ HA.out).mono ?_; rintro e w8 ⟨rfl, hg8⟩; obtain ⟨hw8, y0, y1⟩ := HB14.out _ hg8; (have HW8 := Lib.hid hw8); clear hw8 hg8))
      | (go_at_call 34; go_must (refine (CR.out _ HW8.out).mono ?_; rintro e w9 ⟨rfl, hg9⟩; (have HW9 := Lib.hid (HW8.out.trans hg9)); clear hg9)))
    refine wp_world (fun W => Hid (Bw wo W)) HW9 ?_
    intro W9 HX9
    clear HW9 HW8 HB14 HA CT CR y0 y1 q0 q1
    obtain ⟨C, cap, hconv, hC⟩ := conv_pack W9 t
    have HC := Lib.hid hC
    clear hC
    go_upto_if 80 with fail
    go_cut [] (fun wx => ∃ lb : List UInt8, lb.length = t.size ∧ Hid (BytesAt wx W9.heap.size lb ∧ Bw wo wx ∧ W9.heap.size < wx.heap.size))
    case first =>
      by_cases hz : 0 < t.size
      · obtain ⟨j, hj⟩ := Int.eq_ofNat_of_zero_le (Int.emod_nonneg at_ (show (t.size : Int) ≠ 0 by omega))
        have hjl : j < t.size := by
          have := Int.emod_lt_of_pos at_ (show (0 : Int) < t.size by omega)
          omega
        have MO : Hid (∀ W : World, Calls Tryz.prog 35 #[.int .i64 at_, .int .i64 (t.size : Int)] W fun e w' => e = .returned (.int .i64 (j : Int)) ∧ W = w') := Lib.hid (fun W => by
          have := mod_any W at_ t.size (by omega) (by omega)
          rw [tmod_mod (by omega), hj] at this
          exact this)
        obtain ⟨vj, hcj⟩ := HC.out.cell hjl
        have hfz := HC.out.frozen hjl
        have HJL := Lib.hid hjl
        clear hj
        go_wp2_with (go_at_call 35; go_must (refine (MO.out _).mono ?_; rintro e w' ⟨rfl, rfl⟩))
        go_meet
        refine ⟨t.data.toList.set j (UInt8.ofNat by_.toNat), by rw [List.length_set, size_data], Lib.hid ⟨BytesAt.set_ HC.out.at_ (show j < t.data.toList.length from HJL.out) hy0 hy1, (HX9.out.drew.alloc _).setCell (p := ⟨W9.heap.size, j, none⟩) HX9.out.size _, by simp [World.setCell]⟩⟩
      · go_wp2_with fail
        go_meet
        exact ⟨t.data.toList, size_data t, Lib.hid ⟨HC.out.at_, HX9.out.drew.alloc _, by simp⟩⟩
    case rest =>
    obtain ⟨lb, hlb, HX⟩ := hcut
    obtain ⟨s2, hs2⟩ : ∃ s2 : ByteArray, s2.data.toList = lb := ⟨⟨lb.toArray⟩, rfl⟩
    obtain ⟨j, hj⟩ := Int.eq_ofNat_of_zero_le (Int.emod_nonneg at_ (show (t.size : Int) + 1 ≠ 0 by omega))
    have hjl : j ≤ t.size := by
      have := Int.emod_lt_of_pos at_ (show (0 : Int) < (t.size : Int) + 1 by omega)
      omega
    have hw1 : IntKind.i64.wrap ((t.size : Int) + 1) = (t.size : Int) + 1 := by simp [IntKind.wrap, IntKind.bits, IntKind.signed]; omega
    have MO : Hid (∀ W : World, Calls Tryz.prog 35 #[.int .i64 at_, .int .i64 ((t.size : Int) + 1)] W fun e w' => e = .returned (.int .i64 (j : Int)) ∧ W = w') := Lib.hid (fun W => by
      have := mod_any W at_ ((t.size : Int) + 1) (by omega) (by omega)
      rw [tmod_mod (by omega), hj] at this
      exact this)
    have HSX : Hid (∀ W : World, BytesAt W W9.heap.size lb → (Go.convert 53 9 (.slice (some ⟨W9.heap.size, 0, none⟩) t.size cap)).run Tryz.prog W = .ok (.string s2) W) := Lib.hid (fun W h => BytesAt.back (w := W) h cap (n := t.size) hlb hs2)
    have HK2 : Hid (∀ o, (Go.convert 53 9 (.slice (some ⟨W9.heap.size, 0, none⟩) t.size cap)).run Tryz.prog ((wc.alloc o).drew) = .ok (.string s2) ((wc.alloc o).drew)) := Lib.hid (fun o => HSX.out ((wc.alloc o).drew) (by
      have := HX.out.1.below ((Below.refl _ _).alloc (Nat.le_refl _) o) HX.out.2.2
      exact this))
    have hback := HSX.out wc.drew (by have := HX.out.1; exact this)
    have j0 : (0 : Int) ≤ (j : Int) := by omega
    have j1 : (j : Int) ≤ (t.size : Int) := by omega
    have z1 : ¬ 9223372036854775807 < t.size + (⟨#[41]⟩ : ByteArray).size := by show ¬ 9223372036854775807 < t.size + 1; omega
    have z2 : ¬ 9223372036854775807 < (⟨#[32]⟩ : ByteArray).size + t.size := by show ¬ 9223372036854775807 < 1 + t.size; omega
    have z3 : ¬ 9223372036854775807 < (⟨#[45]⟩ : ByteArray).size + t.size := by show ¬ 9223372036854775807 < 1 + t.size; omega
    have z4 : ¬ 9223372036854775807 < t.size + 1 := by omega
    have z5 : ¬ 9223372036854775807 < 1 + t.size := by omega
    clear hs2 hj hconv
    go_wp2_with fail
    go_region_held3 (fun w' => (Go.convert 53 9 (.slice (some ⟨W9.heap.size, 0, none⟩) t.size cap)).run Tryz.prog w' = .ok (.string s2) w') (first | assumption | exact HSX.out _ HX.out.1 | exact HK2.out _) ((go_at_call 35; refine (MO.out _).mono ?_; rintro e w' ⟨rfl, rfl⟩))
    obtain ⟨L, hL⟩ : ∃ L : List ByteArray, L = [t, tx, s2, t ++ ⟨#[41]⟩, ⟨#[32]⟩ ++ t, ⟨#[45]⟩ ++ t, t.extract 0 j] := ⟨_, rfl⟩
    have hLl : L.length = 7 := by rw [hL]; rfl
    have HST0 : Hid (StrsAt ((wc.alloc (.cells #[.string t, .string tx, .string s2, .string (t ++ ⟨#[41]⟩), .string (⟨#[32]⟩ ++ t), .string (⟨#[45]⟩ ++ t), .string (t.extract 0 j)] 9)).drew) wc.heap.size L) := Lib.hid (by
      rw [hL]; exact strsAt_new wc _ _ rfl)
    have HB8 : Hid (Bw wo ((wc.alloc (.cells #[.string t, .string tx, .string s2, .string (t ++ ⟨#[41]⟩), .string (⟨#[32]⟩ ++ t), .string (⟨#[45]⟩ ++ t), .string (t.extract 0 j)] 9)).drew)) := Lib.hid (HX.out.2.1.alloc _).drew
    have HLL := Lib.hid hLl
    clear hL hLl HSX HK2 HX j0 j1 hback MO z1 z2 z3 z4 z5 hw1 hlb HC HX9
    go_wp2_with fail
    go_loopw [107] (fun i wr => ∃ k2 : Nat, k2 ≤ 7 ∧ i = .int .i64 k2 ∧ Hid (StrsAt wr wc.heap.size L ∧ wc.heap.size < wr.heap.size ∧ Bw wo wr)) (fun i _ => 7 - (intOf i).toNat)
    case atStart => exact ⟨0, by omega, rfl, Lib.hid ⟨HST0.out, by simp, HB8.out⟩⟩
    case round =>
      obtain ⟨wi, rfl⟩ : ∃ wi : World, wi = wr := ⟨_, rfl⟩
      obtain ⟨k2, hk2, rfl, HR⟩ := hrel
      obtain ⟨hst, hxw, hbw⟩ := HR.out
      clear HST0 HB8
      by_cases hlt2 : k2 < 7
      rotate_left
      · obtain rfl : k2 = 7 := by omega
        have HBW := Lib.hid hbw
        clear hst hbw HR
        go_wp2
        go_roundw
        case rel => exact ⟨k + 1, by omega, by go_num, Lib.hid ⟨HWO.out.trans HBW.out, HKO.out.bw HBW.out⟩⟩
        case measure => simp [intOf]; omega
      have hcell := hst k2 (by rw [HLL.out]; exact hlt2)
      generalize (L[k2]'(by rw [HLL.out]; exact hlt2)) = y at hcell
      have OP : Hid (∀ W, Bw wi W → Calls Tryz.prog 36 #[.string y] W (SortedPost W (parseE y.data.toList).1 (parseE y.data.toList).2)) := Lib.hid (fun W g => oParse_any y W (HGL.out.bw ((HWO.out.trans hbw).trans g)) _ rfl)
      have RP : Hid (∀ W, Calls Tryz.prog 37 #[.string y] W (SortedPost W (parseE y.data.toList).1 (parseE y.data.toList).2)) := Lib.hid (fun W => r6Parse_any y W _ rfl)
      generalize parseE y.data.toList = p at *
      obtain ⟨pv, pe⟩ := p
      have SA : Hid (∀ W s1 s2, KB W W.heap.size s1 pv.ks → KB W W.heap.size s2 pv.ks → Calls Tryz.prog 32 #[.agg #[.int .i64 pv.n, s1], .agg #[.int .i64 pv.n, s2]] W (BoolPost W true)) := Lib.hid (fun W s1 s2 h1 h2 => by
        have := r6same_any pv pv s1 s2 W h1 h2
        rw [decide_eq_true rfl] at this
        exact this)
      have dpe : (pe == pe) = true := by simp
      have HST := Lib.hid hst
      have HBW := Lib.hid hbw
      unfold SortedPost at OP RP
      unfold BoolPost at SA
      simp only at OP RP
      clear hst hbw HR
      generalize pv.n = pn at *
      generalize pv.ks = pk at *
      go_upto_region 20 with (first
        | (go_at_call 36; go_must (refine (OP.out _ (Bw.refl _)).mono ?_; rintro e w5 ⟨s5, rfl, hk5, hg5⟩; obtain ⟨Aa, na, ca, rfl, -, -, -⟩ := hk5.form; (have HK5 := Lib.hid hk5); (have HG5 := Lib.hid hg5); clear hk5 hg5))
        | (go_at_call 37; go_must (refine (RP.out _).mono ?_; rintro e w6 ⟨s6, rfl, hk6, hg6⟩; obtain ⟨Ab, nb, cb, rfl, -, -, -⟩ := hk6.form; (have HK6 := Lib.hid hk6); (have HG6 := Lib.hid hg6); clear hk6 hg6)))
      have H7 : Hid (Bw wi (w6.alloc (.cells #[.int .i64 pn, .slice Ab nb cb] 28)) ∧ Blk (w6.alloc (.cells #[.int .i64 pn, .slice Ab nb cb] 28)) w5.heap.size 28 #[.int .i64 pn, .slice Aa na ca] ∧ Blk (w6.alloc (.cells #[.int .i64 pn, .slice Ab nb cb] 28)) w6.heap.size 28 #[.int .i64 pn, .slice Ab nb cb] ∧
          KB (w6.alloc (.cells #[.int .i64 pn, .slice Ab nb cb] 28)) (w6.alloc (.cells #[.int .i64 pn, .slice Ab nb cb] 28)).heap.size (.slice Aa na ca) pk ∧ KB (w6.alloc (.cells #[.int .i64 pn, .slice Ab nb cb] 28)) (w6.alloc (.cells #[.int .i64 pn, .slice Ab nb cb] 28)).heap.size (.slice Ab nb cb) pk) := Lib.hid (by
        have ga : Bw (w5.alloc (.cells #[.int .i64 pn, .slice Aa na ca] 28)) (w6.alloc (.cells #[.int .i64 pn, .slice Ab nb cb] 28)) := HG6.out.alloc _
        have k5 : KB w5 w5.heap.size (.slice Aa na ca) pk := HK5.out.keep (fun b hb => hb.2) (fun _ _ => rfl)
        have k6 : KB w6 w6.heap.size (.slice Ab nb cb) pk := HK6.out.keep (fun b hb => hb.2) (fun _ _ => rfl)
        exact ⟨(HG5.out.alloc _).trans ga, (Blk.new w5 28 #[.int .i64 pn, .slice Aa na ca]).below ga.b (by simp), Blk.new _ _ _, (k5.bw ((Bw.refl _).alloc _)).bw ga, k6.bw ((Bw.refl _).alloc _)⟩)
      refine wp_world (fun W => Hid (Bw wi W ∧ Blk W w5.heap.size 28 #[.int .i64 pn, .slice Aa na ca] ∧ Blk W w6.heap.size 28 #[.int .i64 pn, .slice Ab nb cb] ∧ KB W W.heap.size (.slice Aa na ca) pk ∧ KB W W.heap.size (.slice Ab nb cb) pk)) H7 ?_
      intro W7 HW7
      clear H7 HK5 HK6 HG5 HG6 OP RP
      generalize w5.heap.size = ga at *
      generalize w6.heap.size = gb at *
      have y0 := HW7.out.2.1.cell 0
      have y1 := HW7.out.2.1.cell 1
      have y2 := HW7.out.2.2.1.cell 0
      have y3 := HW7.out.2.2.1.cell 1
      have SA7 := Lib.hid (SA.out W7 _ _ HW7.out.2.2.2.1 HW7.out.2.2.2.2)
      have HB7 := Lib.hid HW7.out.1
      clear SA HW7
      go_wp2_with (go_at_call 32; go_must (refine SA7.out.mono ?_; rintro e w8 ⟨rfl, hg8⟩; (have HB9 := Lib.hid (HB7.out.trans hg8)); clear hg8))
      go_roundw
      case rel => exact ⟨k2 + 1, by omega, by go_num, Lib.hid ⟨HST.out.below HB9.out.b hxw, Nat.lt_of_lt_of_le hxw HB9.out.size, HBW.out.trans HB9.out⟩⟩
      case measure => simp [intOf]; omega
end Go.Proofs.YtlmnkcfnihhlgaaGreatDoor
namespace Go.Proofs.YtlmnkcfnihhlgaaGreatDoor
open Go Go.ChangeShapes Go.WideShapes Go.ChangeAt Go.RowKit Go.Deep Go.ChangeMaps

set_option maxRecDepth 100000 in
theorem orderTexts_lifted (os : Os) (started : os.Started) (H : Type) (enc : TypeId × Value → H) :
    ReturnsInHanded {} Tryz.checked os 4 .any (fun w args => (Rows.orderTextsSpec.pre enc Tryz.prog Tryz.f4 [] false w args ∧ laidMetH Tryz.prog laidL w) ∧ sizedMet enc Tryz.prog Tryz.f4 (OpenSpec.ofChange Rows.orderTextsSpec) false w args)
      (Rows.orderTextsSpec.post enc Tryz.prog Tryz.f4 false true false false) := by
  refine returnsIn_laid_shaped (C := Tryz.checked) (laid := laidL) own started (by kernel_rfl) Tryz.func4
    (ChangeSpec.witness_shaped (enc := enc) (C := Tryz.checked) (os := os) (X := fun w _ => laidMetH Tryz.prog laidL w) false (World.laidAll Tryz.prog os laidL) #[.slice none 0 0, .agg #[.int .i64 0, .slice none 0 0], .string ⟨#[]⟩, .int .i64 0, .int .u8 0] 8 rfl (World.shaped_of_ZipB (by kernel_rfl) (by kernel_rfl)) (by kernel_rfl) (by kernel_rfl) (by kernel_rfl) (witness_laid (enc := enc) os _)) ?_
  intro W base args ds gs before hval0 hW _ _ hL hsh
  have hval : ∀ (j : Nat) t v, Tryz.f4.params[j]? = some t → args[j]? = some v → Value.okWide Tryz.prog W .any base t v := hval0
  have hW' := hW
  obtain ⟨p, q, hA0, hV, rfl, hfz, hnd⟩ := hW
  have hA : DataW.TrodAll enc Tryz.prog W 0 (fun _ => true) true Tryz.f4.params.toList args.toList ds p := hA0
  have hlt := trodAll_lt hA
  rw [Tryz.params4] at hA hval
  obtain ⟨rfl, rfl⟩ := trodVars_none hV
  have hAll := hA
  obtain ⟨v0, r0, d0, s0, p0, q0, ea, rfl, rfl, h0, hA⟩ := trodAll_cons hA
  obtain ⟨v1, r1, d1, s1, p1, q1, rfl, rfl, rfl, h1, hA⟩ := trodAll_cons hA
  obtain ⟨v2, r2, d2, s2, p2, q2, rfl, rfl, rfl, h2, hA⟩ := trodAll_cons hA
  obtain ⟨v3, r3, d3, s3, p3, q3, rfl, rfl, rfl, h3, hA⟩ := trodAll_cons hA
  obtain ⟨v4, r4, d4, s4, p4, q4, rfl, rfl, rfl, h4, hA⟩ := trodAll_cons hA
  obtain ⟨rfl, rfl, rfl⟩ := trodAll_nil hA
  obtain ⟨args⟩ := args
  have ea' : args = [v0, v1, v2, v3, v4] := ea
  subst ea'
  obtain ⟨a0, len0, cap0, rfl⟩ := okWide_slice Tryz.underlying22 (hval 0 22 v0 rfl rfl)
  obtain ⟨u, su, rfl, hku, hiu⟩ := raw_val (hval 1 28 v1 rfl rfl) h1
  obtain ⟨tx, rfl, _, _, wt⟩ := open_string Tryz.underlying9 (hval 2 9 v2 rfl rfl) h2
  obtain ⟨n1, rfl, _, _, w1⟩ := open_int Tryz.underlying3 (hval 3 3 v3 rfl rfl) h3
  obtain ⟨n2, rfl, _, _, w2⟩ := open_int Tryz.underlying5 (hval 4 5 v4 rfl rfl) h4
  obtain ⟨b0, b1⟩ := bounds_u8 w2
  clear hA0 hval0
  refine (l6Texts_any a0 len0 cap0 (intsArg_of h0).2 u su tx wt n1 n2 b0 b1 W (intsArg_of h0).1 (glob_of_laid hL) hku hiu).mono fun e W' ⟨he, bel⟩ => ?_
  subst he
  exact ⟨_, rfl, _, _, _, [], _, [], hW', trodAll_mk1 (shut_bool Tryz.underlying4 _), trodAll_stays own_laid bel (by kernel_rfl) hAll hlt, rfl, bel.frame _, fun h => by cases h⟩

theorem orderTexts_holds : Rows.OrderTextsSaid :=
  OpenClaim.holds_of_wide 4 Tryz.f4 rfl rfl rfl rfl rfl rfl rfl ⟨rfl, rfl, rfl, rfl, rfl⟩ rfl rfl rfl rfl rfl (by kernel_rfl) Tryz.func4 (by kernel_rfl)
    (of_decide_eq_true (by kernel_rfl)) (by unfold Func.isWrapper; rw [if_neg (of_decide_eq_false (by kernel_rfl))]; exact ⟨rfl, rfl⟩)
    (fun os started H enc _ => orderTexts_lifted os started H enc)

theorem orderTexts_card : Rows.OrderTextsCardSaid :=
  Claim7.holds_tied_plain_at .later [] [.data, .data, .data, .sentinel, .sentinel] true (true, "7738934b67018a2f4707d5218f624fe030c3ffec5cc10aff9b4468674a7de690") true
    orderTexts_holds (fun _ h => by cases h) (by kernel_rfl) (fun _ h => by cases h) orderTexts_row_tie rfl ⟨rfl, rfl⟩ (by kernel_rfl) rfl
    (fun f fn hf hfn => by
      obtain rfl : f = 4 := Option.some.inj ((show Tryz.prog.funcNamed "coverability/coverabilitylaw06.OrderTexts" = some 4 by kernel_rfl).symm.trans hf) |>.symm
      obtain rfl : fn = Tryz.f4 := (Option.some.inj (Tryz.func4.symm.trans hfn)).symm
      exact ⟨by kernel_rfl, fun j t ht => by
        rw [Tryz.params4] at ht
        have hm : t ∈ [22, 28, 9, 3, 5] := by simpa using Array.mem_of_getElem? ht
        have hall : ([22, 28, 9, 3, 5].all fun u => !Tryz.prog.wantsStandIn u) = true := by kernel_rfl
        exact (show Tryz.prog.wantsStandIn t = false by simpa using List.all_eq_true.1 hall t hm)⟩)
    (by kernel_rfl)
#print axioms orderTexts_card
end Go.Proofs.YtlmnkcfnihhlgaaGreatDoor
