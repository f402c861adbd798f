/- Dice.Program. Seeds that came in; programs that are checked are within bounds. What holds in memory while dice are cast for a program; sums of counts. -/
import Derived.Test.YtpkefohcccpncaaGreatDoorQAv
import Derived.Deep.DeepCutAuto
import Derived.Deep.CutBlock
import Derived.Test.YtpkefohcccpncaaGreatDoorQAh
import Derived.Test.YtpkefohcccpncaaGreatDoorQAu
namespace Go.Proofs.YtpkefohcccpncaaGreatDoor
open Go.RowKit
set_option linter.unusedSimpArgs false
set_option linter.unusedVariables false

structure DpOk (p : Prg) : Prop where
  v1 : 1 ≤ p.v
  v2 : p.v ≤ 2
  n1 : 1 ≤ p.ts.length
  n2 : p.ts.length ≤ 2
  th : ThsGood p.v p.ts.length 1 0 p.ts
theorem DpOk.check {p : Prg} (h : DpOk p) : checkP p = true := check_good h.v1 h.v2 h.n1 h.n2 h.th
def DpPost (w : World) (b : Nat) (e : Ending) (w' : World) : Prop := ∃ (p : Prg) (A : Option Addr) (c : Nat), e = .returned (.agg #[.int .i64 p.v, .slice A p.ts.length c]) ∧ ThsAt w' w'.heap.size A p.ts ∧ DpOk p ∧ DiceOk w' b ∧ w.grownBy w' (some b)
theorem grown_blk {A W : World} {b g : Nat} {t : TypeId} {cs : Array Value} (h : Blk A g t cs) (hg : A.grownBy W (some b)) (hne : g ≠ b) : Blk W g t cs := h.grown hg (fun e => by injection e with e; exact hne e)
set_option maxRecDepth 100000 in
set_option maxHeartbeats 4000000 in
theorem dprogram_any (w : World) (b : Nat) (hd : DiceOk w b) : Calls Tryz.prog 8 #[.pointer (some ⟨b, 0, none⟩)] w (DpPost w b) := by
  have hbl := hd.lt
  have PK0 : Hid (∀ o, Calls Tryz.prog 11 #[.pointer (some ⟨b, 0, none⟩), .int .i64 2] (w.alloc o) (PickPost (w.alloc o) b 2)) := Lib.hid (fun o => ppick_any _ b (hd.grown (grownBy_alloc (World.grownBy.refl w none) o) (fun r e => by cases e)) 2 (by omega) (by omega))
  have PKN : Hid (∀ W n, DiceOk W b → 1 ≤ n → n ≤ 100000 → Calls Tryz.prog 11 #[.pointer (some ⟨b, 0, none⟩), .int .i64 n] W (PickPost W b n)) := Lib.hid (fun W n h1 h2 h3 => ppick_any W b h1 n h2 h3)
  have HD := Lib.hid hd
  clear hd
  go_enter Tryz.func8, Tryz.ntmps8
  go_upto_region 2 with (go_at_call 11; go_must (refine (PK0.out _).mono ?_; rintro e w1 ⟨r1, rfl, hr1, hd1, hg1⟩; (have HD1 := Lib.hid hd1); (have HG1 := Lib.hid hg1); (have z1 : w.heap.size < w1.heap.size := by have := hg1.size; simp at this; omega); clear hd1 hg1))
  have hs1 : (w1.alloc (.cells #[.int .i64 (1 + (r1 : Int)), .slice none 0 0] 28)).heap.size = w1.heap.size + 1 := by simp
  refine wp_world (fun W => Hid (Blk W w.heap.size 28 #[.int .i64 0, .slice none 0 0] ∧ Blk W w1.heap.size 28 #[.int .i64 (1 + (r1 : Int)), .slice none 0 0] ∧ DiceOk W b ∧ w.grownBy W (some b))) (Lib.hid ⟨?_, Blk.new _ _ _, ?_, ?_⟩) ?_
  · exact (grown_blk (Blk.new w _ _) HG1.out (by omega)).alloc _
  · exact HD1.out.grown (grownBy_alloc (World.grownBy.refl w1 none) _) (fun r e => by cases e)
  · exact grownBy_alloc (grownBy_trans (grownBy_alloc (World.grownBy.refl w (some b)) _) HG1.out) _
  clear PK0 HD HD1 HG1 hs1
  intro W HW
  have hWs : w1.heap.size < W.heap.size := HW.out.2.1.lt
  obtain ⟨hW0, hWp, hWd, hWg⟩ := HW.out
  have HW0 := Lib.hid hW0
  have HWp := Lib.hid hWp
  have HWg := Lib.hid hWg
  have PK2 : Hid (∀ o, Calls Tryz.prog 11 #[.pointer (some ⟨b, 0, none⟩), .int .i64 2] (W.alloc o) (PickPost (W.alloc o) b 2)) := Lib.hid (fun o => PKN.out _ 2 (hWd.grown (grownBy_alloc (World.grownBy.refl W none) o) (fun r e => by cases e)) (by omega) (by omega))
  clear hW0 hWp hWd hWg HW
  go_wp2_with (go_at_call 11; go_must (refine (PK2.out _).mono ?_; rintro e w2 ⟨r2, rfl, hr2, hd2, hg2⟩; (have HD2 := Lib.hid hd2); (have HG2 := Lib.hid hg2); (have z2 : W.heap.size < w2.heap.size := by have := hg2.size; simp at this; omega); (have d2 : decide ((0 : Int) ≤ 1 + (r2 : Int)) = true := by simp; omega); (have d3 : decide ((1 : Int) + (r2 : Int) ≤ 2) = true := by simp; omega); clear hd2 hg2))
  have h0 : Blk w2 w.heap.size 28 #[.int .i64 0, .slice none 0 0] ∧ Blk w2 w1.heap.size 28 #[.int .i64 (1 + (r1 : Int)), .slice none 0 0] ∧ Blk w2 W.heap.size 9 #[.string (dname 0), .string (dname 1)] ∧ w.grownBy w2 (some b) :=
    ⟨grown_blk (HW0.out.alloc _) HG2.out (by omega), grown_blk (HWp.out.alloc _) HG2.out (by omega), grown_blk (Blk.new W _ _) HG2.out (by omega), grownBy_trans (grownBy_alloc HWg.out _) HG2.out⟩
  have H0 := Lib.hid h0
  clear h0 HW0 HWp HWg HG2 PK2 d2 d3
  go_loopw [5, 23] (fun s5 i wr => ∃ k num : Nat, k ≤ 1 + r2 ∧ i = .int .i64 k ∧ s5 = .int .i64 num ∧ num ≤ 1 + 5 * k ∧ Hid (∃ ts tv vs, ts.length = k ∧ DcI wr w2.heap.size wr.heap.size ts tv vs ∧ ThsGood (1 + (r1 : Int)) (1 + (r2 : Int)) 1 0 ts ∧ num = 1 + lensum ts + 2 * ts.length ∧ Blk wr w.heap.size 28 #[.int .i64 0, .slice none 0 0] ∧
    Blk wr w1.heap.size 28 #[.int .i64 (1 + (r1 : Int)), tv] ∧ Blk wr W.heap.size 9 #[.string (dname 0), .string (dname 1)] ∧ DiceOk wr b ∧ w.grownBy wr (some b) ∧ w2.heap.size ≤ wr.heap.size)) (fun _ i _ => 1 + r2 - (intOf i).toNat)
  case atStart =>
    obtain ⟨a0, a1, a2, a3⟩ := H0.out
    exact ⟨0, 1, by omega, rfl, rfl, by omega, Lib.hid ⟨[], _, [], rfl, DcI.nil _ _, trivial, rfl, a0, a1, a2, HD2.out, a3, Nat.le_refl _⟩⟩
  case round =>
    obtain ⟨wo, rfl⟩ : ∃ wo : World, wo = wr := ⟨_, rfl⟩
    obtain ⟨k, num, hk, rfl, rfl, hnum, HI⟩ := hrel
    obtain ⟨ts, tv, vs, htl, hdc, hgd, hnm, hb0, hb1, hb2, hdi, hgr, hsz⟩ := HI.out
    clear HD2 H0
    by_cases hlt : k < 1 + r2
    · have hk2 : k < 2 := by omega
      have hnk : wo.cell? ⟨W.heap.size, k, none⟩ = some (.string (dname k)) := by
        have : k = 0 ∨ k = 1 := by omega
        rcases this with rfl | rfl
        · exact hb2.cell 0
        · exact hb2.cell 1
      have PK3 : Hid (∀ o, Calls Tryz.prog 11 #[.pointer (some ⟨b, 0, none⟩), .int .i64 3] (wo.alloc o) (PickPost (wo.alloc o) b 3)) := Lib.hid (fun o => PKN.out _ 3 (hdi.grown (grownBy_alloc (World.grownBy.refl wo none) o) (fun r e => by cases e)) (by omega) (by omega))
      have HX := Lib.hid (show ts.length = k ∧ DcI wo w2.heap.size wo.heap.size ts tv vs ∧ ThsGood (1 + (r1 : Int)) (1 + (r2 : Int)) 1 0 ts ∧ num = 1 + lensum ts + 2 * ts.length ∧ Blk wo w.heap.size 28 #[.int .i64 0, .slice none 0 0] ∧ Blk wo w1.heap.size 28 #[.int .i64 (1 + (r1 : Int)), tv] ∧ Blk wo W.heap.size 9 #[.string (dname 0), .string (dname 1)] ∧ w.grownBy wo (some b) from ⟨htl, hdc, hgd, hnm, hb0, hb1, hb2, hgr⟩)
      obtain ⟨nm, hnmk⟩ : ∃ nm, dname k = nm := ⟨_, rfl⟩
      rw [hnmk] at hnk
      have HNM := Lib.hid hnmk
      clear hb0 hb1 hb2 hdc hgd htl hdi hgr hnm HI hnmk
      go_wp2_with (go_at_call 11; go_must (refine (PK3.out _).mono ?_; rintro e w5 ⟨r3, rfl, hr3, hd3, hg3⟩; (have HD3 := Lib.hid hd3); (have HG3 := Lib.hid hg3); (have z3 : wo.heap.size < w5.heap.size := by have := hg3.size; simp at this; omega); clear hd3 hg3))
      have HLT : Hid (w.heap.size < w2.heap.size ∧ w1.heap.size < w2.heap.size ∧ W.heap.size < w2.heap.size ∧ w2.heap.size ≤ wo.heap.size) := Lib.hid ⟨by omega, by omega, by omega, hsz⟩
      go_loopw [5, 10] (fun s5 s10 wr => ∃ j : Nat, j ≤ 1 + r3 ∧ s10 = .int .i64 j ∧ s5 = .int .i64 ((num + 1 + j : Nat) : Int) ∧ Hid (∃ ls lv, ls.length = j ∧ LnsGood (1 + (r1 : Int)) (1 + (r3 : Int)) (1 + (r2 : Int)) (num + 1) ls ∧ DcK wr w.heap.size w1.heap.size W.heap.size wo.heap.size w2.heap.size nm (1 + (r1 : Int)) lv tv ls ts vs ∧ DiceOk wr b ∧ w.grownBy wr (some b) ∧ w5.heap.size ≤ wr.heap.size)) (fun _ i _ => 1 + r3 - (intOf i).toNat)
      case atStart =>
        obtain ⟨a0, a1, a2, a3, a4, a5, a6, a7⟩ := HX.out
        refine ⟨0, by omega, rfl, by go_num, Lib.hid ⟨[], _, rfl, trivial, ⟨World.ownsRow_nil _ _ _ _, grown_blk (Blk.new wo _ _) HG3.out (by omega), ?_, grown_blk (a4.alloc _) HG3.out (by omega), grown_blk (a5.alloc _) HG3.out (by omega), grown_blk (a6.alloc _) HG3.out (by omega), HLT.out⟩, HD3.out, grownBy_trans (grownBy_alloc a7 _) HG3.out, Nat.le_refl _⟩⟩
        exact (a1.keep (grownBy_alloc (World.grownBy.refl wo none) _) (fun r e => by cases e)).keep HG3.out (fun r e => by cases e; exact .inl (by omega))
      case round =>
        clear HD3 HG3
        obtain ⟨j, hj, rfl, rfl, HI⟩ := hrel
        by_cases hjl : j < 1 + r3
        · obtain ⟨ls, lv, hll, hlg, hK, hdi, hgr, hsz2⟩ := HI.out
          obtain ⟨LA, lc, rfl⟩ := own_form hK.lo
          have hj3 : j ≤ 3 := by omega
          have HLL := Lib.hid hll
          have HLG := Lib.hid hlg
          have HK := Lib.hid hK
          have HDI := Lib.hid hdi
          have HGR := Lib.hid hgr
          have PK4 : Hid (Calls Tryz.prog 11 #[.pointer (some ⟨b, 0, none⟩), .int .i64 7] wr (PickPost wr b 7)) := Lib.hid (PKN.out wr 7 hdi (by omega) (by omega))
          clear hll hlg hK hdi hgr HI
          go_upto_region 15 with (go_at_call 11; go_must (refine (PK4.out).mono ?_; rintro e w6 ⟨r7, rfl, hr7, hd6, hg6⟩; (have HD6 := Lib.hid hd6); (have HG6 := Lib.hid hg6); (have z6 : wr.heap.size ≤ w6.heap.size := hg6.size); clear hd6 hg6))
          have HNO : Hid ((Value.slice LA ls.length lc).ownBlock ≠ some w6.heap.size) := Lib.hid (fun e => by have := (HK.out.lo.lt _ e).2; omega)
          refine wp_world (fun X => Hid (DcK X w.heap.size w1.heap.size W.heap.size wo.heap.size w2.heap.size nm (1 + (r1 : Int)) (.slice LA ls.length lc) tv ls ts vs ∧ DiceOk X b ∧ w.grownBy X (some b) ∧ Blk X w6.heap.size 42 #[.int .i64 (1 + (r7 : Int)), .int .i64 0, .int .i64 ((num : Int) + 1 + j + 1)] ∧ w5.heap.size ≤ X.heap.size)) (Lib.hid ⟨?_, ?_, ?_, Blk.new _ _ _, ?_⟩) ?_
          · exact (HK.out.keep HG6.out (fun r e => by cases e; left; omega)).alloc _
          · exact HD6.out.grown (grownBy_alloc (World.grownBy.refl w6 none) _) (fun r e => by cases e)
          · exact grownBy_alloc (grownBy_trans HGR.out HG6.out) _
          · simp; omega
          intro X HX6
          clear HK HDI HGR HD6 HG6 PK4
          have hl0 := HX6.out.2.2.2.1.cell 0
          have hX6 := HX6.out.2.2.2.1.lt
          have h65 : w5.heap.size ≤ w6.heap.size := by omega
          go_upto_block 4 with fail
          clear hl0
          go_cut [] from 48 to 69 (fun wx => ∃ a : Int, Hid (LnGood (1 + (r1 : Int)) (1 + (r3 : Int)) (1 + (r2 : Int)) (num + 1 + j + 1) ⟨1 + (r7 : Int), a, (num : Int) + 1 + j + 1⟩ ∧ DcK wx w.heap.size w1.heap.size W.heap.size wo.heap.size w2.heap.size nm (1 + (r1 : Int)) (.slice LA ls.length lc) tv ls ts vs ∧ DiceOk wx b ∧ w.grownBy wx (some b) ∧ Blk wx w6.heap.size 42 #[.int .i64 (1 + (r7 : Int)), .int .i64 a, .int .i64 ((num : Int) + 1 + j + 1)] ∧ w5.heap.size ≤ wx.heap.size))
          case first =>
            obtain ⟨hKX, hdX, hgX, hlX, hsX⟩ := HX6.out
            have hp0 := hKX.b1.cell 0
            have PKX : Hid (∀ q : Int, 1 ≤ q → q ≤ 1000 → Calls Tryz.prog 11 #[.pointer (some ⟨b, 0, none⟩), .int .i64 q] X (PickPost X b q)) := Lib.hid (fun q h1 h2 => PKN.out X q hdX h1 (by omega))
            have DON : Hid (∀ (q : Int) (r : Nat) (Y : World), X.grownBy Y (some b) → DiceOk Y b → (r : Int) < q → mostD (1 + (r1 : Int)) (1 + (r3 : Int)) (1 + (r2 : Int)) (1 + (r7 : Int)).toNat = q →
                (LnGood (1 + (r1 : Int)) (1 + (r3 : Int)) (1 + (r2 : Int)) (num + 1 + j + 1) ⟨1 + (r7 : Int), r, (num : Int) + 1 + j + 1⟩ ∧ DcK (Y.setCell ⟨w6.heap.size, 1, none⟩ (.int .i64 (r : Int))) w.heap.size w1.heap.size W.heap.size wo.heap.size w2.heap.size nm (1 + (r1 : Int)) (.slice LA ls.length lc) tv ls ts vs ∧ DiceOk (Y.setCell ⟨w6.heap.size, 1, none⟩ (.int .i64 (r : Int))) b ∧ w.grownBy (Y.setCell ⟨w6.heap.size, 1, none⟩ (.int .i64 (r : Int))) (some b) ∧ Blk (Y.setCell ⟨w6.heap.size, 1, none⟩ (.int .i64 (r : Int))) w6.heap.size 42 #[.int .i64 (1 + (r7 : Int)), .int .i64 r, .int .i64 ((num : Int) + 1 + j + 1)] ∧ w5.heap.size ≤ (Y.setCell ⟨w6.heap.size, 1, none⟩ (.int .i64 (r : Int))).heap.size)) := Lib.hid (fun q r Y hg hd hrq hq => by
              have hYs := hg.size
              have e1 := grownBy_setCell (p := ⟨w6.heap.size, 1, none⟩) (World.grownBy.refl Y (some w6.heap.size)) (.inl rfl) (.int .i64 (r : Int))
              refine ⟨⟨by show (1 : Int) ≤ 1 + (r7 : Int); omega, by show 1 + (r7 : Int) ≤ (7 : Int); omega, by show (0 : Int) ≤ (r : Int); omega, by show (r : Int) < mostD _ _ _ _; rw [hq]; exact hrq, by show (num : Int) + 1 + j + 1 = ((num + 1 + j + 1 : Nat) : Int); push_cast; rfl⟩, ?_, hd.grown e1 (fun r e => by cases e; omega), ?_, ?_, ?_⟩
              · exact (hKX.keep hg (fun r e => by cases e; left; omega)).far (by omega) HNO.out 1 _
              · exact grownBy_setCell (p := ⟨w6.heap.size, 1, none⟩) (grownBy_trans hgX hg) (.inr (by dsimp only; omega)) _
              · exact (grown_blk hlX hg (by omega)).set_ 1 _
              · simp [World.setCell]; omega)
            have BLY : Hid (∀ Y : World, X.grownBy Y (some b) → Blk Y w6.heap.size 42 #[.int .i64 (1 + (r7 : Int)), .int .i64 0, .int .i64 ((num : Int) + 1 + j + 1)]) := Lib.hid (fun Y hg => grown_blk hlX hg (by omega))
            have HXX := HX6
            clear hKX hdX hgX hlX hsX HX6
            by_cases q1 : r7 ≤ 1
            · have HMO : Hid (mostD (1 + (r1 : Int)) (1 + (r3 : Int)) (1 + (r2 : Int)) (1 + (r7 : Int)).toNat = 1 + (r1 : Int)) := Lib.hid (by
                have : r7 = 0 ∨ r7 = 1 := by omega
                rcases this with rfl | rfl <;> rfl)
              have hpp := PKX.out (1 + (r1 : Int)) (by omega) (by omega)
              have HPP := Lib.hid hpp
              clear hpp
              by_cases q0 : r7 = 0
              · have e1 : ((1 + (r7 : Int)) == 1) = true := by simp; omega
                clear q0 q1
                go_wp2_with (go_at_call 11; go_must (refine (HPP.out).mono ?_; rintro e w7 ⟨ra, rfl, hra, hd7, hg7⟩; (have c7 := (BLY.out _ hg7).cell 1); (have f7 := (BLY.out _ hg7).frozen 1); (have HD7 := Lib.hid hd7); (have HG7 := Lib.hid hg7); clear hd7 hg7))
                go_meet
                exact ⟨ra, Lib.hid (DON.out _ ra _ HG7.out HD7.out hra HMO.out)⟩
              · have e1 : ((1 + (r7 : Int)) == 1) = false := by simp; omega
                have e2 : ((1 + (r7 : Int)) == 2) = true := by simp; omega
                clear q0 q1
                go_wp2_with (go_at_call 11; go_must (refine (HPP.out).mono ?_; rintro e w7 ⟨ra, rfl, hra, hd7, hg7⟩; (have c7 := (BLY.out _ hg7).cell 1); (have f7 := (BLY.out _ hg7).frozen 1); (have HD7 := Lib.hid hd7); (have HG7 := Lib.hid hg7); clear hd7 hg7))
                go_meet
                exact ⟨ra, Lib.hid (DON.out _ ra _ HG7.out HD7.out hra HMO.out)⟩
            have e1 : ((1 + (r7 : Int)) == 1) = false := by simp; omega
            have e2 : ((1 + (r7 : Int)) == 2) = false := by simp; omega
            by_cases q3 : r7 ≤ 3
            · have HMO : Hid (mostD (1 + (r1 : Int)) (1 + (r3 : Int)) (1 + (r2 : Int)) (1 + (r7 : Int)).toNat = 1 + (r3 : Int)) := Lib.hid (by
                have : r7 = 2 ∨ r7 = 3 := by omega
                rcases this with rfl | rfl <;> rfl)
              have hpp := PKX.out (1 + (r3 : Int)) (by omega) (by omega)
              have HPP := Lib.hid hpp
              clear hpp
              by_cases q2 : r7 = 2
              · have e3 : ((1 + (r7 : Int)) == 3) = true := by simp; omega
                clear q1 q2 q3
                go_wp2_with (go_at_call 11; go_must (refine (HPP.out).mono ?_; rintro e w7 ⟨ra, rfl, hra, hd7, hg7⟩; (have c7 := (BLY.out _ hg7).cell 1); (have f7 := (BLY.out _ hg7).frozen 1); (have HD7 := Lib.hid hd7); (have HG7 := Lib.hid hg7); clear hd7 hg7))
                go_meet
                exact ⟨ra, Lib.hid (DON.out _ ra _ HG7.out HD7.out hra HMO.out)⟩
              · have e3 : ((1 + (r7 : Int)) == 3) = false := by simp; omega
                have e4 : ((1 + (r7 : Int)) == 4) = true := by simp; omega
                clear q1 q2 q3
                go_wp2_with (go_at_call 11; go_must (refine (HPP.out).mono ?_; rintro e w7 ⟨ra, rfl, hra, hd7, hg7⟩; (have c7 := (BLY.out _ hg7).cell 1); (have f7 := (BLY.out _ hg7).frozen 1); (have HD7 := Lib.hid hd7); (have HG7 := Lib.hid hg7); clear hd7 hg7))
                go_meet
                exact ⟨ra, Lib.hid (DON.out _ ra _ HG7.out HD7.out hra HMO.out)⟩
            have e3 : ((1 + (r7 : Int)) == 3) = false := by simp; omega
            have e4 : ((1 + (r7 : Int)) == 4) = false := by simp; omega
            by_cases q4 : r7 = 4
            · have HMO : Hid (mostD (1 + (r1 : Int)) (1 + (r3 : Int)) (1 + (r2 : Int)) (1 + (r7 : Int)).toNat = 1 + (r2 : Int)) := Lib.hid (by rw [q4]; rfl)
              have hpp := PKX.out (1 + (r2 : Int)) (by omega) (by omega)
              have HPP := Lib.hid hpp
              have e5 : ((1 + (r7 : Int)) == 5) = true := by simp; omega
              clear hpp q1 q3 q4
              go_wp2_with (go_at_call 11; go_must (refine (HPP.out).mono ?_; rintro e w7 ⟨ra, rfl, hra, hd7, hg7⟩; (have c7 := (BLY.out _ hg7).cell 1); (have f7 := (BLY.out _ hg7).frozen 1); (have HD7 := Lib.hid hd7); (have HG7 := Lib.hid hg7); clear hd7 hg7))
              go_meet
              exact ⟨ra, Lib.hid (DON.out _ ra _ HG7.out HD7.out hra HMO.out)⟩
            have e5 : ((1 + (r7 : Int)) == 5) = false := by simp; omega
            have HMO : Hid (mostD (1 + (r1 : Int)) (1 + (r3 : Int)) (1 + (r2 : Int)) (1 + (r7 : Int)).toNat = 1) := Lib.hid (by
              have : r7 = 5 ∨ r7 = 6 := by omega
              rcases this with rfl | rfl <;> rfl)
            have HLG7 : Hid (LnGood (1 + (r1 : Int)) (1 + (r3 : Int)) (1 + (r2 : Int)) (num + 1 + j + 1) ⟨1 + (r7 : Int), 0, (num : Int) + 1 + j + 1⟩) := Lib.hid ⟨by show (1 : Int) ≤ 1 + (r7 : Int); omega, by show 1 + (r7 : Int) ≤ (7 : Int); omega, Int.le_refl _, by show (0 : Int) < mostD _ _ _ _; rw [HMO.out]; decide, by show (num : Int) + 1 + j + 1 = ((num + 1 + j + 1 : Nat) : Int); push_cast; rfl⟩
            clear q1 q3 q4
            go_wp2_with fail
            go_meet
            exact ⟨0, Lib.hid ⟨HLG7.out, HXX.out⟩⟩
          case rest =>
            obtain ⟨a, HC⟩ := hcut
            obtain ⟨hgood, hKc, hdc, hgc, hlc, hsc⟩ := HC.out
            have l0 := hlc.cell 0
            have l1 := hlc.cell 1
            have l2 := hlc.cell 2
            have t1 := hKc.th.cell 1
            have hth := hKc.th.lt
            obtain ⟨i0, hi0, y1, y2, y3⟩ := info_parts infoLine
            have HKc := Lib.hid hKc
            have HDc := Lib.hid hdc
            have HGc := Lib.hid hgc
            have HGood := Lib.hid hgood
            have HNE := Lib.hid (own_blk_ne hKc.lo hKc.th (by decide))
            have HOA : Hid (∀ o, (wc.alloc o).ownsRow wo.heap.size 42 3 (.slice LA ls.length lc) ls.length (lnCells ls)) := Lib.hid (fun o => hKc.lo.alloc o)
            obtain ⟨jl, hjl2⟩ : ∃ jl, ls.length = jl := ⟨_, rfl⟩
            have hjj : jl ≤ 3 := by rw [← hjl2, HLL.out]; omega
            rw [hjl2] at t1 HOA HNE
            have HJL := Lib.hid hjl2
            clear hgood hKc hdc hgc hlc HC HX6 hjl2 HNO
            go_wp2_with (at_builtin; go_must (refine wpList_append_own _ rfl _ _ 43 rfl wo.heap.size 42 i0 _ 3 24 Tryz.underlying43 hi0 y1 y2 y3 rfl (by decide) (.slice LA jl lc) jl (lnCells ls) rfl (HOA.out _) ⟨wc.heap.size, 0, none⟩ 1 1 [.int .i64 (1 + (r7 : Int)), .int .i64 a, .int .i64 ((num : Int) + 1 + j + 1)] rfl rfl (cells_new_list wc _ _) (by simp [Value.oneCell']) (by unfold maxLen; omega) (by omega) (by simp; omega) ?_; intro v9 w9 hown9 hgr9 _; obtain ⟨A9, c9, rfl⟩ := own_form hown9; (have k9 : Blk w9 wo.heap.size 45 _ := (HKc.out.th.alloc _).grown hgr9 (fun e => HNE.out e.symm)); (have z9 := k9.frozen 1); (have y9 := k9.cell 1); (have hs9 : wc.heap.size < w9.heap.size := by have := hgr9.size; simp at this; omega); (have HK9 := Lib.hid k9); (have HO9 := Lib.hid hown9); (have HG9 := Lib.hid hgr9); clear hown9 hgr9 k9))
            go_roundw
            case rel =>
              have hgA : Hid (∃ A', A' = wc.alloc (.cells #[.int .i64 (1 + (r7 : Int)), .int .i64 a, .int .i64 ((num : Int) + 1 + j + 1)] 42)) := Lib.hid ⟨_, rfl⟩
              have hKA := HKc.out.alloc (.cells #[.int .i64 (1 + (r7 : Int)), .int .i64 a, .int .i64 ((num : Int) + 1 + j + 1)] 42)
              have hown2 := HO9.out
              have hjl := HJL.out
              have hll := HLL.out
              refine ⟨j + 1, by omega, by go_num, by go_num, Lib.hid ⟨ls ++ [⟨1 + (r7 : Int), a, (num : Int) + 1 + j + 1⟩], .slice A9 (jl + 1) c9, by simp [hll], LnsGood.snoc HLG.out (by rw [hll]; exact HGood.out), hKA.snoc _ ?_ ?_, ?_, ?_, ?_⟩⟩
              · rw [lnCells_append, List.length_append, hjl]; exact hown2
              · rw [hjl]; exact HG9.out
              · have e9 := HDc.out.grown (grownBy_alloc (World.grownBy.refl wc none) (.cells #[.int .i64 (1 + (r7 : Int)), .int .i64 a, .int .i64 ((num : Int) + 1 + j + 1)] 42)) (fun r e => by cases e)
                have e10 := e9.grown HG9.out (fun r e => by have := ((HOA.out (.cells #[] 0)).lt r e).1; omega)
                exact e10.grown (grownBy_setCell (p := ⟨wo.heap.size, 1, none⟩) (World.grownBy.refl w9 (some wo.heap.size)) (.inl rfl) _) (fun r e => by cases e; omega)
              · have e10 := grownBy_past (grownBy_alloc HGc.out (.cells #[.int .i64 (1 + (r7 : Int)), .int .i64 a, .int .i64 ((num : Int) + 1 + j + 1)] 42)) HG9.out (fun r e => by have := ((HOA.out (.cells #[] 0)).lt r e).1; omega)
                exact grownBy_setCell (p := ⟨wo.heap.size, 1, none⟩) e10 (.inr (by dsimp only; omega)) _
              · simp [World.setCell]; omega
            case measure => simp [intOf]; omega
        · obtain rfl : j = 1 + r3 := by omega
          obtain ⟨ls, lv, hll, hlg, hK, hdi, hgr, hsz2⟩ := HI.out
          obtain ⟨TA, tc, rfl⟩ := own_form hK.dc.th
          obtain ⟨LA, lc, rfl⟩ := own_form hK.lo
          have t0 := hK.th.cell 0
          have t1 := hK.th.cell 1
          have p1 := hK.b1.cell 1
          have hts : ts.length ≤ 2 := by rw [HX.out.1]; omega
          have hw1w := hK.b1.lt
          have hwow := hK.th.lt
          obtain ⟨i0, hi0, y1, y2, y3⟩ := info_parts infoThread
          have HOA : Hid (∀ o, (wr.alloc o).ownsRow w2.heap.size 45 2 (.slice TA ts.length tc) ts.length (thCells ts vs)) := Lib.hid (fun o => hK.dc.th.alloc o)
          have hne : ∀ g, g < w2.heap.size → some g ≠ (Value.slice TA ts.length tc).ownBlock := fun g hg e => by have := (hK.dc.th.lt g e.symm).1; omega
          have HNE := Lib.hid hne
          have HLL := Lib.hid hll
          have HLG := Lib.hid hlg
          have HK := Lib.hid hK
          have HDI := Lib.hid hdi
          have HGR := Lib.hid hgr
          obtain ⟨tl, htl⟩ : ∃ tl, ts.length = tl := ⟨_, rfl⟩
          obtain ⟨ll, hll2⟩ : ∃ ll, ls.length = ll := ⟨_, rfl⟩
          rw [htl] at hts p1 HOA HNE
          rw [hll2] at t1
          have HTL := Lib.hid htl
          have HL2 := Lib.hid hll2
          clear hll hlg hK hdi hgr HI hne htl hll2
          go_wp2_with (at_builtin; go_must (refine wpList_append_own _ rfl _ _ 26 rfl w2.heap.size 45 i0 _ 2 40 Tryz.underlying26 hi0 y1 y2 y3 rfl (by decide) (.slice TA tl tc) tl (thCells ts vs) rfl (HOA.out _) ⟨wr.heap.size, 0, none⟩ 1 1 [.string nm, .slice LA ll lc] rfl rfl (cells_new_list wr _ _) (by simp [Value.oneCell']) (by unfold maxLen; omega) (by omega) (by simp; omega) ?_; intro v9 w9 hown9 hgr9 _; obtain ⟨A9, c9, rfl⟩ := own_form hown9; (have k9 : Blk w9 w1.heap.size 28 _ := (HK.out.b1.alloc _).grown hgr9 (HNE.out _ (by omega))); (have z9 := k9.frozen 1); (have y9 := k9.cell 1); (have hs9 : wr.heap.size < w9.heap.size := by have := hgr9.size; simp at this; omega); (have HK9 := Lib.hid k9); (have HO9 := Lib.hid hown9); (have HG9 := Lib.hid hgr9); clear hown9 hgr9 k9))
          go_roundw
          case rel =>
            have htl := HTL.out
            have hl2 := HL2.out
            have hK := HK.out
            have hx := HX.out
            have hnm := hx.2.2.2.1
            have hown2 := HO9.out
            have hlr : ∀ r, (Value.slice TA tl tc).ownBlock = some r → w2.heap.size ≤ r := fun r e => ((HOA.out (.cells #[] 0)).lt r e).1
            have e1 := grownBy_setCell (p := ⟨w1.heap.size, 1, none⟩) (World.grownBy.refl w9 (some w1.heap.size)) (.inl rfl) (.slice A9 (tl + 1) c9)
            have ht : ThGood (1 + (r1 : Int)) (1 + (r2 : Int)) (1 + lensum ts + 2 * ts.length) (0 + ts.length) ⟨nm, ls⟩ := by
              refine ⟨?_, ?_, ?_, ?_⟩
              · show nm = dname (0 + ts.length)
                rw [Nat.zero_add, hx.1]; exact HNM.out.symm
              · show 1 ≤ ls.length
                rw [HLL.out]; omega
              · show ls.length ≤ 3
                rw [HLL.out]; omega
              · show LnsGood (1 + (r1 : Int)) (ls.length : Int) (1 + (r2 : Int)) (1 + lensum ts + 2 * ts.length + 1) ls
                rw [← hnm, show ((ls.length : Nat) : Int) = 1 + (r3 : Int) from by rw [HLL.out]; push_cast; rfl]
                exact HLG.out
            refine ⟨k + 1, num + 1 + (1 + r3) + 1, by omega, by go_num, by go_num, by omega, Lib.hid ⟨ts ++ [⟨nm, ls⟩], .slice A9 (tl + 1) c9, vs ++ [.slice LA ll lc], by simp [hx.1], ?_, ThsGood.snoc hx.2.2.1 ht, ?_, ?_, ?_, ?_, ?_, ?_, ?_⟩⟩
            · have h1 := DcI.snoc (t := ⟨nm, ls⟩) (tv' := .slice A9 (tl + 1) c9) (hK.dc.keep (grownBy_alloc (World.grownBy.refl wr none) (.cells #[.string nm, .slice LA ll lc] 45)) (fun r e => by cases e)) (lv := .slice LA ll lc) (by have := hK.lo.alloc (.cells #[.string nm, .slice LA ll lc] 45); rw [hl2] at this ⊢; exact this) hK.lt.2.2.2 (by rw [List.length_append, htl]; exact hown2) (by rw [htl]; exact HG9.out)
              exact (h1.keep e1 (fun r e => by cases e; left; omega)).relim
            · rw [lensum_append, List.length_append, hnm]
              simp only [lensum, List.length_cons, List.length_nil]
              rw [HLL.out]; omega
            · exact ((hK.b0.alloc _).grown HG9.out (HNE.out _ (by omega))).far (by dsimp only; omega) _
            · exact HK9.out.set_ 1 _
            · exact ((hK.b2.alloc _).grown HG9.out (HNE.out _ (by omega))).far (by dsimp only; omega) _
            · have e9 := HDI.out.grown (grownBy_alloc (World.grownBy.refl wr none) (.cells #[.string nm, .slice LA ll lc] 45)) (fun r e => by cases e)
              have e10 := e9.grown HG9.out (fun r e => by have := hlr r e; omega)
              exact e10.grown e1 (fun r e => by cases e; omega)
            · have e10 := grownBy_past (grownBy_alloc HGR.out (.cells #[.string nm, .slice LA ll lc] 45)) HG9.out (fun r e => by have := hlr r e; omega)
              exact grownBy_setCell (p := ⟨w1.heap.size, 1, none⟩) e10 (.inr (by dsimp only; omega)) _
            · simp [World.setCell]; omega
          case measure => simp [intOf]; omega
    · obtain rfl : k = 1 + r2 := by omega
      have c0 := hb0.cell 0
      have c1 := hb0.cell 1
      have f0 := hb0.frozen 0
      have f1 := hb0.frozen 1
      have p0 := hb1.cell 0
      have p1 := hb1.cell 1
      obtain ⟨A, c, rfl⟩ := own_form hdc.th
      have HDC := Lib.hid hdc
      have HGD := Lib.hid hgd
      have HTL := Lib.hid htl
      have HDI := Lib.hid hdi
      have HGR := Lib.hid hgr
      have HBB : Hid (Blk ((wo.setCell ⟨w.heap.size, 0, none⟩ (.int .i64 (1 + (r1 : Int)))).setCell ⟨w.heap.size, 1, none⟩ (.slice A ts.length c)) w.heap.size 28 #[.int .i64 (1 + (r1 : Int)), .slice A ts.length c]) := Lib.hid (blk_set (i := 1) _ (blk_set (i := 0) _ hb0))
      clear hb0 hb1 hb2 hdc hgd htl hdi hgr hnm HI
      go_wp2_with fail
      refine bodyPost_ret (results_cell_row (p := 2) (ty := 28) rfl _ _ w.heap.size 28 _ (0, 0) _ rfl HBB.out Tryz.underlying28 rfl (by kernel_rfl)) rfl ?_
      have q1 := grownBy_setCell (p := ⟨w.heap.size, 0, none⟩) HGR.out (.inr (by dsimp only; omega)) (.int .i64 (1 + (r1 : Int)))
      have q2 := grownBy_setCell (p := ⟨w.heap.size, 1, none⟩) q1 (.inr (by dsimp only; omega)) (.slice A ts.length c)
      have e1 := grownBy_setCell (p := ⟨w.heap.size, 0, none⟩) (World.grownBy.refl wo (some w.heap.size)) (.inl rfl) (.int .i64 (1 + (r1 : Int)))
      have e2 := grownBy_setCell (p := ⟨w.heap.size, 1, none⟩) e1 (.inl rfl) (.slice A ts.length c)
      refine ⟨⟨1 + (r1 : Int), ts⟩, A, c, rfl, (HDC.out.keep e2 (fun r e => by cases e; exact .inl (by omega))).ths, ⟨by show (1 : Int) ≤ 1 + (r1 : Int); omega, by show 1 + (r1 : Int) ≤ (2 : Int); omega, by show 1 ≤ ts.length; rw [HTL.out]; omega, by show ts.length ≤ 2; rw [HTL.out]; omega, ?_⟩, HDI.out.grown e2 (fun r e => by cases e; exact hbl), q2⟩
      have e3 : ((ts.length : Nat) : Int) = 1 + (r2 : Int) := by rw [HTL.out]; omega
      show ThsGood (1 + (r1 : Int)) (ts.length : Int) 1 0 ts
      rw [e3]; exact HGD.out
end Go.Proofs.YtpkefohcccpncaaGreatDoor
namespace Go.Proofs.YtpkefohcccpncaaGreatDoor
open Go.RowKit
set_option linter.unusedSimpArgs false
set_option linter.unusedVariables false

/-- a list of seeds that came in -/
structure SeedsArg (w : World) (A : Option Addr) (n c : Nat) : Prop where
  le : n ≤ c
  c63 : c ≤ 9223372036854775807
  rd : ∃ zs : List Int, ∀ k, k < n → ∃ ad : Addr, A = some ad ∧ ad.block < w.heap.size ∧ w.cell? (ad.add k) = some (.int .u8 (zs.getD k 0)) ∧ 0 ≤ zs.getD k 0 ∧ zs.getD k 0 ≤ 255
theorem SeedsArg.up {w w' : World} {A : Option Addr} {n c : Nat} (h : SeedsArg w A n c) (hb : Below w.heap.size w w') : SeedsArg w' A n c := by
  obtain ⟨h1, h2, zs, hr⟩ := h
  refine ⟨h1, h2, zs, fun k hk => ?_⟩
  obtain ⟨ad, e, hl, hc, hz⟩ := hr k hk
  exact ⟨ad, e, Nat.lt_of_lt_of_le hl hb.size, (hb.cell (by rw [add_block]; exact hl)).trans hc, hz⟩
theorem pnew_arg (w : World) (A : Option Addr) (n c : Nat) (h : SeedsArg w A n c) : Calls Tryz.prog 7 #[.slice A n c] w (PNewPost w) := by
  obtain ⟨h1, h2, zs, hr⟩ := h
  exact pnew_any w A n c zs h1 h2 hr
theorem prgOk_of {p : Prg} (h : checkP p = true) : PrgOk p := by
  have hv := valid_of h
  have h6 := valid_l6 h
  refine ⟨by have := hv.t6; omega, fun t ht => ⟨by have := h6 t ht; omega, ?_⟩⟩
  have := named_len (hv.nms t ht)
  rw [size_data] at this
  omega
theorem below_dice {a u v : World} (h : Below a.heap.size a u) (hg : u.grownBy v (some u.heap.size)) : Below a.heap.size a v := h.trans (below_grownS hg h.size h.size)

end Go.Proofs.YtpkefohcccpncaaGreatDoor
namespace Go.Proofs.YtpkefohcccpncaaGreatDoor
open Go.RowKit
set_option linter.unusedSimpArgs false
set_option linter.unusedVariables false

/-- the dice's block holds a slice and an integer -/
theorem DiceOk.blk_ {w : World} {b : Nat} (h : DiceOk w b) : ∃ A n c x, w.heap[b]? = some (.cells #[.slice A n c, .int .i64 x] 65 (0, 0)) := by
  obtain ⟨A, n, c, zs, at_, h⟩ := h
  exact ⟨A, n, c, at_, h.blk⟩
theorem dice_cell {w : World} {b : Nat} (h : DiceOk w b) {q : Addr} (hq : q.block = b) {v : Value} (hv : w.cell? q = some v) : (q.off = 0 ∧ ∃ A n c, v = .slice A n c) ∨ (q.off = 1 ∧ ∃ x, v = .int .i64 x) := by
  obtain ⟨A, n, c, x, hb⟩ := h.blk_
  obtain ⟨qb, qo, qs⟩ := q
  dsimp only at hq
  subst hq
  simp only [World.cell?, hb] at hv
  split at hv
  · cases hv
  · match qo, hv with
    | 0, hv => left; simp at hv; exact ⟨rfl, A, n, c, hv.symm⟩
    | 1, hv => right; simp at hv; exact ⟨rfl, x, hv.symm⟩
    | k + 2, hv => simp at hv
theorem ne_dice_str {w : World} {b : Nat} (h : DiceOk w b) {q : Addr} {s : ByteArray} (hv : w.cell? q = some (.string s)) : q.block ≠ b := fun e => by
  rcases dice_cell h e hv with ⟨_, A, n, c, hx⟩ | ⟨_, x, hx⟩ <;> cases hx
theorem ne_dice_ints {w : World} {b : Nat} (h : DiceOk w b) {q : Addr} {x y : Int} (hx : w.cell? (q.add 0) = some (.int .i64 x)) (hy : w.cell? (q.add 1) = some (.int .i64 y)) : q.block ≠ b := fun e => by
  have e0 : q.add 0 = q := by simp [Addr.add]
  rw [e0] at hx
  rcases dice_cell h e hx with ⟨_, A, n, c, hv⟩ | ⟨ho, x', hv⟩
  · cases hv
  · have h1 : (q.add 1).block = b := by rw [add_block]; exact e
    rcases dice_cell h h1 hy with ⟨_, A, n, c, hv⟩ | ⟨ho2, _, _⟩
    · cases hv
    · obtain ⟨qb, qo, qs⟩ := q
      simp [Addr.add] at ho2 ho
      omega
theorem Reads.pick {A W : World} {b B size n : Nat} {AD : Option Addr} {xs : List Value} (h : Reads A B size AD n xs) (hg : A.grownBy W (some b)) (hB : B ≤ A.heap.size) (hne : ∀ ad, AD = some ad → 0 < n → ad.block ≠ b) : Reads W B size AD n xs :=
  ⟨h.1, fun hn => by
    obtain ⟨ad, e, hb, hc⟩ := h.2 hn
    have hn2 := hne ad e hn
    exact ⟨ad, e, hb, fun j u hu => (World.cell?_of_block (hg.block _ (by rw [add_block]; omega) (by rw [add_block]; intro x; injection x; omega))).trans (hc j u hu)⟩⟩
theorem LnsAt.pick {A W : World} {b : Nat} {AD : Option Addr} {xs : List Ln} (h : LnsAt A A.heap.size AD xs) (hd : DiceOk A b) (hg : A.grownBy W (some b)) : LnsAt W W.heap.size AD xs := by
  refine (Reads.pick (W := W) (b := b) h hg (Nat.le_refl _) fun ad e hn => ?_).more hg.size
  obtain ⟨ad', e', _, hc⟩ := h.2 hn
  rw [e] at e'; injection e' with e'; subst e'
  obtain ⟨h0, h1, _⟩ := lnCells_get xs 0 hn
  exact ne_dice_ints hd (hc 0 _ (by simpa using h0)) (hc 1 _ (by simpa using h1))
theorem EvsAt.pick {A W : World} {b : Nat} {AD : Option Addr} {xs : List Ev} (h : EvsAt A A.heap.size AD xs) (hd : DiceOk A b) (hg : A.grownBy W (some b)) : EvsAt W W.heap.size AD xs := by
  refine (Reads.pick (W := W) (b := b) h hg (Nat.le_refl _) fun ad e hn => ?_).more hg.size
  obtain ⟨ad', e', _, hc⟩ := h.2 hn
  rw [e] at e'; injection e' with e'; subst e'
  obtain ⟨h0, h1, _⟩ := evCells_get xs 0 hn
  exact ne_dice_ints hd (hc 0 _ (by simpa using h0)) (hc 1 _ (by simpa using h1))
theorem ThsAt.pick {A W : World} {b : Nat} {AD : Option Addr} {ts : List Th} (h : ThsAt A A.heap.size AD ts) (hd : DiceOk A b) (hg : A.grownBy W (some b)) : ThsAt W W.heap.size AD ts := by
  obtain ⟨vs, hvl, hr, hls⟩ := h
  refine ⟨vs, hvl, (Reads.pick (W := W) (b := b) hr hg (Nat.le_refl _) fun ad e hn => ?_).more hg.size, fun k h1 h2 => ?_⟩
  · obtain ⟨ad', e', _, hc⟩ := hr.2 hn
    rw [e] at e'; injection e' with e'; subst e'
    obtain ⟨h0, _⟩ := thCells_get ts vs hvl 0 hn
    have hs := hc 0 _ (by simpa using h0)
    have := ne_dice_str hd hs
    rwa [add_block] at this
  · obtain ⟨LA, c, e, hl⟩ := hls k h1 h2
    exact ⟨LA, c, e, hl.pick hd hg⟩
/-- dice, and a program in a variable -/
structure PkI (w W : World) (b pb : Nat) (ts : List Th) (pv : Int) (PA : Option Addr) (pn pc : Nat) : Prop where
  di : DiceOk W b
  be : Below w.heap.size w W
  pr : Blk W pb 28 #[.int .i64 pv, .slice PA pn pc]
  th : ThsAt W W.heap.size PA ts
  bl : w.heap.size ≤ b ∧ b < pb
section
variable {w W W' : World} {b pb : Nat} {ts : List Th} {pv : Int} {PA : Option Addr} {pn pc : Nat}
theorem PkI.pick (h : PkI w W b pb ts pv PA pn pc) (hd : DiceOk W' b) (hg : W.grownBy W' (some b)) : PkI w W' b pb ts pv PA pn pc :=
  ⟨hd, h.be.grown hg h.be.size (fun k hk => by cases hk; exact h.bl.1), h.pr.grown hg (by intro x; injection x; have := h.bl; omega), h.th.pick h.di hg, h.bl⟩
theorem PkI.below (h : PkI w W b pb ts pv PA pn pc) (hb : Below W.heap.size W W') : PkI w W' b pb ts pv PA pn pc :=
  ⟨h.di.below hb h.di.lt, h.be.trans (hb.mono h.be.size), h.pr.below hb h.pr.lt, h.th.up hb, h.bl⟩
theorem PkI.alloc (h : PkI w W b pb ts pv PA pn pc) (o : Obj) : PkI w (W.alloc o) b pb ts pv PA pn pc := h.below ((Below.refl _ _).alloc (Nat.le_refl _) o)
theorem PkI.drewN (h : PkI w W b pb ts pv PA pn pc) (n : Nat) : PkI w (W.drewN n) b pb ts pv PA pn pc := h.below (below_drewN (Below.refl _ _) n)
end
/-- counts in a row behind the dice -/
def OwnC (W : World) (b : Nat) (v : Value) (cs : List Int) : Prop := W.ownsRow (b + 1) 3 1 v cs.length (intVs cs)
theorem OwnC.pick {W W' : World} {b : Nat} {v : Value} {cs : List Int} (h : OwnC W b v cs) (hg : W.grownBy W' (some b)) : OwnC W' b v cs := by
  refine World.ownsRow.kept h hg ?_
  rcases ho : v.ownBlock with _ | g
  · exact .inl rfl
  · right
    intro e
    injection e with e
    have := (World.ownsRow.lt h g ho).1
    omega
theorem OwnC.below {W W' : World} {b : Nat} {v : Value} {cs : List Int} (h : OwnC W b v cs) (hb : Below W.heap.size W W') : OwnC W' b v cs := own_kept_below h hb
theorem OwnC.isAt {W : World} {b n c : Nat} {A : Option Addr} {cs : List Int} (h : OwnC W b (.slice A n c) cs) : IsAt W W.heap.size A cs := by
  obtain ⟨A', c', e⟩ := own_form h
  injection e with e1 e2 e3
  subst e2
  exact Reads.of_own h
theorem take_sum {cs : List Int} {i : Nat} (hi : i < cs.length) : (cs.take (i + 1)).sum = (cs.take i).sum + cs.getD i 0 := by
  rw [List.take_succ_eq_append_getElem hi, List.sum_append]
  simp [List.getD, hi]
theorem take_sum_bd {cs : List Int} (h : Bd cs 20) : ∀ i, i ≤ cs.length → 0 ≤ (cs.take i).sum ∧ (cs.take i).sum ≤ 20 * i := by
  intro i
  induction i with
  | zero => intro _; simp
  | succ i ih =>
    intro hi
    have := ih (by omega)
    have := h i (by omega)
    rw [take_sum (by omega)]
    omega
theorem Bd.mono {cs : List Int} {M M' : Int} (h : Bd cs M) (hM : M ≤ M') : Bd cs M' := fun j hj => by have := h j hj; omega
end Go.Proofs.YtpkefohcccpncaaGreatDoor
