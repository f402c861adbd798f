/- The events of a place. -/
import Derived.Test.YtpkefohcccpncaaGreatDoorBeg
import Derived.Deep.DeepCutAuto
import Derived.Deep.CutBlock
namespace Go.Proofs.YtpkefohcccpncaaGreatDoor
open Go.RowKit
set_option linter.unusedSimpArgs false
set_option linter.unusedVariables false

theorem infoEvent : (Tryz.prog.info? 38).map (fun i => (i.zero, i.size, i.bytes)) = some (some (.agg #[.int .i64 0, .int .i64 0, .int .i64 0, .int .i64 0, .int .i64 0]), 5, 40) := by kernel_rfl
def EvsAt (w : World) (B : Nat) (A : Option Addr) (es : List Ev) : Prop := Reads w B 5 A es.length (evCells es)
def EvsPost (w : World) (es : List Ev) (e : Ending) (w' : World) : Prop := ∃ A c, e = .returned (.slice A es.length c) ∧ EvsAt w' w'.heap.size A es ∧ Below w.heap.size w w'
theorem IsAt.below {w w' : World} {B : Nat} {A : Option Addr} {xs : List Int} (h : IsAt w B A xs) (hb : Below B w w') : IsAt w' B A xs := Reads.below h hb
theorem IsAt.more {w : World} {B B' : Nat} {A : Option Addr} {xs : List Int} (h : IsAt w B A xs) (hb : B ≤ B') : IsAt w B' A xs := Reads.more h hb
set_option maxRecDepth 100000 in
set_option maxHeartbeats 4000000 in
theorem events_any (p : Prg) (A : Option Addr) (n c : Nat) (i k : Nat) (v : Int) (w : World) (hT : ThsAt w w.heap.size A p.ts) (hn : p.ts.length = n) (hi : i < p.ts.length) (hk0 : k < p.ts[i].ls.length) (h6 : p.ts[i].ls.length ≤ 6)
    (h9 : n ≤ 1000000000000) :
    Calls Tryz.prog 34 #[.agg #[.int .i64 p.v, .slice A n c], .agg #[.int .i64 i, .int .i64 k], .int .i64 v] w (EvsPost w (evsAt p v (i, k))) := by
  have HE := Lib.hid (evsAt_at v hi hk0)
  obtain ⟨ad, LA, lc, rfl, hab, h0, h1, hL⟩ := hT.at_ hi
  obtain ⟨ad2, rfl, hab2, g0, g1, g2⟩ := hL.at_ hk0
  have hin : i < n := by omega
  generalize hl : p.ts[i].ls[k] = l at *
  obtain ⟨nl, hnl⟩ : ∃ nl, p.ts[i].ls.length = nl := ⟨_, rfl⟩
  have hk : k < nl := by rw [← hnl]; exact hk0
  rw [hnl] at HE h1 h6
  generalize p.ts[i].nm = nm at *
  obtain ⟨lk, la, lm⟩ := l
  dsimp only at *
  obtain ⟨evs, hev⟩ : ∃ evs, evsAt p v (i, k) = evs := ⟨_, rfl⟩
  rw [hev] at HE ⊢
  generalize p.v = pv at *
  have x0 : ∀ o1 o2, ((w.alloc o1).alloc o2).cell? (ad.add (i * 2)) = some (.string nm) := fun o1 o2 => by
    rw [World.cell?_alloc_lt _ _ _ (by rw [add_block]; simp; omega), World.cell?_alloc_lt _ _ _ (by rw [add_block]; exact hab)]; exact h0
  have x1 : ∀ o1 o2, ((w.alloc o1).alloc o2).cell? ⟨(ad.add (i * 2)).block, (ad.add (i * 2)).off + 1, none⟩ = some (.slice (some ad2) nl lc) := fun o1 o2 => by
    rw [World.cell?_alloc_lt _ _ _ (by dsimp only; rw [add_block]; simp; omega), World.cell?_alloc_lt _ _ _ (by dsimp only; rw [add_block]; exact hab)]; exact h1
  have y0 : ∀ o1 o2 o3, (((w.alloc o1).alloc o2).alloc o3).cell? (ad2.add (k * 3)) = some (.int .i64 lk) := fun o1 o2 o3 => by
    rw [World.cell?_alloc_lt _ _ _ (by rw [add_block]; simp; omega), World.cell?_alloc_lt _ _ _ (by rw [add_block]; simp; omega), World.cell?_alloc_lt _ _ _ (by rw [add_block]; exact hab2)]; exact g0
  have y1 : ∀ o1 o2 o3, (((w.alloc o1).alloc o2).alloc o3).cell? ⟨(ad2.add (k * 3)).block, (ad2.add (k * 3)).off + 1, none⟩ = some (.int .i64 la) := fun o1 o2 o3 => by
    rw [World.cell?_alloc_lt _ _ _ (by dsimp only; rw [add_block]; simp; omega), World.cell?_alloc_lt _ _ _ (by dsimp only; rw [add_block]; simp; omega), World.cell?_alloc_lt _ _ _ (by dsimp only; rw [add_block]; exact hab2)]; exact g1
  have y2 : ∀ o1 o2 o3, (((w.alloc o1).alloc o2).alloc o3).cell? ⟨(ad2.add (k * 3)).block, (ad2.add (k * 3)).off + 2, none⟩ = some (.int .i64 lm) := fun o1 o2 o3 => by
    rw [World.cell?_alloc_lt _ _ _ (by dsimp only; rw [add_block]; simp; omega), World.cell?_alloc_lt _ _ _ (by dsimp only; rw [add_block]; simp; omega), World.cell?_alloc_lt _ _ _ (by dsimp only; rw [add_block]; exact hab2)]; exact g2
  clear hT hn hL hl hnl hev hk0 hi h0 h1 g0 g1 g2
  go_enter Tryz.func34, Tryz.ntmps34
  go_upto_if 33 with fail
  refine wp_world (fun W => Hid (Blk W (w.heap.size + 1) 56 #[.int .i64 i, .int .i64 k] ∧ Blk W (w.heap.size + 1 + 1 + 1) 42 #[.int .i64 lk, .int .i64 la, .int .i64 lm] ∧ Below w.heap.size w W)) (Lib.hid ⟨?_, ?_, ?_⟩) ?_
  · have := (((Blk.new (w.alloc (.cells #[.int .i64 pv, .slice (some ad) n c] 28)) 56 #[.int .i64 i, .int .i64 k]).alloc (.cells #[.string nm, .slice (some ad2) nl lc] 45)).alloc (.cells #[.int .i64 lk, .int .i64 la, .int .i64 lm] 42))
    simpa only [World.size_alloc] using this
  · have := Blk.new (((w.alloc (.cells #[.int .i64 pv, .slice (some ad) n c] 28)).alloc (.cells #[.int .i64 i, .int .i64 k] 56)).alloc (.cells #[.string nm, .slice (some ad2) nl lc] 45)) 42 #[.int .i64 lk, .int .i64 la, .int .i64 lm]
    simpa only [World.size_alloc] using this
  · exact ((((Below.refl _ _).alloc (Nat.le_refl _) _).alloc (by simp) _).alloc (by simp; omega) _).alloc (by simp; omega) _
  intro W HW
  clear x0 x1 y0 y1 y2
  have hWs : w.heap.size + 1 + 1 + 1 < W.heap.size := HW.out.2.1.lt
  go_cut [9] from 29 to 33 (fun s9 wx => s9 = .int .i64 (behindL nl k) ∧ wx = W)
  case first =>
    by_cases hb : k + 1 = nl
    · have e1 : (((k : Int) + 1) == (nl : Int)) = true := by simp; omega
      have HF : Hid (behindL nl k = -1) := Lib.hid (by unfold behindL; rw [if_pos hb])
      clear hb
      go_wp2
      go_meet
      exact ⟨by rw [HF.out], rfl⟩
    · have e1 : (((k : Int) + 1) == (nl : Int)) = false := by simp; omega
      have HF : Hid (behindL nl k = (k : Int) + 1) := Lib.hid (by unfold behindL; rw [if_neg hb])
      clear hb
      go_wp2
      go_meet
      exact ⟨by rw [HF.out], rfl⟩
  case rest =>
    obtain ⟨rfl, rfl⟩ := hcut
    obtain ⟨bh, hbh⟩ : ∃ bh, behindL nl k = bh := ⟨_, rfl⟩
    rw [hbh]
    have HBH := Lib.hid hbh
    clear hbh
    have l0 := HW.out.2.1.cell 0
    have l1 := HW.out.2.1.cell 1
    have l2 := HW.out.2.1.cell 2
    go_upto_block 0 with fail
    obtain ⟨vv, hvv⟩ : ∃ vv, valueL ⟨lk, la, lm⟩ v = vv := ⟨_, rfl⟩
    have HVV := Lib.hid hvv
    clear hvv
    have HI2 : Hid (Blk (wc.alloc (.cells #[.int .i64 bh] 3)) (w.heap.size + 1) 56 #[.int .i64 i, .int .i64 k] ∧ Blk (wc.alloc (.cells #[.int .i64 bh] 3)) (w.heap.size + 1 + 1 + 1) 42 #[.int .i64 lk, .int .i64 la, .int .i64 lm] ∧ Below w.heap.size w (wc.alloc (.cells #[.int .i64 bh] 3)) ∧ IsAt (wc.alloc (.cells #[.int .i64 bh] 3)) (wc.alloc (.cells #[.int .i64 bh] 3)).heap.size (some ⟨wc.heap.size, 0, none⟩) [bh]) :=
      Lib.hid ⟨HW.out.1.alloc _, HW.out.2.1.alloc _, HW.out.2.2.alloc (by omega) _, isAt_new wc [bh] _ (by simp)⟩
    have HNA : Hid (∀ x, IsAt ((wc.alloc (.cells #[.int .i64 bh] 3)).alloc (.cells #[.int .i64 x] 3)) ((wc.alloc (.cells #[.int .i64 bh] 3)).alloc (.cells #[.int .i64 x] 3)).heap.size (some ⟨wc.heap.size + 1, 0, none⟩) [x]) := Lib.hid (fun x => by
      have := isAt_new (wc.alloc (.cells #[.int .i64 bh] 3)) [x] ((wc.alloc (.cells #[.int .i64 bh] 3)).alloc (.cells #[.int .i64 x] 3)).heap.size (by simp)
      simp only [World.size_alloc] at this ⊢
      exact this)
    go_cut [2, 10] from 38 to 63 (fun s2 s10 wx => ∃ (xs : List Int) (XA : Option Addr) (xc : Nat), s2 = .int .i64 vv ∧ s10 = .slice XA xs.length xc ∧ xs.length ≤ 2 ∧ Hid (evs = xs.map (fun x => (⟨i, k, lm, vv, x⟩ : Ev)) ∧ IsAt wx wx.heap.size XA xs ∧ Blk wx (w.heap.size + 1) 56 #[.int .i64 i, .int .i64 k] ∧ Blk wx (w.heap.size + 1 + 1 + 1) 42 #[.int .i64 lk, .int .i64 la, .int .i64 lm] ∧ Below w.heap.size w wx))
    case first =>
      have HEV : Hid (∀ xs : List Int, nextsL ⟨lk, la, lm⟩ nl k = xs → ¬ (lk = 7 ∨ (lk = 2 ∧ v ≠ la)) → evs = xs.map (fun x => (⟨i, k, lm, vv, x⟩ : Ev))) := Lib.hid (fun xs hx hne => by
        rw [HE.out, evsL, if_neg hne, hx, HVV.out])
      have HEN : Hid ((lk = 7 ∨ (lk = 2 ∧ v ≠ la)) → evs = []) := Lib.hid (fun h => by rw [HE.out, evsL, if_pos h])
      by_cases k1 : lk = 1
      · subst k1
        have HF : Hid (vv = la) := Lib.hid (by rw [← HVV.out]; rfl)
        have HX : Hid (nextsL ⟨1, la, lm⟩ nl k = [bh]) := Lib.hid (by rw [← HBH.out]; rfl)
        go_wp2_with fail
        go_meet
        refine ⟨[bh], _, 1, by rw [HF.out], rfl, by simp, Lib.hid ⟨HEV.out _ HX.out (by omega), HI2.out.2.2.2, HI2.out.1, HI2.out.2.1, HI2.out.2.2.1⟩⟩
      have HV : Hid (vv = v) := Lib.hid (by rw [← HVV.out, valueL, if_neg k1])
      have e1 : (lk == 1) = false := by simpa using k1
      by_cases k2 : lk = 2
      · subst k2
        have HX : Hid (nextsL ⟨2, la, lm⟩ nl k = [bh]) := Lib.hid (by rw [← HBH.out]; rfl)
        by_cases hv : v = la
        · have e2 : (v != la) = false := by simp [hv]
          have HVE := Lib.hid hv
          clear hv k1
          go_wp2_with fail
          go_meet
          refine ⟨[bh], _, 1, by rw [HV.out], rfl, by simp, Lib.hid ⟨HEV.out _ HX.out (by have := HVE.out; omega), HI2.out.2.2.2, HI2.out.1, HI2.out.2.1, HI2.out.2.2.1⟩⟩
        · have e2 : (v != la) = true := by simpa using hv
          have HF : Hid (evs = []) := Lib.hid (HEN.out (Or.inr ⟨rfl, hv⟩))
          clear hv k1
          go_wp2_with fail
          go_ret
          rw [HF.out]
          exact ⟨none, 0, rfl, Reads.none_, HI2.out.2.2.1⟩
      have e2 : (lk == 2) = false := by simpa using k2
      by_cases k3 : lk = 3
      · subst k3
        have HX : Hid (nextsL ⟨3, la, lm⟩ nl k = [la]) := Lib.hid rfl
        clear k1 k2
        go_wp2_with fail
        go_meet
        refine ⟨[la], _, 1, by rw [HV.out], rfl, by simp, Lib.hid ⟨HEV.out _ HX.out (by omega), HNA.out la, HI2.out.1.alloc _, HI2.out.2.1.alloc _, HI2.out.2.2.1.alloc (by simp; omega) _⟩⟩
      have e3 : (lk == 3) = false := by simpa using k3
      by_cases k4 : lk = 4
      · subst k4
        have HX : Hid (nextsL ⟨4, la, lm⟩ nl k = bothL la bh) := Lib.hid (by rw [← HBH.out]; rfl)
        have BO : Hid (∀ W, Calls Tryz.prog 61 #[.int .i64 la, .int .i64 bh] W (BothPost W (bothL la bh))) := Lib.hid (fun W => both_any la bh W)
        have HB2 : Hid ((bothL la bh).length ≤ 2) := Lib.hid (by unfold bothL; repeat (first | split | simp))
        clear k1 k2 k3
        go_wp2_with (go_at_call 61; go_must (refine (BO.out _).mono ?_; rintro e w5 ⟨BA, bc, rfl, hbi, hb5⟩; (have HBI := Lib.hid hbi); (have HB5 := Lib.hid hb5); clear hbi hb5))
        go_meet
        refine ⟨bothL la bh, BA, bc, by rw [HV.out], rfl, HB2.out, Lib.hid ⟨HEV.out _ HX.out (by omega), HBI.out, HI2.out.1.below HB5.out (by simp; omega), HI2.out.2.1.below HB5.out (by simp; omega), HI2.out.2.2.1.trans (HB5.out.mono (by simp; omega))⟩⟩
      have e4 : (lk == 4) = false := by simpa using k4
      by_cases k6 : lk = 6
      · subst k6
        have HX : Hid (nextsL ⟨6, la, lm⟩ nl k = [-1]) := Lib.hid rfl
        clear k1 k2 k3 k4
        go_wp2_with fail
        go_meet
        refine ⟨[-1], _, 1, by rw [HV.out], rfl, by simp, Lib.hid ⟨HEV.out _ HX.out (by omega), HNA.out (-1), HI2.out.1.alloc _, HI2.out.2.1.alloc _, HI2.out.2.2.1.alloc (by simp; omega) _⟩⟩
      have e6 : (lk == 6) = false := by simpa using k6
      by_cases k7 : lk = 7
      · subst k7
        have HF : Hid (evs = []) := Lib.hid (HEN.out (Or.inl rfl))
        clear k1 k2 k3 k4 k6
        go_wp2_with fail
        go_ret
        rw [HF.out]
        exact ⟨none, 0, rfl, Reads.none_, HI2.out.2.2.1⟩
      have e7 : (lk == 7) = false := by simpa using k7
      have HX : Hid (nextsL ⟨lk, la, lm⟩ nl k = [bh]) := Lib.hid (by rw [← HBH.out]; simp [nextsL, k3, k4, k6])
      have HNE : Hid (¬ (lk = 7 ∨ (lk = 2 ∧ v ≠ la))) := Lib.hid (by omega)
      clear k1 k2 k3 k4 k6 k7
      go_wp2_with fail
      go_meet
      refine ⟨[bh], _, 1, by rw [HV.out], rfl, by simp, Lib.hid ⟨HEV.out _ HX.out HNE.out, HI2.out.2.2.2, HI2.out.1, HI2.out.2.1, HI2.out.2.2.1⟩⟩
    case rest =>
      obtain ⟨xs, XA, xc, rfl, rfl, hx2, HC⟩ := hcut
      obtain ⟨hev, hxs, hpl, hln, hbw⟩ := HC.out
      obtain ⟨m, hm⟩ : ∃ m, xs.length = m := ⟨_, rfl⟩
      rw [hm] at hx2 ⊢
      obtain ⟨i0, hi, hz0, hz1, hz2⟩ := info_parts infoEvent
      have HM := Lib.hid hm
      have HEVS := Lib.hid hev
      have HXS := Lib.hid hxs
      have HPL := Lib.hid hpl
      have HLN := Lib.hid hln
      have HBW := Lib.hid hbw
      have hb0 : w.heap.size + 1 + 1 + 1 < wc.heap.size := hln.lt
      clear hm hev hxs hpl hln hbw l0 l1 l2 HI2 HW HC HNA
      obtain ⟨w1, rfl⟩ : ∃ w1 : World, w1 = wc := ⟨_, rfl⟩
      go_wp2_with fail
      go_loopw [11, 66] (fun s11 ix wr => ∃ j : Nat, j ≤ m ∧ ix = .int .i64 j ∧ Hid (wr.ownsRow w1.heap.size 38 5 s11 j (evCells ((xs.take j).map (fun x => (⟨i, k, lm, vv, x⟩ : Ev)))) ∧ Below w1.heap.size w1 wr)) (fun _ ix _ => m - (intOf ix).toNat)
      case atStart => exact ⟨0, by omega, rfl, Lib.hid ⟨World.ownsRow_nil _ _ _ _, Below.refl _ _⟩⟩
      case round =>
        obtain ⟨j, hj, rfl, HR⟩ := hrel
        obtain ⟨hown, hbw⟩ := HR.out
        have hwl : w1.heap.size ≤ wr.heap.size := hbw.size
        by_cases hlt : j < m
        · have hjp : j < xs.length := by rw [HM.out]; exact hlt
          obtain ⟨ad3, rfl, hab3, h0⟩ := (HXS.out.below hbw).at_ hjp
          have HTK : Hid ((xs.take (j + 1)).map (fun x => (⟨i, k, lm, vv, x⟩ : Ev)) = (xs.take j).map (fun x => (⟨i, k, lm, vv, x⟩ : Ev)) ++ [⟨i, k, lm, vv, xs[j]'hjp⟩]) := Lib.hid (by rw [List.take_succ_eq_append_getElem hjp, List.map_append]; rfl)
          generalize xs[j]'hjp = x at *
          have hq := HPL.out.below hbw (by omega)
          have hr := HLN.out.below hbw (by omega)
          have p0 := hq.cell 0
          have p1 := hq.cell 1
          have l2 := hr.cell 2
          have HO := Lib.hid hown
          have HB := Lib.hid hbw
          clear hown hbw hq hr
          go_wp2_with (at_builtin; go_must (refine wpList_append_own _ rfl _ _ 34 rfl w1.heap.size 38 i0 _ 5 40 Tryz.underlying34 hi hz0 hz1 hz2 rfl (by decide) _ _ _ rfl (HO.out.alloc _) ⟨wr.heap.size, 0, none⟩ 1 1 [.int .i64 (i : Int), .int .i64 (k : Int), .int .i64 lm, .int .i64 vv, .int .i64 x] rfl rfl (cells_new_list wr _ _) (by simp [Value.oneCell']) (by unfold maxLen; omega) (by omega) (by simp; omega) ?_; intro v7 w7 hown7 hgr7 _; obtain ⟨A7, c7, rfl⟩ := own_form hown7; (have HO7 := Lib.hid hown7); (have HG7 := Lib.hid hgr7); clear hown7 hgr7))
          have HREL : Hid (w7.ownsRow w1.heap.size 38 5 (.slice A7 (j + 1) c7) (j + 1) (evCells ((xs.take (j + 1)).map (fun x => (⟨i, k, lm, vv, x⟩ : Ev)))) ∧ Below w1.heap.size w1 w7) := Lib.hid (by
            refine ⟨?_, below_own (HB.out.alloc (by omega) _) (HO.out.alloc _) HG7.out (by simp; omega)⟩
            have := HO7.out
            rw [HTK.out, evCells_append]
            exact this)
          go_roundw
          case rel => exact ⟨j + 1, by omega, by go_num, HREL⟩
          case measure => simp [intOf]; omega
        · obtain rfl : j = m := by omega
          obtain ⟨A3, c3, rfl⟩ := own_form hown
          have HO := Lib.hid hown
          have HB := Lib.hid hbw
          clear hown hbw
          go_wp2_with fail
          go_ret
          rw [HEVS.out]
          refine ⟨A3, c3, (by rw [List.length_map, HM.out]; rfl), ?_, HBW.out.trans (HB.out.mono (by omega))⟩
          have := HO.out
          rw [List.take_of_length_le (by rw [HM.out]; exact Nat.le_refl _)] at this
          unfold EvsAt
          rw [List.length_map, HM.out]
          exact Reads.of_own this
end Go.Proofs.YtpkefohcccpncaaGreatDoor
