/- Part of a proof of pruneShows_holds. -/
import Derived.Test.YthhbkabdhkdafaaGreatUBtQ
import Derived.Test.YthhbkabdhkdafaaGreatUBuQ
import Derived.Test.YthhbkabdhkdafaaGreatUBvQ
set_option linter.unusedSimpArgs false
set_option linter.unusedVariables false
set_option maxRecDepth 100000
set_option maxHeartbeats 16000000
namespace Go.Proofs.YthhbkabdhkdafaaGreat
section
open Go.RowKit
theorem dotS_b {y v : List Int} (hy : ∀ x ∈ y, 0 ≤ x ∧ x ≤ 4) (hv : ∀ x ∈ v, 0 ≤ x ∧ x ≤ 3) : ∀ i, i ≤ y.length → i ≤ v.length → 0 ≤ dotS y v i ∧ dotS y v i ≤ (i * 12 : Int)
 | 0, _, _ => by simp [dotS]
 | i + 1, h1, h2 => by
   have a := dotS_b hy hv i (by omega) (by omega)
   have b := bd_getD hy (j := i) (by omega)
   have c := bd_getD hv (j := i) (by omega)
   rw [dotS_succ]
   have h3 := Int.mul_nonneg b.1 c.1
   have h4 := Int.mul_le_mul b.2 c.2 c.1 (by omega)
   omega
theorem shows26_any (A : Option Addr) (n c : Nat) (w : World) (hA : SeedsArg w A n c) : Calls Tryz.prog 4 #[.slice A n c] w (fun e w' => e = .returned (.bool true) ∧ Bw w w') := by
 have NE : Hid (∀ W, Bw w W → Calls Tryz.prog 7 #[.slice A n c] W (PNewPost W)) := Lib.hid (fun W h => pnew_arg W A n c (hA.up h.b))
 have SN : Hid (∀ W, Calls Tryz.prog 6 #[] W fun e w' => e = .returned (.bool true) ∧ Bw W w') := Lib.hid sane26_any
 have ST : Hid (∀ W b, DiceOk W b → Calls Tryz.prog 8 #[.pointer (some ⟨b, 0, none⟩)] W (SteadyPost W b)) := Lib.hid (fun W b h => psteady_any W b h)
 clear hA
 go_enter Tryz.func4, Tryz.ntmps4
 go_upto_region 5 with (first
   | (go_at_call 6; go_must (refine (SN.out _).mono ?_; rintro e w1 ⟨rfl, hb1⟩; (have HB1 := Lib.hid hb1); clear hb1))
   | (go_at_call 7; go_must (refine (NE.out _ HB1.out).mono ?_; rintro e w2 ⟨rfl, hd2, hb2⟩; (have HD2 := Lib.hid hd2); (have HB2 := Lib.hid (And.intro hb2 (HB1.out.trans hb2))); clear hd2 hb2))
   | (go_at_call 8; go_must (refine (ST.out _ _ HD2.out).mono ?_; rintro e w3 ⟨m, sv, pv0, rv0, kv, rfl, hct, hma, hd3, hg3⟩; obtain ⟨A1, c1, A2, c2, A3, c3, A4, c4, rfl, rfl, rfl, rfl⟩ := hma.form; (have HS := Lib.hid (And.intro hct (And.intro hma (And.intro hd3 hg3)))); clear hct hma hd3 hg3)))
 have hw12 : w1.heap.size < w2.heap.size := HD2.out.lt
 have hw1 := HB1.out.size
 have hw23 := HS.out.2.2.2.size
 refine wp_world (fun W => Hid (MAt W (fun g => w1.heap.size < g ∧ g < W.heap.size) (.slice A1 m.ss.length c1) (.slice A2 m.ps.length c2) (.slice A3 m.rs.length c3) (.slice A4 (1 + m.cs.length) c4) m ∧ Blk W w3.heap.size 33 (mdA (.slice A1 m.ss.length c1) (.slice A2 m.ps.length c2) (.slice A3 m.rs.length c3) (.slice A4 (1 + m.cs.length) c4)) ∧ DiceOk W w1.heap.size ∧ Bw w W ∧ w3.heap.size < W.heap.size)) (Lib.hid ⟨HS.out.2.1.keep (fun g hg => ⟨by omega, by simp; omega⟩) (fun p hp => World.cell?_of_block (Below.heap_alloc w3 _ p.block hp.2)), Blk.new w3 _ _, HS.out.2.2.1.al _, (bw_gbM HB2.out.2 HS.out.2.2.2 (fun r e => by injection e with e; omega)).alloc _, by simp⟩) ?_
 have HCT : Hid (CtOk m) := Lib.hid HS.out.1
 have hbm : w1.heap.size < w3.heap.size := by omega
 clear HS NE SN ST HB1 HD2 HB2 hw12 hw23
 intro W5 HW5
 generalize w1.heap.size = b at *
 generalize w3.heap.size = mb at *
 have hnm := HCT.out.sl
 have hpm := HCT.out.pl
 obtain ⟨bl, b0, b1, b2, b3, b4, b5, b6, b7, b8, b9⟩ := HW5.out.2.1.c10
 have CNf := Lib.hid (pconfig_any W5 b HW5.out.2.2.1 A1 A2 A3 A4 m.ss.length m.ps.length m.rs.length (1 + m.cs.length) c1 c2 c3 c4 (by omega) (by omega) (by omega))
 unfold aggM at CNf
 unfold PCfgPost at CNf
 go_upto_region 6 with (go_at_call 12; go_must (refine CNf.out.mono ?_; rintro e w7 ⟨st, xs, s, rfl, hst, hxl, hxb, hkv, hd7, hg7⟩; obtain ⟨KA, kn, kc, rfl, -⟩ := hkv.form; (have HN7 := Lib.hid (And.intro hst (And.intro hxl (And.intro hxb (And.intro hkv (And.intro hd7 hg7)))))); clear hst hxl hxb hkv hd7 hg7))
 have hw7 := HN7.out.2.2.2.2.2.size
 have hmb5 := HW5.out.2.2.2.2
 have hd5 := HW5.out.2.2.1.lt
 refine wp_world (fun W => Hid (MB W W.heap.size (.slice A1 m.ss.length c1) (.slice A2 m.ps.length c2) (.slice A3 m.rs.length c3) (.slice A4 (1 + m.cs.length) c4) m ∧ Blk W mb 33 (mdA (.slice A1 m.ss.length c1) (.slice A2 m.ps.length c2) (.slice A3 m.rs.length c3) (.slice A4 (1 + m.cs.length) c4)) ∧ Blk W w7.heap.size 31 #[.int .i64 0, .slice KA kn kc] ∧ KB W W.heap.size (.slice KA kn kc) (cfgV (st : Int) xs).ks ∧ Bw w W)) (Lib.hid ⟨HW5.out.1.keep (fun g hg => by simp; omega) (fun p hp => (World.cell?_of_block (Below.heap_alloc w7 _ p.block (by omega))).trans (World.cell?_of_block (HN7.out.2.2.2.2.2.block p.block hp.2 (fun e => by injection e with e; omega)))), (gb_blk HW5.out.2.1 HN7.out.2.2.2.2.2 (by omega)).alloc _, Blk.new w7 _ _, HN7.out.2.2.2.1.keep (fun g hg => by simp; omega) (fun p hp => World.cell?_of_block (Below.heap_alloc w7 _ p.block hp.2)), (bw_gbM HW5.out.2.2.2.1 HN7.out.2.2.2.2.2 (fun r e => by injection e with e; omega)).alloc _⟩) ?_
 have HXB : Hid (xs.length = m.ps.length ∧ (∀ x ∈ xs, 0 ≤ x ∧ x ≤ 3) ∧ st < m.ss.length) := Lib.hid ⟨HN7.out.2.1, HN7.out.2.2.1, HN7.out.1⟩
 clear CNf bl b0 b1 b2 b3 b4 b5 b6 b7 b8 b9 HN7 HW5 hw7 hmb5 hd5 hnm
 intro W8 HW8
 generalize w7.heap.size = cb at *
 obtain ⟨hkn, had⟩ := cfg_at HW8.out.2.2.2.1
 subst hkn
 obtain ⟨cad, rfl, hcb, -, hcx⟩ := had
 have hone : oneP 8 m.t (cfgV (st : Int) xs) = true := one_flat.2 ⟨st, xs, rfl, by omega, by have := HXB.out.2.2; omega, HXB.out.1, fun c hc => by have := HXB.out.2.1 c hc; omega⟩
 have CEx := Lib.hid (pnExcess_any m HCT.out (st : Int) xs hone _ _ _ _ _ W8 HW8.out.1 HW8.out.2.2.2.1)
 obtain ⟨bl, b0, b1, b2, b3, b4, b5, b6, b7, b8, b9⟩ := HW8.out.2.1.c10
 obtain ⟨kl, k0, k1⟩ := HW8.out.2.2.1.c2
 unfold aggM at CEx
 have HCX := Lib.hid hcx
 clear hone hcx
 go_upto_region 7 with (go_at_call 11; go_must (refine CEx.out.mono ?_; rintro e w9 ⟨YA, yn, yc, over, rfl, hb9, hc9⟩; (have HB9 := Lib.hid (And.intro hb9 hc9)); clear hb9 hc9))
 clear CEx bl b0 b1 b2 b3 b4 b5 b6 b7 b8 b9 kl k0 k1
 rcases HB9.out.2 with ⟨rfl, rfl, -⟩ | ⟨rfl, y, hyF, hyl, hgt, hown⟩
 · go_wp2_with fail
   go_ret
   exact ⟨rfl, HW8.out.2.2.2.2.trans HB9.out.1⟩
 · subst hyl
   have F := isFlow_of (flowsM_ok HCT.out y hyF)
   have HFL := Lib.hid F
   have HOK : Hid (okFlow (chgT m) m.rs.length y = true) := Lib.hid (flowsM_ok HCT.out y hyF)
   have hyn : y.length = m.ps.length := F.len
   have HYN := Lib.hid hyn
   have HGT := Lib.hid hgt
   have HYI : Hid (∀ W, Bw w9 W → IB W W.heap.size (.slice YA y.length yc) y) := Lib.hid (fun W g => ((own_iat2 hown).keep (S' := fun b => b < w9.heap.size) (fun b hb => hb.2) (fun _ _ => rfl) : IB w9 w9.heap.size _ _).bw g)
   have HB89 := Lib.hid HB9.out.1
   have HMX : Hid (∀ W, Bw w9 W → Calls Tryz.prog 13 #[aggM (.slice A1 m.ss.length c1) (.slice A2 m.ps.length c2) (.slice A3 m.rs.length c3) (.slice A4 (1 + m.cs.length) c4)] W (TrPost W (chgT m))) := Lib.hid (fun W g => qMatrix_any m HCT.out _ _ _ _ W (MAt.bw HW8.out.1 (HB89.out.trans g)))
   have HHO : Hid (∀ v1 W, MxAt W (· < W.heap.size) v1 (chgT m) → Bw w9 W → Calls Tryz.prog 14 #[v1, .slice YA y.length yc] W (BoolPost W true)) := Lib.hid (fun v1 W h g => q11Holds_any (chgT m) m.ps.length m.rs.length (chg_ok HCT.out) y HYN.out HFL.out.bd HFL.out.zr HFL.out.ps v1 _ W h (HYI.out W g))
   have HBM : Hid (∀ W, Bw w9 W → Blk W mb 33 (mdA (.slice A1 m.ss.length c1) (.slice A2 m.ps.length c2) (.slice A3 m.rs.length c3) (.slice A4 (1 + m.cs.length) c4)) ∧ Blk W cb 31 #[.int .i64 0, .slice (some cad) (xs.length + 1) kc]) := Lib.hid (fun W g => ⟨HW8.out.2.1.below (HB89.out.trans g).b HW8.out.2.1.lt, HW8.out.2.2.1.below (HB89.out.trans g).b HW8.out.2.2.1.lt⟩)
   obtain ⟨hmk, mad, hma, hmab, -, hmx⟩ := cfg_at (s := m.st) (cs := m.cs) (c := c4) (n := 1 + m.cs.length) (A := A4) HW8.out.1.k
   subst hma
   have HMXC := Lib.hid hmx
   have HCB : Hid (∀ W, Bw w9 W → (∀ k (hk : k < xs.length), W.cell? (cad.add ((k + 1) * 2)) = some (.int .i64 xs[k])) ∧ ∀ k (hk : k < m.cs.length), W.cell? (mad.add ((k + 1) * 2)) = some (.int .i64 m.cs[k])) := Lib.hid (fun W g => ⟨fun k hk => ((HB89.out.trans g).b.cell (p := cad.add ((k + 1) * 2)) (by rw [add_block]; exact hcb)).trans (HCX.out k hk), fun k hk => ((HB89.out.trans g).b.cell (p := mad.add ((k + 1) * 2)) (by rw [add_block]; exact hmab)).trans (HMXC.out k hk)⟩)
   obtain ⟨bl, b0, b1, b2, b3, b4, b5, b6, b7, b8, b9⟩ := (HBM.out w9 (Bw.refl _)).1.c10
   have HW := Lib.hid (HW8.out.2.2.2.2.trans HB89.out)
   unfold TrPost at HMX
   unfold aggM at HMX
   clear hown hgt hyF hmx hmab hcb hmk HB9 F
   have hlq : y.length ≤ 2 := by rw [hyn]; exact hpm.2
   clear hyn
   go_upto_region 13 with (go_at_call 13; go_must (refine (HMX.out _ (Bw.refl _)).mono ?_; rintro e w10 ⟨TA, tc, rfl, hm10, hg10⟩; (have HM10 := Lib.hid (And.intro (hm10.keep (S' := fun b => b < w10.heap.size) (fun b hb => hb.2) (fun _ _ => rfl)) hg10)); clear hm10 hg10))
   clear bl b0 b1 b2 b3 b4 b5 b6 b7 b8 b9 HMX
   generalize hTl : (chgT m).length = Tl at *
   clear hTl
   go_wp2_with fail
   go_loopw [11, 12, 44] (fun s11 s12 s44 wr => ∃ i : Nat, i ≤ y.length ∧ s44 = .int .i64 (i : Int) ∧ s11 = .int .i64 (dotS y xs i) ∧ s12 = .int .i64 (dotS y m.cs i) ∧ Hid (Bw w10 wr)) (fun _ _ s44 _ => y.length - (intOf s44).toNat)
   case atStart => exact ⟨0, by omega, rfl, rfl, rfl, Lib.hid (Bw.refl _)⟩
   case round =>
     obtain ⟨wo, hwo⟩ : ∃ wo, wo = wr := ⟨_, rfl⟩
     subst hwo
     obtain ⟨i, hi, rfl, rfl, rfl, HB⟩ := hrel
     by_cases hlt : i < y.length
     · have hlt' : (i : Int) < (y.length : Int) := by omega
       have hix : i < xs.length := by rw [HXB.out.1, ← HYN.out]; exact hlt
       have hic : i < m.cs.length := by rw [HCT.out.cl, ← HYN.out]; exact hlt
       have hw1 : Bw w9 wo := HM10.out.2.trans HB.out
       obtain ⟨ya, rfl, -, zy⟩ := (HYI.out wo hw1).at_ hlt
       have zx := (HCB.out wo hw1).1 i hix
       have zc := (HCB.out wo hw1).2 i hic
       obtain ⟨hb1, hb2⟩ := HBM.out wo hw1
       obtain ⟨bl, b0, b1, b2, b3, b4, b5, b6, b7, b8, b9⟩ := hb1.c10
       obtain ⟨kl, k0, k1⟩ := hb2.c2
       have q1 := HFL.out.bd _ (List.getElem_mem hlt)
       have q2 := HXB.out.2.1 _ (List.getElem_mem hix)
       have q3 := HCT.out.c3 _ (List.getElem_mem hic)
       have s1 := dotS_b HFL.out.bd HXB.out.2.1 i (by omega) (by omega)
       have s2 := dotS_b HFL.out.bd HCT.out.c3 i (by omega) (by omega)
       have HS1 : Hid (dotS y xs (i + 1) = dotS y xs i + y[i] * xs[i]) := Lib.hid (by rw [dotS_succ]; simp [List.getD, hlt, hix])
       have HS2 : Hid (dotS y m.cs (i + 1) = dotS y m.cs i + y[i] * m.cs[i]) := Lib.hid (by rw [dotS_succ]; simp [List.getD, hlt, hic])
       have m1 := Int.mul_le_mul q1.2 q2.2 q2.1 (by omega)
       have m2 := Int.mul_nonneg q1.1 q2.1
       have m3 := Int.mul_le_mul q1.2 q3.2 q3.1 (by omega)
       have m4 := Int.mul_nonneg q1.1 q3.1
       generalize dotS y xs i = a0 at *
       generalize dotS y m.cs i = a1 at *
       generalize y[i] = x at *
       generalize xs[i] = u at *
       generalize m.cs[i] = t at *
       have hv1 : IntKind.i64.wrap (x * u) = x * u := IntWalk.i64_in _ (by omega)
       have hv2 : IntKind.i64.wrap (a0 + x * u) = a0 + x * u := IntWalk.i64_in _ (by omega)
       have hv3 : IntKind.i64.wrap (x * t) = x * t := IntWalk.i64_in _ (by omega)
       have hv4 : IntKind.i64.wrap (a1 + x * t) = a1 + x * t := IntWalk.i64_in _ (by omega)
       have hv5 : IntKind.i64.wrap ((i : Int) + 1) = (i : Int) + 1 := IntWalk.i64_in _ (by omega)
       have hx1 : (i : Int) + 1 < (xs.length : Int) + 1 := by omega
       have hx2 : (i : Int) + 1 < 1 + (m.cs.length : Int) := by omega
       have g1 : ∀ p, (wo.drewN p).cell? (ya.add i) = some (.int .i64 x) := fun p => zy
       have g2 : ∀ p, (wo.drewN p).cell? (cad.add ((i + 1) * 2)) = some (.int .i64 u) := fun p => zx
       have g3 : ∀ p, (wo.drewN p).cell? (mad.add ((i + 1) * 2)) = some (.int .i64 t) := fun p => zc
       have g4 : ∀ p, (wo.drewN p).cell? ⟨mb, 9, none⟩ = some (.slice (some mad) (1 + m.cs.length) c4) := fun p => b9
       have g5 : ∀ p, (wo.drewN p).cell? ⟨cb, 1, none⟩ = some (.slice (some cad) (xs.length + 1) kc) := fun p => k1
       clear m1 m2 m3 m4 s1 s2 hb1 hb2
       go_wp2_with fail
       go_quiet (fail)
       go_wp2_with fail
       exact ⟨⟨i + 1, by omega, by go_num, by rw [HS1.out], by rw [HS2.out], Lib.hid (HB.out.trans ((Bw.refl _).drewN _))⟩, by simp [intOf]; omega⟩
     · obtain rfl : i = y.length := by omega
       have CH := Lib.hid (HHO.out _ wo (HM10.out.1.bw HB.out) (HM10.out.2.trans HB.out))
       have hgt2 : dotS y m.cs y.length < dotS y xs y.length := by
         have h1 := dot_getD y m.cs (by rw [HCT.out.cl]; exact HYN.out)
         have h2 := dot_getD y xs (by rw [HXB.out.1]; exact HYN.out)
         have h3 := HGT.out
         rw [h1, h2] at h3
         exact h3
       generalize dotS y m.cs y.length = a1 at *
       generalize dotS y xs y.length = a0 at *
       have hdd : decide (a1 < a0) = true := decide_eq_true hgt2
       go_wp2_with (go_at_call 14; go_must (refine CH.out.mono ?_; rintro e w12 ⟨rfl, hb12⟩; (have HB12 := Lib.hid hb12); clear hb12))
       go_ret
       exact ⟨by simp [hdd], HW.out.trans (HM10.out.2.trans (HB.out.trans HB12.out))⟩
end
end Go.Proofs.YthhbkabdhkdafaaGreat
