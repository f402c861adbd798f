/- Part of a proof of pruneShows_holds. -/
import Derived.Test.YthhbkabdhkdafaaGreatUBmQ
import Derived.Test.YthhbkabdhkdafaaGreatUBkQ
set_option linter.unusedSimpArgs false
set_option linter.unusedVariables false
set_option maxRecDepth 100000
set_option maxHeartbeats 16000000
namespace Go.Proofs.YthhbkabdhkdafaaGreat
section
open Go.RowKit
theorem RgB.ne {W0 W : World} {row : Option Nat} {b : Bool} {k : Nat} (h : RgB W0 row b W) (hk : k ≠ 18) : RgB W0 row (b || k == 18) W := by
 rwa [beq_eq_false_iff_ne.2 hk, Bool.or_false]
theorem apS_bw {row : Option Nat} {j : Nat} {W W' : World} (hj : j ≠ 18) (g : Bw W W') : apS row j W W' := by
 unfold apS; rw [if_neg hj]; exact g
theorem mdPlain1_any (r : Rul) (nd gv : Value) (W : World) (h1 : IB W W.heap.size nd r.need) (h2 : IB W W.heap.size gv r.give) : Calls Tryz.prog 144 (#[aggR r nd gv] ++ #[]) W (BoolPost W false) := by
 obtain ⟨A1, n1, c1, rfl, -⟩ := h1.form
 obtain ⟨A2, n2, c2, rfl, -⟩ := h2.form
 clear h1 h2
 unfold aggR
 generalize r.nm = nm
 generalize r.fr = fr
 generalize r.tz = to9
 go_enter Tryz.func144, Tryz.ntmps144
 go_wp2_with fail
 go_ret
 exact ⟨rfl, (Bw.refl _).alloc _⟩
theorem mdPlain_any (m : Mdl) (sv pv rv kv : Value) (w : World) (h : MB w w.heap.size sv pv rv kv m) : Calls Tryz.prog 87 #[aggM sv pv rv kv] w (BoolPost w true) := by
 obtain ⟨A1, c1, A2, c2, A3, c3, A4, c4, rfl, rfl, rfl, rfl⟩ := h.form
 have CF : Hid (∀ W, Bw w W → Calls Tryz.prog 97 #[.slice A3 m.rs.length c3, .func (.func 144) #[] #[]] W (BoolPost W false)) := Lib.hid (fun W g => contRul_none m.rs 144 #[] (enters_of Tryz.func144 (by kernel_rfl) rfl) _ W (h.r.bw g) (fun r hr nd gv W' _ h1 h2 => mdPlain1_any r nd gv W' h1 h2))
 have BX := Lib.hid (box1 w 33 (mdA (.slice A1 m.ss.length c1) (.slice A2 m.ps.length c2) (.slice A3 m.rs.length c3) (.slice A4 (1 + m.cs.length) c4)))
 clear h
 unfold aggM at *
 unfold mdA at BX
 generalize m.ss.length = n at *
 generalize m.ps.length = k at *
 generalize m.rs.length = q at *
 generalize 1 + m.cs.length = z at *
 go_enter Tryz.func87, Tryz.ntmps87
 go_wp2_with (go_at_call 97; go_must (refine (CF.out _ BX.out.1).mono ?_; rintro e w1 ⟨rfl, hg⟩; (have HG1 := Lib.hid hg); clear hg))
 go_ret
 exact ⟨rfl, BX.out.1.trans HG1.out⟩
theorem mdMatrix_any (m : Mdl) (hct : CtOk m) (sv pv rv kv : Value) (w : World) (h : MB w w.heap.size sv pv rv kv m) : Calls Tryz.prog 49 #[aggM sv pv rv kv] w (TrPost w (chgT m)) := by
 obtain ⟨A1, c1, A2, c2, A3, c3, A4, c4, rfl, rfl, rfl, rfl⟩ := h.form
 have CK : Hid (∀ W, Bw w W → Calls Tryz.prog 53 #[aggM (.slice A1 m.ss.length c1) (.slice A2 m.ps.length c2) (.slice A3 m.rs.length c3) (.slice A4 (1 + m.cs.length) c4)] W (NumPost W 0)) := Lib.hid (fun W g => mdCheck_any m hct.ok hct.nm _ _ _ _ W (h.bw g))
 have CP : Hid (∀ W, Bw w W → Calls Tryz.prog 87 #[aggM (.slice A1 m.ss.length c1) (.slice A2 m.ps.length c2) (.slice A3 m.rs.length c3) (.slice A4 (1 + m.cs.length) c4)] W (BoolPost W true)) := Lib.hid (fun W g => mdPlain_any m _ _ _ _ W (h.bw g))
 have BX := Lib.hid (box1 w 33 (mdA (.slice A1 m.ss.length c1) (.slice A2 m.ps.length c2) (.slice A3 m.rs.length c3) (.slice A4 (1 + m.cs.length) c4)))
 have HR := Lib.hid h.r
 have hp12 := hct.pl
 have hr13 := hct.r1
 have HRU := Lib.hid hct.ru
 have HDN : Hid (mtA m.ps.length m.rs m.ps.length 0 = chgT m) := Lib.hid (mtA_done m)
 have HCL : Hid ((chgT m).length = m.ps.length) := Lib.hid (chg_len m)
 obtain ⟨i1, hi1, hy0, hy1, hy2⟩ := info_parts infoInt
 unfold aggM mdA at *
 generalize hrs : m.rs = rs at *
 generalize m.ss.length = ns at *
 generalize m.ps.length = n at *
 generalize hq : rs.length = q9 at *
 generalize 1 + m.cs.length = z at *
 have HQ := Lib.hid hq
 clear h hct hrs hq
 go_enter Tryz.func49, Tryz.ntmps49
 have hmk := mkRowsJ n (by omega)
 have hq0 : ((q9 : Int) == 0) = false := by simp; omega
 have hq1 : ¬ ((q9 : Int) = 0) := by omega
 go_upto_region 7 with (first
   | (go_at_call 53; go_must (refine (CK.out _ BX.out.1).mono ?_; rintro e w2 ⟨rfl, hg2⟩; (have HG2 := Lib.hid hg2); (obtain ⟨y, y0, y1, y2, y3, y4, y5, y6, y7, y8, y9⟩ := (BX.out.2 _ hg2).2.c10); clear hg2))
   | (go_at_call 87; go_must (refine (CP.out _ (BX.out.1.trans HG2.out)).mono ?_; rintro e w3 ⟨rfl, hg3⟩; (have HG3 := Lib.hid (HG2.out.trans hg3)); clear y y0 y1 y2 y3 y4 y5 y6 y7 y8 y9; (obtain ⟨y, y0, y1, y2, y3, y4, y5, y6, y7, y8, y9⟩ := (BX.out.2 _ (HG2.out.trans hg3)).2.c10); clear hg3)))
 obtain ⟨wb, hwb⟩ : ∃ wb, w.alloc (.cells #[.int .i64 1, .slice A1 ns c1, .slice A2 n c2, .slice none 0 0, .slice none 0 0, .int .i64 0, .int .i64 0, .slice A3 q9 c3, .int .i64 0, .slice A4 z c4] 33) = wb := ⟨_, rfl⟩
 have HWB : Hid (w.heap.size < wb.heap.size) := Lib.hid (by rw [← hwb]; simp)
 refine wp_world (fun W => Hid (∃ vs, vs.length = n ∧ MtI wb W (w3.heap.size + 1) w3.heap.size vs (mtA n rs 0 0))) (Lib.hid ⟨List.replicate n (.slice none 0 0), by simp, by rw [← mtA_zero]; exact MtI.start n (by rw [← hwb]; exact HG3.out)⟩) ?_
 rw [hwb] at BX HG2 HG3
 have HTG : Hid (wb.heap.size ≤ w3.heap.size) := Lib.hid HG3.out.size
 clear CK CP hmk hq0 hq1 hwb HG2 HG3 y y0 y1 y2 y3 y4 y5 y6 y7 y8 y9
 intro W1 HW1
 generalize htg : w3.heap.size = tg at *
 clear htg
 go_wp2_with fail
 go_loopw [29] (fun s29 wr => ∃ i : Nat, i ≤ n ∧ s29 = .int .i64 (i : Int) ∧ Hid (∃ vs, vs.length = n ∧ MtI wb wr (tg + 1) tg vs (mtA n rs i 0))) (fun s29 _ => n - (intOf s29).toNat)
 case atStart => exact ⟨0, by omega, rfl, HW1⟩
 case round =>
   clear HW1
   obtain ⟨wo, hwo⟩ : ∃ wo, wo = wr := ⟨_, rfl⟩
   subst hwo
   obtain ⟨i, hi, rfl, HA⟩ := hrel
   by_cases hin : i < n
   · have hin' : (i : Int) < (n : Int) := by omega
     obtain ⟨vs0, hvl0, hmt0⟩ := HA.out
     have HBo := Lib.hid hmt0.bw
     obtain ⟨y, y0, y1, y2, y3, y4, y5, y6, y7, y8, y9⟩ := (BX.out.2 _ HBo.out).2.c10
     clear hvl0 hmt0
     go_wp2_with fail
     go_loopw [35] (fun s35 wr => ∃ j : Nat, j ≤ q9 ∧ s35 = .int .i64 (j : Int) ∧ Hid (∃ vs, vs.length = n ∧ MtI wb wr (tg + 1) tg vs (mtA n rs i j))) (fun s35 _ => q9 - (intOf s35).toNat)
     case atStart => exact ⟨0, by omega, rfl, HA⟩
     case round =>
       clear HA HBo y y0 y1 y2 y3 y4 y5 y6 y7 y8 y9
       obtain ⟨wi, hwi⟩ : ∃ wi, wi = wr := ⟨_, rfl⟩
       subst hwi
       obtain ⟨j, hj, rfl, HB⟩ := hrel
       by_cases hjq : j < q9
       · have hjq' : (j : Int) < (q9 : Int) := by omega
         have hjr : j < rs.length := by rw [HQ.out]; exact hjq
         obtain ⟨vs, hvl, hmt⟩ := HB.out
         have hrw := HR.out
         obtain ⟨rad, NA, n1x, n1, GA, n2x, n2, rfl, hrb, hri, hnd, hgv⟩ := hrw.at_ hjr
         have R := HRU.out _ (List.getElem_mem hjr)
         obtain rfl : n = n1x := by rw [← hnd.len_]; exact R.nl.symm
         obtain rfl : n = n2x := by rw [← hgv.len_]; exact R.gl.symm
         obtain ⟨nad, rfl, hnb, hn0⟩ := hnd.at_ (k := i) (by rw [R.nl]; exact hin)
         obtain ⟨gad, rfl, hgb, hg0⟩ := hgv.at_ (k := i) (by rw [R.gl]; exact hin)
         have e1 : i < rs[j].need.length := by rw [R.nl]; exact hin
         have e2 : i < rs[j].give.length := by rw [R.gl]; exact hin
         have hni := R.n2 _ (List.getElem_mem e1)
         have hgi := R.g2 _ (List.getElem_mem e2)
         have HD : Hid (chD i rs[j] = rs[j].give[i] - rs[j].need[i]) := Lib.hid (by simp [chD, List.getD, e1, e2])
         have hw1 : Bw w wi := BX.out.1.trans hmt.bw
         have hwz := BX.out.1.size
         have htz := HTG.out
         have x := hri.bw (by rw [add_block]; exact hrb) hw1
         obtain ⟨x0, x1, x2, x3, x4, x5, x6, x7, x8, x9, x10, x11, x12, x13⟩ := x
         have hi1v : i < vs.length := by rw [hvl]; exact hin
         have hi2v : i < (mtA n rs i j).length := by rw [mtA_len]; exact hin
         have hrow := hmt.row i hi1v hi2v
         have hat := mtA_at (j := j) (rs := rs) hin hi2v
         have hXl : ((rs.take j).map (chD i)).length = j := by simp; omega
         rw [hat, hXl] at hrow
         obtain ⟨RA, rc, hve⟩ := own_form hrow
         rw [hve] at hrow
         have hro : ∀ r, (Value.slice RA j rc).ownBlock = some r → tg + 1 ≤ r ∧ r < wi.heap.size := fun r e => hrow.lt r e
         obtain ⟨XS, hXS⟩ : ∃ XS, (rs.take j).map (chD i) = XS := ⟨_, rfl⟩
         rw [hXS] at hrow hat hXl
         have HMT := Lib.hid hmt
         have HCN : Hid (wi.cell? (nad.add i) = some (.int .i64 rs[j].need[i]) ∧ wi.cell? (gad.add i) = some (.int .i64 rs[j].give[i])) := Lib.hid ⟨(hw1.b.cell (p := nad.add i) (by rw [add_block]; exact hnb)).trans hn0, (hw1.b.cell (p := gad.add i) (by rw [add_block]; exact hgb)).trans hg0⟩
         generalize rs[j].need[i] = ni at *
         generalize rs[j].give[i] = gi at *
         generalize rs[j].nm = nm at *
         generalize rs[j].fr = fr at *
         generalize rs[j].tz = to9 at *
         have HVI : Hid (i < vs.length ∧ i < (mtA n rs i j).length ∧ vs.length = n) := Lib.hid ⟨hi1v, hi2v, hvl⟩
         have HVE : Hid (∀ h : i < vs.length, vs[i]'h = .slice RA j rc) := Lib.hid (fun _ => hve)
         have HXS : Hid ((∀ h : i < (mtA n rs i j).length, (mtA n rs i j)[i]'h = XS) ∧ XS.length = j) := Lib.hid ⟨fun _ => hat, hXl⟩
         have HRX := Lib.hid hrow
         have HRO9 := Lib.hid hro
         have hnb' : nad.block < wb.heap.size := by omega
         have hgb' : gad.block < wb.heap.size := by omega
         clear hmt hrow hro hat hXl hXS hve hi1v hi2v hri hnd hgv hrb hn0 hg0 hw1 HB R hrw hvl e1 e2 hnb hgb
         go_upto_region 13 with fail
         have hlbw := HMT.out.bw.size
         refine wp_world (fun W0 => Hid (MtI wb W0 (tg + 1) tg vs (mtA n rs i j) ∧ Blk W0 wi.heap.size 75 #[.string nm, .int .i64 fr, .int .i64 to9, .slice (some nad) n n1, .slice (some gad) n n2, .slice none 0 0, .int .i64 0, .int .i64 0, .int .i64 0, .slice none 0 0, .slice none 0 0, .slice none 0 0, .slice none 0 0, .int .i64 0] ∧ Bw wi W0)) (Lib.hid ⟨HMT.out.keep ((Bw.refl _).alloc _), Blk.new wi _ _, (Bw.refl _).alloc _⟩) ?_
         clear x0 x1 x2 x3 x4 x5 x6 x7 x8 x9 x10 x11 x12 x13
         intro W0 HW0
         have HT := Lib.hid HW0.out.1
         have HROW := Lib.hid (own_kept_below HRX.out HW0.out.2.2.b)
         have hlb9 := HW0.out.2.1.lt
         have HNT : Hid (some tg ≠ (Value.slice RA j rc).ownBlock) := Lib.hid (fun e => by have := HRO9.out tg e.symm; omega)
         have HRO : Hid (∀ r, (Value.slice RA j rc).ownBlock = some r → r < W0.heap.size) := Lib.hid (fun r e => by have := HRO9.out r e; omega)
         have hbs := HW0.out.2.2.size
         have HRC : Hid (∀ b W, RgB W0 (Value.slice RA j rc).ownBlock b W → W.cell? ⟨tg, i, none⟩ = some (.slice RA j rc) ∧ W.cell? ⟨wi.heap.size, 4, none⟩ = some (.slice (some gad) n n2) ∧ W.cell? ⟨wi.heap.size, 3, none⟩ = some (.slice (some nad) n n1) ∧ W.cell? (gad.add i) = some (.int .i64 gi) ∧ W.cell? (nad.add i) = some (.int .i64 ni)) := Lib.hid (fun b W hR => by
           have kk : ∀ p : Addr, p.block < W0.heap.size → (∀ r, (Value.slice RA j rc).ownBlock = some r → r ≠ p.block) → W.cell? p = W0.cell? p := fun p h1 h2 => hR.cell h1 (fun e => h2 _ e.symm rfl)
           have ht := HT.out.tb.lt
           refine ⟨(kk _ ht (fun r e => by have := HRO9.out r e; show r ≠ tg; omega)).trans ?_, (kk _ hlb9 (fun r e => by have := HRO9.out r e; show r ≠ wi.heap.size; omega)).trans (HW0.out.2.1.cell 4), (kk _ hlb9 (fun r e => by have := HRO9.out r e; show r ≠ wi.heap.size; omega)).trans (HW0.out.2.1.cell 3), ?_, ?_⟩
           · rw [HT.out.tb.cell i]
             have := HVE.out HVI.out.1
             simp [HVI.out.1, this]
           · refine (kk _ (by rw [add_block]; omega) (fun r e => by have := HRO9.out r e; rw [add_block]; omega)).trans ((HW0.out.2.2.b.cell (p := gad.add i) (by rw [add_block]; omega)).trans HCN.out.2)
           · refine (kk _ (by rw [add_block]; omega) (fun r e => by have := HRO9.out r e; rw [add_block]; omega)).trans ((HW0.out.2.2.b.cell (p := nad.add i) (by rw [add_block]; omega)).trans HCN.out.1))
         have hw9 : IntKind.i64.wrap (gi - ni) = gi - ni := IntWalk.i64_in _ (by omega)
         have hlx : wi.heap.size = wi.heap.size := rfl
         generalize hlb : wi.heap.size = lb at *
         clear hlb hlx hlbw hbs HMT HCN HRX
         refine wp_region_prodB mixedO 20 (by rfl) (fun i => ([39, 40, 41, 42, 43, 44, 45, 46, 47, 48, 49, 50, 51, 52, 53, 54, 55, 56, 57, 58] : List Nat).getD i 0) (fun i j hi hj => (by decide : ∀ i, i < 20 → ∀ j, j < 20 → ([39, 40, 41, 42, 43, 44, 45, 46, 47, 48, 49, 50, 51, 52, 53, 54, 55, 56, 57, 58] : List Nat).getD i 0 = ([39, 40, 41, 42, 43, 44, 45, 46, 47, 48, 49, 50, 51, 52, 53, 54, 55, 56, 57, 58] : List Nat).getD j 0 → i = j) i hi j hj) (fun i hi => (by decide : ∀ i, i < 20 → ([39, 40, 41, 42, 43, 44, 45, 46, 47, 48, 49, 50, 51, 52, 53, 54, 55, 56, 57, 58] : List Nat).getD i 0 < 62) i hi)
           18 (by decide) (RgB W0 (Value.slice RA j rc).ownBlock) (apS (Value.slice RA j rc).ownBlock) (apV W0 (Value.slice RA j rc).ownBlock (tg + 1) j (intVs XS ++ [.int .i64 (gi - ni)]) (.slice (some ⟨tg, 0, none⟩) n n) (.int .i64 (i : Int)) (.pointer (some ⟨tg, i, none⟩)) (.slice RA j rc) (.pointer (some ⟨lb, 4, none⟩)) (.slice (some gad) n n2) (.pointer (some (gad.add i))) (.int .i64 gi) (.pointer (some ⟨lb, 3, none⟩)) (.slice (some nad) n n1) (.pointer (some (nad.add i))) (.int .i64 ni) (.int .i64 (gi - ni))) RgB.start (fun k j v W W' hk hj hkj h g => apV_st HRO.out k j v W W' hk hj hkj h g) (by kernel_rfl) (by kernel_rfl) ?hstep ?hlast
         case hstep =>
           intro k9x hk9 b a W2 hbf hR hoth hdep K hK
           rcases (by omega : k9x = 0 ∨ k9x = 1 ∨ k9x = 2 ∨ k9x = 3 ∨ k9x = 4 ∨ k9x = 5 ∨ k9x = 6 ∨ k9x = 7 ∨ k9x = 8 ∨ k9x = 9 ∨ k9x = 10 ∨ k9x = 11 ∨ k9x = 12 ∨ k9x = 13 ∨ k9x = 14 ∨ k9x = 15 ∨ k9x = 16 ∨ k9x = 17 ∨ k9x = 18 ∨ k9x = 19) with rfl | rfl | rfl | rfl | rfl | rfl | rfl | rfl | rfl | rfl | rfl | rfl | rfl | rfl | rfl | rfl | rfl | rfl | rfl | rfl
           · refine ⟨_, (by simp only [List.getElem?_toArray, List.getElem?_cons_succ, List.getElem?_cons_zero]; exact rfl), rfl, ?_⟩
             have e0 : a.tmps[5]?.getD undef = .slice (some ⟨tg, 0, none⟩) n n := (hoth 5 (by decide)).trans rfl
             go_simp
             exact hK _ W2 rfl (hR.ne (by decide)) (apS_bw (by decide) (Bw.refl _))
           · refine ⟨_, (by simp only [List.getElem?_toArray, List.getElem?_cons_succ, List.getElem?_cons_zero]; exact rfl), rfl, ?_⟩
             have e0 : a.tmps[6]?.getD undef = .int .i64 (i : Int) := (hoth 6 (by decide)).trans rfl
             go_simp
             exact hK _ W2 rfl (hR.ne (by decide)) (apS_bw (by decide) (Bw.refl _))
           · refine ⟨_, (by simp only [List.getElem?_toArray, List.getElem?_cons_succ, List.getElem?_cons_zero]; exact rfl), rfl, ?_⟩
             have e0 : a.tmps[5]?.getD undef = .slice (some ⟨tg, 0, none⟩) n n := (hoth 5 (by decide)).trans rfl
             go_simp
             exact hK _ W2 rfl (hR.ne (by decide)) (apS_bw (by decide) (Bw.refl _))
           · refine ⟨_, (by simp only [List.getElem?_toArray, List.getElem?_cons_succ, List.getElem?_cons_zero]; exact rfl), rfl, ?_⟩
             have e0 : a.tmps[6]?.getD undef = .int .i64 (i : Int) := (hoth 6 (by decide)).trans rfl
             go_simp
             exact hK _ W2 rfl (hR.ne (by decide)) (apS_bw (by decide) (Bw.refl _))
           · refine ⟨_, (by simp only [List.getElem?_toArray, List.getElem?_cons_succ, List.getElem?_cons_zero]; exact rfl), rfl, ?_⟩
             have e41 : a.tmps[41]?.getD undef = .slice (some ⟨tg, 0, none⟩) n n := hdep 2 (by decide) (by kernel_rfl)
             have e42 : a.tmps[42]?.getD undef = .int .i64 (i : Int) := hdep 3 (by decide) (by kernel_rfl)
             go_simp
             exact hK _ W2 rfl (hR.ne (by decide)) (apS_bw (by decide) (Bw.refl _))
           · refine ⟨_, (by simp only [List.getElem?_toArray, List.getElem?_cons_succ, List.getElem?_cons_zero]; exact rfl), rfl, ?_⟩
             have e43 : a.tmps[43]?.getD undef = .pointer (some ⟨tg, i, none⟩) := hdep 4 (by decide) (by kernel_rfl)
             obtain ⟨y0, y1, y2, y3, y4⟩ := HRC.out b W2 hR
             go_simp
             exact hK _ W2 rfl (hR.ne (by decide)) (apS_bw (by decide) (Bw.refl _))
           · refine ⟨_, (by simp only [List.getElem?_toArray, List.getElem?_cons_succ, List.getElem?_cons_zero]; exact rfl), rfl, ?_⟩
             have e0 : a.tmps[8]?.getD undef = .pointer (some ⟨lb, 0, none⟩) := (hoth 8 (by decide)).trans rfl
             go_simp
             exact hK _ W2 rfl (hR.ne (by decide)) (apS_bw (by decide) (Bw.refl _))
           · refine ⟨_, (by simp only [List.getElem?_toArray, List.getElem?_cons_succ, List.getElem?_cons_zero]; exact rfl), rfl, ?_⟩
             have e45 : a.tmps[45]?.getD undef = .pointer (some ⟨lb, 4, none⟩) := hdep 6 (by decide) (by kernel_rfl)
             obtain ⟨y0, y1, y2, y3, y4⟩ := HRC.out b W2 hR
             go_simp
             exact hK _ W2 rfl (hR.ne (by decide)) (apS_bw (by decide) (Bw.refl _))
           · refine ⟨_, (by simp only [List.getElem?_toArray, List.getElem?_cons_succ, List.getElem?_cons_zero]; exact rfl), rfl, ?_⟩
             have e0 : a.tmps[6]?.getD undef = .int .i64 (i : Int) := (hoth 6 (by decide)).trans rfl
             go_simp
             exact hK _ W2 rfl (hR.ne (by decide)) (apS_bw (by decide) (Bw.refl _))
           · refine ⟨_, (by simp only [List.getElem?_toArray, List.getElem?_cons_succ, List.getElem?_cons_zero]; exact rfl), rfl, ?_⟩
             have e46 : a.tmps[46]?.getD undef = .slice (some gad) n n2 := hdep 7 (by decide) (by kernel_rfl)
             have e47 : a.tmps[47]?.getD undef = .int .i64 (i : Int) := hdep 8 (by decide) (by kernel_rfl)
             go_simp
             exact hK _ W2 rfl (hR.ne (by decide)) (apS_bw (by decide) (Bw.refl _))
           · refine ⟨_, (by simp only [List.getElem?_toArray, List.getElem?_cons_succ, List.getElem?_cons_zero]; exact rfl), rfl, ?_⟩
             have e48 : a.tmps[48]?.getD undef = .pointer (some (gad.add i)) := hdep 9 (by decide) (by kernel_rfl)
             obtain ⟨y0, y1, y2, y3, y4⟩ := HRC.out b W2 hR
             go_simp
             exact hK _ W2 rfl (hR.ne (by decide)) (apS_bw (by decide) (Bw.refl _))
           · refine ⟨_, (by simp only [List.getElem?_toArray, List.getElem?_cons_succ, List.getElem?_cons_zero]; exact rfl), rfl, ?_⟩
             have e0 : a.tmps[8]?.getD undef = .pointer (some ⟨lb, 0, none⟩) := (hoth 8 (by decide)).trans rfl
             go_simp
             exact hK _ W2 rfl (hR.ne (by decide)) (apS_bw (by decide) (Bw.refl _))
           · refine ⟨_, (by simp only [List.getElem?_toArray, List.getElem?_cons_succ, List.getElem?_cons_zero]; exact rfl), rfl, ?_⟩
             have e50 : a.tmps[50]?.getD undef = .pointer (some ⟨lb, 3, none⟩) := hdep 11 (by decide) (by kernel_rfl)
             obtain ⟨y0, y1, y2, y3, y4⟩ := HRC.out b W2 hR
             go_simp
             exact hK _ W2 rfl (hR.ne (by decide)) (apS_bw (by decide) (Bw.refl _))
           · refine ⟨_, (by simp only [List.getElem?_toArray, List.getElem?_cons_succ, List.getElem?_cons_zero]; exact rfl), rfl, ?_⟩
             have e0 : a.tmps[6]?.getD undef = .int .i64 (i : Int) := (hoth 6 (by decide)).trans rfl
             go_simp
             exact hK _ W2 rfl (hR.ne (by decide)) (apS_bw (by decide) (Bw.refl _))
           · refine ⟨_, (by simp only [List.getElem?_toArray, List.getElem?_cons_succ, List.getElem?_cons_zero]; exact rfl), rfl, ?_⟩
             have e51 : a.tmps[51]?.getD undef = .slice (some nad) n n1 := hdep 12 (by decide) (by kernel_rfl)
             have e52 : a.tmps[52]?.getD undef = .int .i64 (i : Int) := hdep 13 (by decide) (by kernel_rfl)
             go_simp
             exact hK _ W2 rfl (hR.ne (by decide)) (apS_bw (by decide) (Bw.refl _))
           · refine ⟨_, (by simp only [List.getElem?_toArray, List.getElem?_cons_succ, List.getElem?_cons_zero]; exact rfl), rfl, ?_⟩
             have e53 : a.tmps[53]?.getD undef = .pointer (some (nad.add i)) := hdep 14 (by decide) (by kernel_rfl)
             obtain ⟨y0, y1, y2, y3, y4⟩ := HRC.out b W2 hR
             go_simp
             exact hK _ W2 rfl (hR.ne (by decide)) (apS_bw (by decide) (Bw.refl _))
           · refine ⟨_, (by simp only [List.getElem?_toArray, List.getElem?_cons_succ, List.getElem?_cons_zero]; exact rfl), rfl, ?_⟩
             have e49 : a.tmps[49]?.getD undef = .int .i64 gi := hdep 10 (by decide) (by kernel_rfl)
             have e54 : a.tmps[54]?.getD undef = .int .i64 ni := hdep 15 (by decide) (by kernel_rfl)
             go_simp
             exact hK _ W2 rfl (hR.ne (by decide)) (apS_bw (by decide) (Bw.refl _))
           · refine ⟨_, (by simp only [List.getElem?_toArray, List.getElem?_cons_succ, List.getElem?_cons_zero]; exact rfl), rfl, ?_⟩
             have e55 : a.tmps[55]?.getD undef = .int .i64 (gi - ni) := hdep 16 (by decide) (by kernel_rfl)
             go_simp
             exact hK _ _ ⟨W2.heap.size, rfl, Blk.new W2 _ _, hR.size⟩ ((hR.bw ((Bw.refl _).alloc _)).ne (by decide)) (apS_bw (by decide) ((Bw.refl _).alloc _))
           · refine ⟨_, (by simp only [List.getElem?_toArray, List.getElem?_cons_succ, List.getElem?_cons_zero]; exact rfl), rfl, ?_⟩
             have e44 : a.tmps[44]?.getD undef = .slice RA j rc := hdep 5 (by decide) (by kernel_rfl)
             obtain ⟨g, e56, hbg, hlg⟩ : ∃ g, a.tmps[56]?.getD undef = .slice (some ⟨g, 0, none⟩) 1 1 ∧ Blk W2 g 3 #[.int .i64 (gi - ni)] ∧ W0.heap.size ≤ g := hdep 17 (by decide) (by kernel_rfl)
             obtain rfl : b = false := hbf rfl
             obtain ⟨W9, h1, h2, h3⟩ := hR
             have hB : Bw W0 W2 := h3 rfl
             have hls := HT.out.L.2
             have hsz := hB.size
             refine wp_append_any W2 (.tmp 44) (.tmp 56) 27 rfl (tg + 1) 3 i1 _ 1 8 Tryz.underlying27 hi1 hy0 hy1 hy2 rfl (by decide) (.slice RA j rc) j (intVs XS) (by simp [Act.eval, e44]) (own_kept_below HROW.out hB.b) W2.heap.size (some ⟨g, 0, none⟩) 1 1 [.int .i64 (gi - ni)] (by simp [Act.eval, e56]) (reads_blk (n := 1) hbg hbg.lt rfl) (by simp [Value.oneCell']) (by unfold maxLen; omega) (by omega) (by omega) ?_
             intro v7 w7 hown7 hgr7 hl7
             obtain ⟨A7, c7, rfl⟩ := own_form hown7
             exact hK _ w7 ⟨A7, c7, W2, rfl, hB, hgr7, hown7, hl7⟩ ⟨W2, hB, hgr7, fun h => by simp at h⟩ (by unfold apS; rw [if_pos rfl]; exact hgr7)
           · refine ⟨_, (by simp only [List.getElem?_toArray, List.getElem?_cons_succ, List.getElem?_cons_zero]; exact rfl), rfl, ?_⟩
             have e39 : a.tmps[39]?.getD undef = .slice (some ⟨tg, 0, none⟩) n n := hdep 0 (by decide) (by kernel_rfl)
             have e40 : a.tmps[40]?.getD undef = .int .i64 (i : Int) := hdep 1 (by decide) (by kernel_rfl)
             go_simp
             exact hK _ W2 rfl (hR.ne (by decide)) (apS_bw (by decide) (Bw.refl _))
         case hlast =>
           intro a W2 hdf hsz hR hoth hv
           refine ⟨_, (by simp only [List.getElem?_toArray, List.getElem?_cons_succ, List.getElem?_cons_zero]; exact rfl), rfl, ?_⟩
           obtain ⟨A7, c7, W9, h57, h9a, h9b, h9c, h9d⟩ : ApV W0 (Value.slice RA j rc).ownBlock (tg + 1) j (intVs XS ++ [Value.int .i64 (gi - ni)]) (a.tmps[57]?.getD undef) W2 := hv 18 (by decide)
           have x57 : a.tmps[57]?.getD undef = .slice A7 (j + 1) c7 := h57
           have x58 : a.tmps[58]?.getD undef = .pointer (some ⟨tg, i, none⟩) := hv 19 (by decide)
           have hT9 := HT.out.keep h9a
           have hTB := hT9.tb.grown h9b HNT.out
           have y0 : W2.cell? ⟨tg, i, none⟩ = some (.slice RA j rc) := (HRC.out true W2 hR).1
           have y1 := hTB.frozen i
           have y2 := hTB.lt
           have HP := Lib.hid (hT9.put (c := gi - ni) HVI.out.1 HVI.out.2.1 (v7 := .slice A7 (j + 1) c7) (by rw [HXS.out.1 HVI.out.2.1, HXS.out.2]; exact h9c) (by rw [HVE.out HVI.out.1]; exact h9b) (by rw [HVE.out HVI.out.1]; exact h9d))
           have HSZ := Lib.hid hsz
           have HOT := Lib.hid hoth
           clear hsz hoth hv h57 h9a h9b h9c h9d hT9 hTB hR
           go_simp
           obtain ⟨u39, x39⟩ : ∃ u, a.tmps[39]?.getD undef = u := ⟨_, rfl⟩
           obtain ⟨u40, x40⟩ : ∃ u, a.tmps[40]?.getD undef = u := ⟨_, rfl⟩
           obtain ⟨u41, x41⟩ : ∃ u, a.tmps[41]?.getD undef = u := ⟨_, rfl⟩
           obtain ⟨u42, x42⟩ : ∃ u, a.tmps[42]?.getD undef = u := ⟨_, rfl⟩
           obtain ⟨u43, x43⟩ : ∃ u, a.tmps[43]?.getD undef = u := ⟨_, rfl⟩
           obtain ⟨u44, x44⟩ : ∃ u, a.tmps[44]?.getD undef = u := ⟨_, rfl⟩
           obtain ⟨u45, x45⟩ : ∃ u, a.tmps[45]?.getD undef = u := ⟨_, rfl⟩
           obtain ⟨u46, x46⟩ : ∃ u, a.tmps[46]?.getD undef = u := ⟨_, rfl⟩
           obtain ⟨u47, x47⟩ : ∃ u, a.tmps[47]?.getD undef = u := ⟨_, rfl⟩
           obtain ⟨u48, x48⟩ : ∃ u, a.tmps[48]?.getD undef = u := ⟨_, rfl⟩
           obtain ⟨u49, x49⟩ : ∃ u, a.tmps[49]?.getD undef = u := ⟨_, rfl⟩
           obtain ⟨u50, x50⟩ : ∃ u, a.tmps[50]?.getD undef = u := ⟨_, rfl⟩
           obtain ⟨u51, x51⟩ : ∃ u, a.tmps[51]?.getD undef = u := ⟨_, rfl⟩
           obtain ⟨u52, x52⟩ : ∃ u, a.tmps[52]?.getD undef = u := ⟨_, rfl⟩
           obtain ⟨u53, x53⟩ : ∃ u, a.tmps[53]?.getD undef = u := ⟨_, rfl⟩
           obtain ⟨u54, x54⟩ : ∃ u, a.tmps[54]?.getD undef = u := ⟨_, rfl⟩
           obtain ⟨u55, x55⟩ : ∃ u, a.tmps[55]?.getD undef = u := ⟨_, rfl⟩
           obtain ⟨u56, x56⟩ : ∃ u, a.tmps[56]?.getD undef = u := ⟨_, rfl⟩
           have ha := fold_all [39, 40, 41, 42, 43, 44, 45, 46, 47, 48, 49, 50, 51, 52, 53, 54, 55, 56, 57, 58] 20 rfl hdf HSZ.out (fun d h => (by decide : ∀ d ∈ ([39, 40, 41, 42, 43, 44, 45, 46, 47, 48, 49, 50, 51, 52, 53, 54, 55, 56, 57, 58] : List Nat), d < 62) d h) HOT.out
           simp only [List.map_cons, List.map_nil, List.foldl_cons, List.foldl_nil, x39, x40, x41, x42, x43, x44, x45, x46, x47, x48, x49, x50, x51, x52, x53, x54, x55, x56, x57, x58, put_mk, List.setIfInBounds_toArray, List.set_cons_succ, List.set_cons_zero] at ha
           clear x39 x40 x41 x42 x43 x44 x45 x46 x47 x48 x49 x50 x51 x52 x53 x54 x55 x56 x57 x58 HSZ HOT hdf
           rw [ha]
           clear ha
           go_wp2_with fail
           have hp := HP.out
           rw [← HD.out] at hp
           exact ⟨⟨j + 1, by omega, by go_num, Lib.hid ⟨vs.set i (.slice A7 (j + 1) c7), by rw [List.length_set]; exact HVI.out.2.2, by rw [← mtA_set hin hjr (by rw [mtA_len]; exact hin)]; exact hp⟩⟩, by simp [intOf]; omega⟩
       · obtain rfl : j = q9 := by omega
         have HE : Hid (mtA n rs i j = mtA n rs (i + 1) 0) := Lib.hid (by rw [← mtA_row, HQ.out])
         go_wp2_with fail
         have hb := HB.out
         rw [HE.out] at hb
         exact ⟨⟨i + 1, by omega, by go_num, Lib.hid hb⟩, by simp [intOf]; omega⟩
   · obtain rfl : i = n := by omega
     go_wp2_with fail
     go_ret2
     obtain ⟨vs, hvl, hmt⟩ := HA.out
     rw [HDN.out] at hmt
     have hz := hmt.bw
     have hat := hmt.at_ (by omega)
     have hb := BX.out.1.trans hz
     have hsz := BX.out.1.size
     rw [hvl] at hat
     unfold TrPost
     rw [HCL.out]
     exact ⟨_, _, rfl, hat.keep (fun b hb => ⟨by omega, hb.2⟩) (fun _ _ => rfl), hb⟩
end
end Go.Proofs.YthhbkabdhkdafaaGreat
