/- Part of a proof of pruneShows_holds. -/
import Derived.Test.YthhbkabdhkdafaaGreatUBoQ
import Derived.Test.YthhbkabdhkdafaaGreatUBrQ
set_option linter.unusedSimpArgs false
set_option linter.unusedVariables false
set_option maxRecDepth 100000
set_option maxHeartbeats 16000000
namespace Go.Proofs.YthhbkabdhkdafaaGreat
section
open Go.RowKit
theorem qMatrix_any (m : Mdl) (hct : CtOk m) (sv pv rv kv : Value) (w : World) (h : MB w w.heap.size sv pv rv kv m) : Calls Tryz.prog 13 #[aggM sv pv rv kv] w (TrPost w (chgT m)) := by
 obtain ⟨A1, c1, A2, c2, A3, c3, A4, c4, rfl, rfl, rfl, rfl⟩ := h.form
 have CK : Hid (∀ W, Bw w W → Calls Tryz.prog 34 #[aggM (.slice A1 m.ss.length c1) (.slice A2 m.ps.length c2) (.slice A3 m.rs.length c3) (.slice A4 (1 + m.cs.length) c4)] W (NumPost W 0)) := Lib.hid (fun W g => qCheck_any m hct.ok hct.nm _ _ _ _ W (h.bw g))
 have BX := Lib.hid (box1 w 33 (mdA (.slice A1 m.ss.length c1) (.slice A2 m.ps.length c2) (.slice A3 m.rs.length c3) (.slice A4 (1 + m.cs.length) c4)))
 have HR := Lib.hid h.r
 have hp12 := hct.pl
 have hr13 := hct.r1
 have HRU := Lib.hid hct.ru
 have HDN : Hid (mtB m.ps.length m.rs m.rs.length 0 = chgT m) := Lib.hid (mtB_done m)
 have HCL : Hid ((chgT m).length = m.ps.length) := Lib.hid (chg_len m)
 obtain ⟨i1, hi1, hy0, hy1, hy2⟩ := info_parts infoInt
 unfold aggM mdA at *
 generalize hrs : m.rs = rs at *
 generalize m.ss.length = ns at *
 generalize m.ps.length = n at *
 generalize hq : rs.length = q9 at *
 generalize 1 + m.cs.length = z at *
 have HQ := Lib.hid hq
 clear h hct hrs hq
 go_enter Tryz.func13, Tryz.ntmps13
 have hmk := mkRowsJ n (by omega)
 have hq0 : ((q9 : Int) == 0) = false := beq_eq_false_iff_ne.2 (by omega)
 have hq1 : ¬ ((q9 : Int) = 0) := by omega
 go_upto_region 7 with (go_at_call 34; go_must (refine (CK.out _ BX.out.1).mono ?_; rintro e w3 ⟨rfl, hg3⟩; (have HG3 := Lib.hid hg3); (obtain ⟨y, y0, y1, y2, y3, y4, y5, y6, y7, y8, y9⟩ := (BX.out.2 _ hg3).2.c10); clear hg3))
 obtain ⟨wb, hwb⟩ : ∃ wb, w.alloc (.cells #[.int .i64 1, .slice A1 ns c1, .slice A2 n c2, .slice none 0 0, .slice none 0 0, .int .i64 0, .int .i64 0, .slice A3 q9 c3, .int .i64 0, .slice A4 z c4] 33) = wb := ⟨_, rfl⟩
 have HWB : Hid (w.heap.size < wb.heap.size) := Lib.hid (by rw [← hwb]; simp)
 refine wp_world (fun W => Hid (∃ vs, vs.length = n ∧ MtI wb W (w3.heap.size + 1) w3.heap.size vs (mtB n rs 0 0))) (Lib.hid ⟨List.replicate n (.slice none 0 0), by simp, by rw [← mtB_zero]; exact MtI.start n (by rw [← hwb]; exact HG3.out)⟩) ?_
 rw [hwb] at BX HG3
 have HTG : Hid (wb.heap.size ≤ w3.heap.size) := Lib.hid HG3.out.size
 clear CK hmk hq0 hq1 hwb HG3 y y0 y1 y2 y3 y4 y5 y6 y7 y8 y9
 intro W1 HW1
 generalize htg : w3.heap.size = tg at *
 clear htg
 go_wp2_with fail
 go_loopw [6] (fun s6 wr => ∃ i : Nat, i ≤ q9 ∧ s6 = .int .i64 (i : Int) ∧ Hid (∃ vs, vs.length = n ∧ MtI wb wr (tg + 1) tg vs (mtB n rs i 0))) (fun s6 _ => q9 - (intOf s6).toNat)
 case atStart => exact ⟨0, by omega, rfl, HW1⟩
 case round =>
   clear HW1
   obtain ⟨wo, hwo⟩ : ∃ wo, wo = wr := ⟨_, rfl⟩
   subst hwo
   obtain ⟨i, hi, rfl, HA⟩ := hrel
   obtain ⟨vs0, hvl0, hmt0⟩ := HA.out
   have HBo := Lib.hid hmt0.bw
   have HM0 := Lib.hid (And.intro hvl0 hmt0)
   clear hvl0 hmt0 HA
   obtain ⟨y, y0, y1, y2, y3, y4, y5, y6, y7, y8, y9⟩ := (BX.out.2 _ HBo.out).2.c10
   by_cases hiq : i < q9
   · have hiq' : (i : Int) < (q9 : Int) := by omega
     have hir : i < rs.length := by rw [HQ.out]; exact hiq
     obtain ⟨rad, NA, n1x, n1, GA, n2x, n2, rfl, hrb, hri, hnd, hgv⟩ := HR.out.at_ hir
     have R := HRU.out _ (List.getElem_mem hir)
     obtain rfl : n = n1x := by rw [← hnd.len_]; exact R.nl.symm
     obtain rfl : n = n2x := by rw [← hgv.len_]; exact R.gl.symm
     obtain ⟨nad, rfl, hnb, -⟩ := hnd.at_ (k := 0) (by rw [R.nl]; omega)
     obtain ⟨gad, rfl, hgb, -⟩ := hgv.at_ (k := 0) (by rw [R.gl]; omega)
     have hw1 : Bw w wo := BX.out.1.trans HBo.out
     have hwz := BX.out.1.size
     have htz := HTG.out
     have x := hri.bw (by rw [add_block]; exact hrb) hw1
     obtain ⟨x0, x1, x2, x3, x4, x5, x6, x7, x8, x9, x10, x11, x12, x13⟩ := x
     have HNG := Lib.hid (And.intro hnd hgv)
     have HRR := Lib.hid R
     have hnb' : nad.block < wb.heap.size := by omega
     have hgb' : gad.block < wb.heap.size := by omega
     clear hri hnd hgv hrb hw1 R hnb hgb
     generalize hrj : rs[i] = rj at *
     have HRJ : Hid (∀ h : i < rs.length, rs[i]'h = rj) := Lib.hid (fun _ => hrj)
     clear hrj
     generalize rj.nm = nm at *
     generalize rj.fr = fr at *
     generalize rj.tz = to9 at *
     go_upto_region 11 with fail
     refine wp_world (fun W => Hid (Bw wo W ∧ Blk W wo.heap.size 75 #[.string nm, .int .i64 fr, .int .i64 to9, .slice (some nad) n n1, .slice (some gad) n n2, .slice none 0 0, .int .i64 0, .int .i64 0, .int .i64 0, .slice none 0 0, .slice none 0 0, .slice none 0 0, .slice none 0 0, .int .i64 0])) (Lib.hid ⟨(Bw.refl _).alloc _, Blk.new wo _ _⟩) ?_
     clear x0 x1 x2 x3 x4 x5 x6 x7 x8 x9 x10 x11 x12 x13 y y0 y1 y2 y3 y4 y5 y6 y7 y8 y9
     intro W4 HW4
     have hlbo : tg < wo.heap.size := HM0.out.2.tb.lt
     obtain ⟨xl, x0, x1, x2, x3, x4, x5, x6, x7, x8, x9, x10, x11, x12, x13⟩ := HW4.out.2.c14
     have HM4 : Hid (MtI wb W4 (tg + 1) tg vs0 (mtB n rs i 0)) := Lib.hid (HM0.out.2.keep HW4.out.1)
     generalize hlb : wo.heap.size = lb at *
     clear hlb
     have hltg : tg < lb := hlbo
     go_wp2_with fail
     clear xl x0 x1 x2 x3 x4 x5 x6 x7 x8 x9 x10 x11 x12 x13
     go_loopw [8] (fun s8 wr => ∃ k : Nat, k ≤ n ∧ s8 = .int .i64 (k : Int) ∧ Hid (Blk wr lb 75 #[.string nm, .int .i64 fr, .int .i64 to9, .slice (some nad) n n1, .slice (some gad) n n2, .slice none 0 0, .int .i64 0, .int .i64 0, .int .i64 0, .slice none 0 0, .slice none 0 0, .slice none 0 0, .slice none 0 0, .int .i64 0] ∧ ∃ vs, vs.length = n ∧ MtI wb wr (tg + 1) tg vs (mtB n rs i k))) (fun s8 _ => n - (intOf s8).toNat)
     case atStart => exact ⟨0, by omega, rfl, Lib.hid ⟨HW4.out.2, vs0, HM0.out.1, HM4.out⟩⟩
     case round =>
       clear HM4
       obtain ⟨wi, hwi⟩ : ∃ wi, wi = wr := ⟨_, rfl⟩
       subst hwi
       obtain ⟨k, hk, rfl, HB⟩ := hrel
       by_cases hkn : k < n
       · have hkn' : (k : Int) < (n : Int) := by omega
         obtain ⟨hlbk, vs, hvl, hmt⟩ := HB.out
         have e1 : k < rj.need.length := by rw [HRR.out.nl]; exact hkn
         have e2 : k < rj.give.length := by rw [HRR.out.gl]; exact hkn
         obtain ⟨nad', en, hnb2, hn0⟩ := HNG.out.1.at_ e1
         obtain ⟨gad', eg, hgb2, hg0⟩ := HNG.out.2.at_ e2
         injection en with en
         injection eg with eg
         subst en eg
         have hni := HRR.out.n2 _ (List.getElem_mem e1)
         have hgi := HRR.out.g2 _ (List.getElem_mem e2)
         have HD : Hid (chD k (rs[i]'hir) = rj.give[k] - rj.need[k]) := Lib.hid (by rw [HRJ.out hir]; simp [chD, List.getD, e1, e2])
         have hw1 : Bw w wi := BX.out.1.trans hmt.bw
         have hi1v : k < vs.length := by rw [hvl]; exact hkn
         have hi2v : k < (mtB n rs i k).length := by rw [mtB_len]; exact hkn
         have hrow := hmt.row k hi1v hi2v
         have hat := mtB_at (i := i) (rs := rs) hkn hi2v
         have hXl : ((rs.take i).map (chD k)).length = i := by simp; omega
         rw [hat, hXl] at hrow
         obtain ⟨RA, rc, hve⟩ := own_form hrow
         rw [hve] at hrow
         have hneq := own_blk_ne hrow hlbk (by decide)
         have hro : ∀ r, (Value.slice RA i rc).ownBlock = some r → tg + 1 ≤ r ∧ r ≠ lb ∧ r < wi.heap.size := fun r e => ⟨(hrow.lt r e).1, fun e2 => by subst e2; first | exact hneq e | exact hneq e.symm, (hrow.lt r e).2⟩
         obtain ⟨XS, hXS⟩ : ∃ XS, (rs.take i).map (chD k) = XS := ⟨_, rfl⟩
         rw [hXS] at hrow hat hXl
         have HT := Lib.hid hmt
         have hzn : nad.block < wi.heap.size := by have := hmt.bw.size; omega
         have hzg : gad.block < wi.heap.size := by have := hmt.bw.size; omega
         have HCN : Hid (wi.cell? (nad.add k) = some (.int .i64 rj.need[k]) ∧ wi.cell? (gad.add k) = some (.int .i64 rj.give[k])) := Lib.hid ⟨(hw1.b.cell (p := nad.add k) (by rw [add_block]; exact hnb2)).trans hn0, (hw1.b.cell (p := gad.add k) (by rw [add_block]; exact hgb2)).trans hg0⟩
         generalize rj.need[k] = ni at *
         generalize rj.give[k] = gi at *
         have HVI : Hid (k < vs.length ∧ k < (mtB n rs i k).length ∧ vs.length = n) := Lib.hid ⟨hi1v, hi2v, hvl⟩
         have HVE : Hid (∀ h : k < vs.length, vs[k]'h = .slice RA i rc) := Lib.hid (fun _ => hve)
         have HXS : Hid ((∀ h : k < (mtB n rs i k).length, (mtB n rs i k)[k]'h = XS) ∧ XS.length = i) := Lib.hid ⟨fun _ => hat, hXl⟩
         have HROW := Lib.hid hrow
         have HRO9 := Lib.hid hro
         have HLB := Lib.hid hlbk
         have hlbl := hlbk.lt
         have HNT : Hid (some tg ≠ (Value.slice RA i rc).ownBlock) := Lib.hid (fun e => by have := HRO9.out tg e.symm; omega)
         have HRO : Hid (∀ r, (Value.slice RA i rc).ownBlock = some r → r < wi.heap.size) := Lib.hid (fun r e => (HRO9.out r e).2.2)
         have HRC : Hid (∀ b W, RgB wi (Value.slice RA i rc).ownBlock b W → W.cell? ⟨tg, k, none⟩ = some (.slice RA i rc) ∧ W.cell? ⟨lb, 4, none⟩ = some (.slice (some gad) n n2) ∧ W.cell? ⟨lb, 3, none⟩ = some (.slice (some nad) n n1) ∧ W.cell? (gad.add k) = some (.int .i64 gi) ∧ W.cell? (nad.add k) = some (.int .i64 ni)) := Lib.hid (fun b W hR => by
           have kk : ∀ p : Addr, p.block < wi.heap.size → (∀ r, (Value.slice RA i rc).ownBlock = some r → r ≠ p.block) → W.cell? p = wi.cell? p := fun p h1 h2 => hR.cell h1 (fun e => h2 _ e.symm rfl)
           have ht := HT.out.tb.lt
           refine ⟨(kk _ ht (fun r e => by have := HRO9.out r e; show r ≠ tg; omega)).trans ?_, (kk _ hlbl (fun r e => (HRO9.out r e).2.1)).trans (HLB.out.cell 4), (kk _ hlbl (fun r e => (HRO9.out r e).2.1)).trans (HLB.out.cell 3), ?_, ?_⟩
           · rw [HT.out.tb.cell k]
             have := HVE.out HVI.out.1
             simp [HVI.out.1, this]
           · exact (kk _ (by rw [add_block]; omega) (fun r e => by have := HRO9.out r e; rw [add_block]; omega)).trans HCN.out.2
           · exact (kk _ (by rw [add_block]; omega) (fun r e => by have := HRO9.out r e; rw [add_block]; omega)).trans HCN.out.1)
         have hw9 : IntKind.i64.wrap (gi - ni) = gi - ni := IntWalk.i64_in _ (by omega)
         clear hmt hrow hro hat hXl hXS hve hi1v hi2v hw1 HB hvl e1 e2 hn0 hg0 hnb2 hgb2 hneq hlbk HCN
         go_upto_region 16 with fail
         refine wp_region_prodB mixedO 20 (by rfl) (fun i => ([49, 50, 51, 52, 53, 54, 55, 56, 57, 58, 59, 60, 61, 62, 63, 64, 65, 66, 67, 68] : List Nat).getD i 0) (fun i j hi hj => (by decide : ∀ i, i < 20 → ∀ j, j < 20 → ([49, 50, 51, 52, 53, 54, 55, 56, 57, 58, 59, 60, 61, 62, 63, 64, 65, 66, 67, 68] : List Nat).getD i 0 = ([49, 50, 51, 52, 53, 54, 55, 56, 57, 58, 59, 60, 61, 62, 63, 64, 65, 66, 67, 68] : List Nat).getD j 0 → i = j) i hi j hj) (fun i hi => (by decide : ∀ i, i < 20 → ([49, 50, 51, 52, 53, 54, 55, 56, 57, 58, 59, 60, 61, 62, 63, 64, 65, 66, 67, 68] : List Nat).getD i 0 < 70) i hi)
           18 (by decide) (RgB wi (Value.slice RA i rc).ownBlock) (apS (Value.slice RA i rc).ownBlock) (apV wi (Value.slice RA i rc).ownBlock (tg + 1) i (intVs XS ++ [.int .i64 (gi - ni)]) (.slice (some ⟨tg, 0, none⟩) n n) (.int .i64 (k : Int)) (.pointer (some ⟨tg, k, none⟩)) (.slice RA i rc) (.pointer (some ⟨lb, 4, none⟩)) (.slice (some gad) n n2) (.pointer (some (gad.add k))) (.int .i64 gi) (.pointer (some ⟨lb, 3, none⟩)) (.slice (some nad) n n1) (.pointer (some (nad.add k))) (.int .i64 ni) (.int .i64 (gi - ni))) RgB.start (fun k j v W W' hk hj hkj h g => apV_st HRO.out k j v W W' hk hj hkj h g) (by kernel_rfl) (by kernel_rfl) ?hstep ?hlast
         case hstep =>
           intro k9x hk9 b a W2 hbf hR hoth hdep K hK
           rcases (by omega : k9x = 0 ∨ k9x = 1 ∨ k9x = 2 ∨ k9x = 3 ∨ k9x = 4 ∨ k9x = 5 ∨ k9x = 6 ∨ k9x = 7 ∨ k9x = 8 ∨ k9x = 9 ∨ k9x = 10 ∨ k9x = 11 ∨ k9x = 12 ∨ k9x = 13 ∨ k9x = 14 ∨ k9x = 15 ∨ k9x = 16 ∨ k9x = 17 ∨ k9x = 18 ∨ k9x = 19) with rfl | rfl | rfl | rfl | rfl | rfl | rfl | rfl | rfl | rfl | rfl | rfl | rfl | rfl | rfl | rfl | rfl | rfl | rfl | rfl
           · refine ⟨_, (by simp only [List.getElem?_toArray, List.getElem?_cons_succ, List.getElem?_cons_zero]; exact rfl), rfl, ?_⟩
             have e0 : a.tmps[5]?.getD undef = .slice (some ⟨tg, 0, none⟩) n n := (hoth 5 (by decide)).trans rfl
             go_simp
             exact hK _ W2 rfl (hR.ne (by decide)) (apS_bw (by decide) (Bw.refl _))
           · refine ⟨_, (by simp only [List.getElem?_toArray, List.getElem?_cons_succ, List.getElem?_cons_zero]; exact rfl), rfl, ?_⟩
             have e0 : a.tmps[8]?.getD undef = .int .i64 (k : Int) := (hoth 8 (by decide)).trans rfl
             go_simp
             exact hK _ W2 rfl (hR.ne (by decide)) (apS_bw (by decide) (Bw.refl _))
           · refine ⟨_, (by simp only [List.getElem?_toArray, List.getElem?_cons_succ, List.getElem?_cons_zero]; exact rfl), rfl, ?_⟩
             have e0 : a.tmps[5]?.getD undef = .slice (some ⟨tg, 0, none⟩) n n := (hoth 5 (by decide)).trans rfl
             go_simp
             exact hK _ W2 rfl (hR.ne (by decide)) (apS_bw (by decide) (Bw.refl _))
           · refine ⟨_, (by simp only [List.getElem?_toArray, List.getElem?_cons_succ, List.getElem?_cons_zero]; exact rfl), rfl, ?_⟩
             have e0 : a.tmps[8]?.getD undef = .int .i64 (k : Int) := (hoth 8 (by decide)).trans rfl
             go_simp
             exact hK _ W2 rfl (hR.ne (by decide)) (apS_bw (by decide) (Bw.refl _))
           · refine ⟨_, (by simp only [List.getElem?_toArray, List.getElem?_cons_succ, List.getElem?_cons_zero]; exact rfl), rfl, ?_⟩
             have e51 : a.tmps[51]?.getD undef = .slice (some ⟨tg, 0, none⟩) n n := hdep 2 (by decide) (by kernel_rfl)
             have e52 : a.tmps[52]?.getD undef = .int .i64 (k : Int) := hdep 3 (by decide) (by kernel_rfl)
             go_simp
             exact hK _ W2 rfl (hR.ne (by decide)) (apS_bw (by decide) (Bw.refl _))
           · refine ⟨_, (by simp only [List.getElem?_toArray, List.getElem?_cons_succ, List.getElem?_cons_zero]; exact rfl), rfl, ?_⟩
             have e53 : a.tmps[53]?.getD undef = .pointer (some ⟨tg, k, none⟩) := hdep 4 (by decide) (by kernel_rfl)
             obtain ⟨y0, y1, y2, y3, y4⟩ := HRC.out b W2 hR
             go_simp
             exact hK _ W2 rfl (hR.ne (by decide)) (apS_bw (by decide) (Bw.refl _))
           · refine ⟨_, (by simp only [List.getElem?_toArray, List.getElem?_cons_succ, List.getElem?_cons_zero]; exact rfl), rfl, ?_⟩
             have e0 : a.tmps[7]?.getD undef = .pointer (some ⟨lb, 0, none⟩) := (hoth 7 (by decide)).trans rfl
             go_simp
             exact hK _ W2 rfl (hR.ne (by decide)) (apS_bw (by decide) (Bw.refl _))
           · refine ⟨_, (by simp only [List.getElem?_toArray, List.getElem?_cons_succ, List.getElem?_cons_zero]; exact rfl), rfl, ?_⟩
             have e55 : a.tmps[55]?.getD undef = .pointer (some ⟨lb, 4, none⟩) := hdep 6 (by decide) (by kernel_rfl)
             obtain ⟨y0, y1, y2, y3, y4⟩ := HRC.out b W2 hR
             go_simp
             exact hK _ W2 rfl (hR.ne (by decide)) (apS_bw (by decide) (Bw.refl _))
           · refine ⟨_, (by simp only [List.getElem?_toArray, List.getElem?_cons_succ, List.getElem?_cons_zero]; exact rfl), rfl, ?_⟩
             have e0 : a.tmps[8]?.getD undef = .int .i64 (k : Int) := (hoth 8 (by decide)).trans rfl
             go_simp
             exact hK _ W2 rfl (hR.ne (by decide)) (apS_bw (by decide) (Bw.refl _))
           · refine ⟨_, (by simp only [List.getElem?_toArray, List.getElem?_cons_succ, List.getElem?_cons_zero]; exact rfl), rfl, ?_⟩
             have e56 : a.tmps[56]?.getD undef = .slice (some gad) n n2 := hdep 7 (by decide) (by kernel_rfl)
             have e57 : a.tmps[57]?.getD undef = .int .i64 (k : Int) := hdep 8 (by decide) (by kernel_rfl)
             go_simp
             exact hK _ W2 rfl (hR.ne (by decide)) (apS_bw (by decide) (Bw.refl _))
           · refine ⟨_, (by simp only [List.getElem?_toArray, List.getElem?_cons_succ, List.getElem?_cons_zero]; exact rfl), rfl, ?_⟩
             have e58 : a.tmps[58]?.getD undef = .pointer (some (gad.add k)) := hdep 9 (by decide) (by kernel_rfl)
             obtain ⟨y0, y1, y2, y3, y4⟩ := HRC.out b W2 hR
             go_simp
             exact hK _ W2 rfl (hR.ne (by decide)) (apS_bw (by decide) (Bw.refl _))
           · refine ⟨_, (by simp only [List.getElem?_toArray, List.getElem?_cons_succ, List.getElem?_cons_zero]; exact rfl), rfl, ?_⟩
             have e0 : a.tmps[7]?.getD undef = .pointer (some ⟨lb, 0, none⟩) := (hoth 7 (by decide)).trans rfl
             go_simp
             exact hK _ W2 rfl (hR.ne (by decide)) (apS_bw (by decide) (Bw.refl _))
           · refine ⟨_, (by simp only [List.getElem?_toArray, List.getElem?_cons_succ, List.getElem?_cons_zero]; exact rfl), rfl, ?_⟩
             have e60 : a.tmps[60]?.getD undef = .pointer (some ⟨lb, 3, none⟩) := hdep 11 (by decide) (by kernel_rfl)
             obtain ⟨y0, y1, y2, y3, y4⟩ := HRC.out b W2 hR
             go_simp
             exact hK _ W2 rfl (hR.ne (by decide)) (apS_bw (by decide) (Bw.refl _))
           · refine ⟨_, (by simp only [List.getElem?_toArray, List.getElem?_cons_succ, List.getElem?_cons_zero]; exact rfl), rfl, ?_⟩
             have e0 : a.tmps[8]?.getD undef = .int .i64 (k : Int) := (hoth 8 (by decide)).trans rfl
             go_simp
             exact hK _ W2 rfl (hR.ne (by decide)) (apS_bw (by decide) (Bw.refl _))
           · refine ⟨_, (by simp only [List.getElem?_toArray, List.getElem?_cons_succ, List.getElem?_cons_zero]; exact rfl), rfl, ?_⟩
             have e61 : a.tmps[61]?.getD undef = .slice (some nad) n n1 := hdep 12 (by decide) (by kernel_rfl)
             have e62 : a.tmps[62]?.getD undef = .int .i64 (k : Int) := hdep 13 (by decide) (by kernel_rfl)
             go_simp
             exact hK _ W2 rfl (hR.ne (by decide)) (apS_bw (by decide) (Bw.refl _))
           · refine ⟨_, (by simp only [List.getElem?_toArray, List.getElem?_cons_succ, List.getElem?_cons_zero]; exact rfl), rfl, ?_⟩
             have e63 : a.tmps[63]?.getD undef = .pointer (some (nad.add k)) := hdep 14 (by decide) (by kernel_rfl)
             obtain ⟨y0, y1, y2, y3, y4⟩ := HRC.out b W2 hR
             go_simp
             exact hK _ W2 rfl (hR.ne (by decide)) (apS_bw (by decide) (Bw.refl _))
           · refine ⟨_, (by simp only [List.getElem?_toArray, List.getElem?_cons_succ, List.getElem?_cons_zero]; exact rfl), rfl, ?_⟩
             have e59 : a.tmps[59]?.getD undef = .int .i64 gi := hdep 10 (by decide) (by kernel_rfl)
             have e64 : a.tmps[64]?.getD undef = .int .i64 ni := hdep 15 (by decide) (by kernel_rfl)
             go_simp
             exact hK _ W2 rfl (hR.ne (by decide)) (apS_bw (by decide) (Bw.refl _))
           · refine ⟨_, (by simp only [List.getElem?_toArray, List.getElem?_cons_succ, List.getElem?_cons_zero]; exact rfl), rfl, ?_⟩
             have e65 : a.tmps[65]?.getD undef = .int .i64 (gi - ni) := hdep 16 (by decide) (by kernel_rfl)
             go_simp
             exact hK _ _ ⟨W2.heap.size, rfl, Blk.new W2 _ _, hR.size⟩ ((hR.bw ((Bw.refl _).alloc _)).ne (by decide)) (apS_bw (by decide) ((Bw.refl _).alloc _))
           · refine ⟨_, (by simp only [List.getElem?_toArray, List.getElem?_cons_succ, List.getElem?_cons_zero]; exact rfl), rfl, ?_⟩
             have e54 : a.tmps[54]?.getD undef = .slice RA i rc := hdep 5 (by decide) (by kernel_rfl)
             obtain ⟨g, e66, hbg, hlg⟩ : ∃ g, a.tmps[66]?.getD undef = .slice (some ⟨g, 0, none⟩) 1 1 ∧ Blk W2 g 3 #[.int .i64 (gi - ni)] ∧ wi.heap.size ≤ g := hdep 17 (by decide) (by kernel_rfl)
             obtain rfl : b = false := hbf rfl
             obtain ⟨W9, h1, h2, h3⟩ := hR
             have hB : Bw wi W2 := h3 rfl
             have hls := HT.out.L.2
             have hsz := hB.size
             refine wp_append_any W2 (.tmp 54) (.tmp 66) 27 rfl (tg + 1) 3 i1 _ 1 8 Tryz.underlying27 hi1 hy0 hy1 hy2 rfl (by decide) (.slice RA i rc) i (intVs XS) (by simp [Act.eval, e54]) (own_kept_below HROW.out hB.b) W2.heap.size (some ⟨g, 0, none⟩) 1 1 [.int .i64 (gi - ni)] (by simp [Act.eval, e66]) (reads_blk (n := 1) hbg hbg.lt rfl) (by simp [Value.oneCell']) (by unfold maxLen; omega) (by omega) (by omega) ?_
             intro v7 w7 hown7 hgr7 hl7
             obtain ⟨A7, c7, rfl⟩ := own_form hown7
             exact hK _ w7 ⟨A7, c7, W2, rfl, hB, hgr7, hown7, hl7⟩ ⟨W2, hB, hgr7, fun h => by simp at h⟩ (by unfold apS; rw [if_pos rfl]; exact hgr7)
           · refine ⟨_, (by simp only [List.getElem?_toArray, List.getElem?_cons_succ, List.getElem?_cons_zero]; exact rfl), rfl, ?_⟩
             have e49 : a.tmps[49]?.getD undef = .slice (some ⟨tg, 0, none⟩) n n := hdep 0 (by decide) (by kernel_rfl)
             have e50 : a.tmps[50]?.getD undef = .int .i64 (k : Int) := hdep 1 (by decide) (by kernel_rfl)
             go_simp
             exact hK _ W2 rfl (hR.ne (by decide)) (apS_bw (by decide) (Bw.refl _))
         case hlast =>
           intro a W2 hdf hsz hR hoth hv
           refine ⟨_, (by simp only [List.getElem?_toArray, List.getElem?_cons_succ, List.getElem?_cons_zero]; exact rfl), rfl, ?_⟩
           obtain ⟨A7, c7, W9, h57, h9a, h9b, h9c, h9d⟩ : ApV wi (Value.slice RA i rc).ownBlock (tg + 1) i (intVs XS ++ [Value.int .i64 (gi - ni)]) (a.tmps[67]?.getD undef) W2 := hv 18 (by decide)
           have x67 : a.tmps[67]?.getD undef = .slice A7 (i + 1) c7 := h57
           have x68 : a.tmps[68]?.getD undef = .pointer (some ⟨tg, k, none⟩) := hv 19 (by decide)
           have hT9 := HT.out.keep h9a
           have hTB := hT9.tb.grown h9b HNT.out
           have y0 : W2.cell? ⟨tg, k, none⟩ = some (.slice RA i rc) := (HRC.out true W2 hR).1
           have y1 := hTB.frozen k
           have y2 := hTB.lt
           have HP := Lib.hid (hT9.put (c := gi - ni) HVI.out.1 HVI.out.2.1 (v7 := .slice A7 (i + 1) c7) (by rw [HXS.out.1 HVI.out.2.1, HXS.out.2]; exact h9c) (by rw [HVE.out HVI.out.1]; exact h9b) (by rw [HVE.out HVI.out.1]; exact h9d))
           have HLK : Hid (Blk W2 lb 75 #[.string nm, .int .i64 fr, .int .i64 to9, .slice (some nad) n n1, .slice (some gad) n n2, .slice none 0 0, .int .i64 0, .int .i64 0, .int .i64 0, .slice none 0 0, .slice none 0 0, .slice none 0 0, .slice none 0 0, .int .i64 0]) := Lib.hid ((hR.heap HLB.out.lt (fun e => by have := HRO9.out lb e.symm; omega)).trans HLB.out)
           have HSZ := Lib.hid hsz
           have HOT := Lib.hid hoth
           clear hsz hoth hv h57 h9a h9b h9c h9d hT9 hTB hR
           go_simp
           obtain ⟨u49, x49⟩ : ∃ u, a.tmps[49]?.getD undef = u := ⟨_, rfl⟩
           obtain ⟨u50, x50⟩ : ∃ u, a.tmps[50]?.getD undef = u := ⟨_, rfl⟩
           obtain ⟨u51, x51⟩ : ∃ u, a.tmps[51]?.getD undef = u := ⟨_, rfl⟩
           obtain ⟨u52, x52⟩ : ∃ u, a.tmps[52]?.getD undef = u := ⟨_, rfl⟩
           obtain ⟨u53, x53⟩ : ∃ u, a.tmps[53]?.getD undef = u := ⟨_, rfl⟩
           obtain ⟨u54, x54⟩ : ∃ u, a.tmps[54]?.getD undef = u := ⟨_, rfl⟩
           obtain ⟨u55, x55⟩ : ∃ u, a.tmps[55]?.getD undef = u := ⟨_, rfl⟩
           obtain ⟨u56, x56⟩ : ∃ u, a.tmps[56]?.getD undef = u := ⟨_, rfl⟩
           obtain ⟨u57, x57⟩ : ∃ u, a.tmps[57]?.getD undef = u := ⟨_, rfl⟩
           obtain ⟨u58, x58⟩ : ∃ u, a.tmps[58]?.getD undef = u := ⟨_, rfl⟩
           obtain ⟨u59, x59⟩ : ∃ u, a.tmps[59]?.getD undef = u := ⟨_, rfl⟩
           obtain ⟨u60, x60⟩ : ∃ u, a.tmps[60]?.getD undef = u := ⟨_, rfl⟩
           obtain ⟨u61, x61⟩ : ∃ u, a.tmps[61]?.getD undef = u := ⟨_, rfl⟩
           obtain ⟨u62, x62⟩ : ∃ u, a.tmps[62]?.getD undef = u := ⟨_, rfl⟩
           obtain ⟨u63, x63⟩ : ∃ u, a.tmps[63]?.getD undef = u := ⟨_, rfl⟩
           obtain ⟨u64, x64⟩ : ∃ u, a.tmps[64]?.getD undef = u := ⟨_, rfl⟩
           obtain ⟨u65, x65⟩ : ∃ u, a.tmps[65]?.getD undef = u := ⟨_, rfl⟩
           obtain ⟨u66, x66⟩ : ∃ u, a.tmps[66]?.getD undef = u := ⟨_, rfl⟩
           have ha := fold_all [49, 50, 51, 52, 53, 54, 55, 56, 57, 58, 59, 60, 61, 62, 63, 64, 65, 66, 67, 68] 20 rfl hdf HSZ.out (fun d h => (by decide : ∀ d ∈ ([49, 50, 51, 52, 53, 54, 55, 56, 57, 58, 59, 60, 61, 62, 63, 64, 65, 66, 67, 68] : List Nat), d < 70) d h) HOT.out
           simp only [List.map_cons, List.map_nil, List.foldl_cons, List.foldl_nil, x49, x50, x51, x52, x53, x54, x55, x56, x57, x58, x59, x60, x61, x62, x63, x64, x65, x66, x67, x68, put_mk, List.setIfInBounds_toArray, List.set_cons_succ, List.set_cons_zero] at ha
           clear x49 x50 x51 x52 x53 x54 x55 x56 x57 x58 x59 x60 x61 x62 x63 x64 x65 x66 x67 x68 HSZ HOT hdf
           rw [ha]
           clear ha
           go_wp2_with fail
           have hp := HP.out
           rw [← HD.out] at hp
           have hgs : W2.grownBy (W2.setCell ⟨tg, k, none⟩ (.slice A7 (i + 1) c7)) (some tg) := grownBy_setCell (p := ⟨tg, k, none⟩) (World.grownBy.refl W2 (some tg)) (.inl rfl) _
           exact ⟨⟨k + 1, by omega, by go_num, Lib.hid ⟨HLK.out.grown hgs (fun e => by injection e with e; omega), vs.set k (.slice A7 (i + 1) c7), by rw [List.length_set]; exact HVI.out.2.2, by rw [← mtB_set hkn hir (by rw [mtB_len]; exact hkn)]; exact hp⟩⟩, by simp [intOf]; omega⟩
       · obtain rfl : k = n := by omega
         have HE : Hid (mtB k rs i k = mtB k rs (i + 1) 0) := Lib.hid (mtB_row k rs i)
         go_wp2_with fail
         obtain ⟨hlbk, vs, hvl, hmt⟩ := HB.out
         rw [HE.out] at hmt
         exact ⟨⟨i + 1, by omega, by go_num, Lib.hid ⟨vs, hvl, hmt⟩⟩, by simp [intOf]; omega⟩
   · obtain rfl : i = q9 := by omega
     go_wp2_with fail
     go_ret2
     obtain ⟨hvl, hmt⟩ := HM0.out
     rw [HDN.out] at hmt
     have hz := hmt.bw
     have hat := hmt.at_ (by omega)
     have hb := BX.out.1.trans hz
     have hsz := BX.out.1.size
     rw [hvl] at hat
     unfold TrPost
     rw [HCL.out]
     exact ⟨_, _, rfl, hat.keep (fun b hb => ⟨by omega, hb.2⟩) (fun _ _ => rfl), hb⟩
end
end Go.Proofs.YthhbkabdhkdafaaGreat
