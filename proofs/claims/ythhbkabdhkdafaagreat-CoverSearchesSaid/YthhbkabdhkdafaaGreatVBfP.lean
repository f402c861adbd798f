/- Part of a proof of coverSearches_holds. -/
import Derived.Test.YthhbkabdhkdafaaGreatVBaP
set_option linter.unusedSimpArgs false
set_option linter.unusedVariables false
set_option maxRecDepth 100000
set_option maxHeartbeats 16000000
namespace Go.Proofs.YthhbkabdhkdafaaGreat
section
open Go.RowKit
theorem capply_any (m : Mdl) (hm : MdlOk m) (hn : NmOk m) (s : Int) (cs : List Int) (hv : oneP 8 m.t (cfgV s cs) = true) (i : Nat) (hi : i < m.rs.length) (sv pv rv kv s1 : Value) (w : World) (h : MB w w.heap.size sv pv rv kv m) (h1 : KB w w.heap.size s1 (cfgV s cs).ks) :
   Calls Tryz.prog 260 #[aggM sv pv rv kv, .int .i64 (i : Int), .agg #[.int .i64 0, s1]] w (VEPost w (applyP m.rs[i] s cs).1 (applyP m.rs[i] s cs).2) := by
 obtain ⟨A1, c1, A2, c2, A3, c3, A4, c4, rfl, rfl, rfl, rfl⟩ := h.form
 have hru := hm.ru _ (List.getElem_mem hi)
 obtain ⟨s', cs', ee, _, _, hlc, hbd⟩ := cfg_parts hv
 obtain ⟨rfl, rfl⟩ := cfgV_inj ee
 obtain ⟨ad3, B1, q1, d1, B2, q2, d2, rfl, hb3, hri, hnd, hgv⟩ := h.r.at_ hi
 obtain ⟨A5, n5, c5, rfl, l5, _, _⟩ := h1.form
 have hk1 := hm.k1
 have CK : Hid (∀ W, Bw w W → Calls Tryz.prog 317 #[aggM (.slice A1 m.ss.length c1) (.slice A2 m.ps.length c2) (.slice (some ad3) m.rs.length c3) (.slice A4 (1 + m.cs.length) c4), .int .i64 (i : Int), .agg #[.int .i64 0, .slice A5 n5 c5]] W (NumPost W 0)) := Lib.hid (fun W g => ccheck_any m hm hn (cfgV s cs) hv i hi _ _ _ _ _ W (h.bw g) (h1.bw g))
 have RX : Hid (∀ W, Bw w W → RlIs W (ad3.add (i * 14)) m.rs[i] (.slice B1 q1 d1) (.slice B2 q2 d2) ∧ ad3.block < W.heap.size) := Lib.hid (fun W g => ⟨hri.bw (by rw [add_block]; exact hb3) g, Nat.lt_of_lt_of_le hb3 g.size⟩)
 have CE : Hid (∀ W, Bw w W → Calls Tryz.prog 318 #[aggR m.rs[i] (.slice B1 q1 d1) (.slice B2 q2 d2), .agg #[.int .i64 0, .slice A5 n5 c5]] W (BoolPost W (canB m.rs[i] s cs))) := Lib.hid (fun W g => enabled_any m.rs[i] s cs (by rw [hru.nl, hlc]) (by omega) _ _ _ W (hnd.bw g) (hgv.bw g) (h1.bw g))
 have CM : Hid (∀ W (k : Nat), Calls Tryz.prog 319 #[aggR m.rs[i] (.slice B1 q1 d1) (.slice B2 q2 d2), .int .i64 (k : Int)] W (NumPost W (k : Int))) := Lib.hid (fun W k => moved_any _ _ _ _ _ _ _ _ W)
 rcases hrr : m.rs[i] with ⟨nm, fr, t9, need, give⟩
 have hnl : need.length = cs.length := by have := hru.nl; rw [hrr] at this; dsimp only at this; omega
 have hgl : give.length = cs.length := by have := hru.gl; rw [hrr] at this; dsimp only at this; omega
 have hnb : ∀ j, j < cs.length → 0 ≤ need.getD j 0 ∧ need.getD j 0 ≤ 16 := fun j hj => by have := hru.n0 j (by omega); rw [hrr] at this; exact this
 have hgb : ∀ j, j < cs.length → 0 ≤ give.getD j 0 ∧ give.getD j 0 ≤ 16 := fun j hj => by have := hru.g0 j (by omega); rw [hrr] at this; exact this
 have hcl1 : 1 ≤ cs.length ∧ cs.length ≤ 6 := by omega
 rw [hrr] at hnd hgv RX CE CM
 dsimp only at hnd hgv
 have lq1 : need.length = q1 := by
   obtain ⟨_, _, _, e, h, _, _⟩ := hnd.form
   injection e with _ e _
   rw [e]; exact h
 have lq2 : give.length = q2 := by
   obtain ⟨_, _, _, e, h, _, _⟩ := hgv.form
   injection e with _ e _
   rw [e]; exact h
 have hq1 : q1 = cs.length := by omega
 have hq2 : q2 = cs.length := by omega
 have hm5 : n5 = cs.length + 1 := by rw [← l5]; simp [cfgV]
 have CL : Hid (∀ W, Bw w W → Calls Tryz.prog 29 #[.slice B2 q2 d2] W (ClonePost W give q2)) := Lib.hid (fun W g => clone_any B2 q2 d2 give W (by unfold IsAt; rw [lq2]; exact (hgv.bw g).reads) lq2 (by omega) (by omega))
 have hkp := h1.part (k := 1) (m := n5) (by omega) (Nat.le_refl _)
 rw [List.take_of_length_le (by rw [l5]; exact Nat.le_refl _), show (cfgV s cs).ks.drop 1 = cs.map fun c => V.mk c [] from rfl] at hkp
 have hcut := fun W => cutV_l A5 n5 c5 1 (by omega) W
 obtain ⟨PA, eA⟩ := sliced_form A5 1 n5 c5 2
 rw [eA, show n5 - 1 = cs.length by omega] at hkp hcut
 push_cast at hcut
 have HKP := Lib.hid hkp
 have HND := Lib.hid hnd
 have hb5 : (1 : Int) ≤ (n5 : Int) := by omega
 unfold applyP
 obtain ⟨en, hen⟩ : ∃ en, canB ⟨nm, fr, t9, need, give⟩ s cs = en := ⟨_, rfl⟩
 rw [hen] at CE ⊢
 dsimp only at *
 obtain ⟨DC, hDC⟩ : ∃ DC, fireC cs need give = DC := ⟨_, rfl⟩
 have hDl : DC.length = cs.length := by rw [← hDC]; exact fireC_length hnl hgl
 have HMX : Hid (∀ k (hk : k < cs.length) (hk1 : k < need.length) (hk2 : k < give.length), (intVs (mixC cs need give k))[k]? = some (.int .i64 (give[k]'hk2)) ∧ (intVs (mixC cs need give k)).set k (.int .i64 (give[k]'hk2 + (cs[k] - need[k]'hk1))) = intVs (mixC cs need give (k + 1)) ∧ (0 ≤ cs[k] ∧ cs[k] ≤ 1048576) ∧ (0 ≤ need[k]'hk1 ∧ need[k]'hk1 ≤ 16) ∧ (0 ≤ give[k]'hk2 ∧ give[k]'hk2 ≤ 16)) := Lib.hid (fun k hk hk1 hk2 => ⟨mix_get hnl hgl hk, mix_set hnl hgl hk, hbd _ (List.getElem_mem hk), by have := hnb k hk; simpa only [List.getD_eq_getElem?_getD, List.getElem?_eq_getElem (show k < need.length by omega), Option.getD_some] using this, by have := hgb k hk; simpa only [List.getD_eq_getElem?_getD, List.getElem?_eq_getElem (show k < give.length by omega), Option.getD_some] using this⟩)
 have HMA : Hid (mixC cs need give cs.length = DC) := Lib.hid ((mix_all hnl hgl).trans hDC)
 have HM0 : Hid (mixC cs need give 0 = give) := Lib.hid mix_zero
 have HDL := Lib.hid hDl
 have HNL := Lib.hid hnl
 have HGL := Lib.hid hgl
 rw [hDC]
 have hiz : (i : Int) < (m.rs.length : Int) := by omega
 have hiq : i < m.rs.length := hi
 clear h h1 hm hn hv hru hri hlc hbd hk1 hnd hgv hkp eA hen hrr hnb hgb hDC hDl hi lq1 lq2 l5 ee hm5
 unfold VEPost
 unfold aggM aggR at *
 dsimp only at CE CM
 generalize m.ss.length = n at *
 generalize m.ps.length = k at *
 generalize m.rs.length = q at *
 generalize 1 + m.cs.length = z at *
 have BX : Hid (Bw w (((w.alloc (.cells #[.int .i64 1, .slice A1 n c1, .slice A2 k c2, .slice none 0 0, .slice none 0 0, .int .i64 0, .int .i64 0, .slice (some ad3) q c3, .int .i64 0, .slice A4 z c4] 33)).alloc (.cells #[.int .i64 0, .slice A5 n5 c5] 31)).alloc (.cells #[.int .i64 0, .slice none 0 0] 31)) ∧ ∀ W, Bw (((w.alloc (.cells #[.int .i64 1, .slice A1 n c1, .slice A2 k c2, .slice none 0 0, .slice none 0 0, .int .i64 0, .int .i64 0, .slice (some ad3) q c3, .int .i64 0, .slice A4 z c4] 33)).alloc (.cells #[.int .i64 0, .slice A5 n5 c5] 31)).alloc (.cells #[.int .i64 0, .slice none 0 0] 31)) W → Bw w W ∧ w.heap.size < W.heap.size ∧ w.heap.size + 1 < W.heap.size ∧ w.heap.size + 1 + 1 < W.heap.size ∧ W.cell? ⟨w.heap.size, 0, none⟩ = some (.int .i64 1) ∧ W.cell? ⟨w.heap.size, 1, none⟩ = some (.slice A1 n c1) ∧ W.cell? ⟨w.heap.size, 2, none⟩ = some (.slice A2 k c2) ∧ W.cell? ⟨w.heap.size, 3, none⟩ = some (.slice none 0 0) ∧ W.cell? ⟨w.heap.size, 4, none⟩ = some (.slice none 0 0) ∧ W.cell? ⟨w.heap.size, 5, none⟩ = some (.int .i64 0) ∧ W.cell? ⟨w.heap.size, 6, none⟩ = some (.int .i64 0) ∧ W.cell? ⟨w.heap.size, 7, none⟩ = some (.slice (some ad3) q c3) ∧ W.cell? ⟨w.heap.size, 8, none⟩ = some (.int .i64 0) ∧ W.cell? ⟨w.heap.size, 9, none⟩ = some (.slice A4 z c4) ∧ W.cell? ⟨w.heap.size + 1, 0, none⟩ = some (.int .i64 0) ∧ W.cell? ⟨w.heap.size + 1, 1, none⟩ = some (.slice A5 n5 c5) ∧ W.cell? ⟨w.heap.size + 1 + 1, 0, none⟩ = some (.int .i64 0) ∧ W.cell? ⟨w.heap.size + 1 + 1, 1, none⟩ = some (.slice none 0 0)) := Lib.hid ⟨((((Bw.refl _).alloc _).alloc _).alloc _), fun W g => by
   have h0 := (Blk.new w 33 #[.int .i64 1, .slice A1 n c1, .slice A2 k c2, .slice none 0 0, .slice none 0 0, .int .i64 0, .int .i64 0, .slice (some ad3) q c3, .int .i64 0, .slice A4 z c4])
   have k0 := ((h0.alloc (.cells #[.int .i64 0, .slice A5 n5 c5] 31)).alloc (.cells #[.int .i64 0, .slice none 0 0] 31)).below g.b ((h0.alloc (.cells #[.int .i64 0, .slice A5 n5 c5] 31)).alloc (.cells #[.int .i64 0, .slice none 0 0] 31)).lt
   have h1 := (Blk.new (w.alloc (.cells #[.int .i64 1, .slice A1 n c1, .slice A2 k c2, .slice none 0 0, .slice none 0 0, .int .i64 0, .int .i64 0, .slice (some ad3) q c3, .int .i64 0, .slice A4 z c4] 33)) 31 #[.int .i64 0, .slice A5 n5 c5])
   simp only [World.size_alloc] at h1
   have k1 := (h1.alloc (.cells #[.int .i64 0, .slice none 0 0] 31)).below g.b (h1.alloc (.cells #[.int .i64 0, .slice none 0 0] 31)).lt
   have h2 := (Blk.new ((w.alloc (.cells #[.int .i64 1, .slice A1 n c1, .slice A2 k c2, .slice none 0 0, .slice none 0 0, .int .i64 0, .int .i64 0, .slice (some ad3) q c3, .int .i64 0, .slice A4 z c4] 33)).alloc (.cells #[.int .i64 0, .slice A5 n5 c5] 31)) 31 #[.int .i64 0, .slice none 0 0])
   simp only [World.size_alloc] at h2
   have k2 := h2.below g.b h2.lt
   exact ⟨((((Bw.refl _).alloc _).alloc _).alloc _).trans g, k0.lt, k1.lt, k2.lt, k0.cell 0, k0.cell 1, k0.cell 2, k0.cell 3, k0.cell 4, k0.cell 5, k0.cell 6, k0.cell 7, k0.cell 8, k0.cell 9, k1.cell 0, k1.cell 1, k2.cell 0, k2.cell 1⟩⟩
 have HZ : Hid (∀ W, Bw (((w.alloc (.cells #[.int .i64 1, .slice A1 n c1, .slice A2 k c2, .slice none 0 0, .slice none 0 0, .int .i64 0, .int .i64 0, .slice (some ad3) q c3, .int .i64 0, .slice A4 z c4] 33)).alloc (.cells #[.int .i64 0, .slice A5 n5 c5] 31)).alloc (.cells #[.int .i64 0, .slice none 0 0] 31)) W → Blk W (w.heap.size + 1 + 1) 31 #[.int .i64 0, .slice none 0 0]) := Lib.hid (fun W g => by
   have h1 := Blk.new ((w.alloc (.cells #[.int .i64 1, .slice A1 n c1, .slice A2 k c2, .slice none 0 0, .slice none 0 0, .int .i64 0, .int .i64 0, .slice (some ad3) q c3, .int .i64 0, .slice A4 z c4] 33)).alloc (.cells #[.int .i64 0, .slice A5 n5 c5] 31)) 31 #[.int .i64 0, .slice none 0 0]
   simp only [World.size_alloc] at h1
   exact h1.below g.b h1.lt)
 obtain ⟨RV, hRV⟩ : ∃ RV, (if en = true then (if DC.any (fun x => decide (1048576 < x)) = true then (V.mk 0 [], (1 : Int)) else (cfgV t9 DC, 0)) else (V.mk 0 [], 18)) = RV := ⟨_, rfl⟩
 rw [hRV]
 subst hq1 hq2
 rcases en with _ | _
 · rw [if_neg (by simp)] at hRV
   subst hRV
   go_enter Tryz.func260, Tryz.ntmps260
   go_wp2_with (first
     | (go_at_call 317; go_must (refine (CK.out _ BX.out.1).mono ?_; rintro e w1 ⟨rfl, hg⟩; (obtain ⟨-, ylt0, ylt1, ylt2, y0_0, y0_1, y0_2, y0_3, y0_4, y0_5, y0_6, y0_7, y0_8, y0_9, y1_0, y1_1, y2_0, y2_1⟩ := BX.out.2 _ hg); (obtain ⟨⟨x0, x1, x2, x3, x4, x5, x6, x7, x8, x9, x10, x11, x12, x13⟩, xl⟩ := RX.out _ (BX.out.1.trans hg)); (dsimp only at x0 x1 x2); (have HG1 := Lib.hid hg); clear hg))
     | (go_at_call 318; go_must (refine (CE.out _ (BX.out.1.trans (HG1.out.alloc _))).mono ?_; rintro e w3 ⟨rfl, hg⟩; (have hg := (HG1.out.alloc _).trans hg); (have hb := HZ.out _ (hg)); (have uf0 := hb.cell 0); (have uf1 := hb.cell 1); (have ug0 := hb.frozen 0); (have ug1 := hb.frozen 1); (have ul := hb.lt); clear hb; (have HG3 := Lib.hid hg); clear hg)))
   obtain ⟨hbb, hgr⟩ := blk2 (v0 := .int .i64 0) (v1 := .slice none 0 0) (HZ.out _ HG3.out)
   refine bodyPost_ret (rrow1 (p := 6) (q := 7) (ty := 31) rfl _ _ (w.heap.size + 1 + 1) _ _ rfl (run_loadVar_row _ _ 31 31 _ (0, 0) _ hbb Tryz.underlying31 rfl (by kernel_rfl)) rfl) rfl ?_
   have hbw := BX.out.1.trans HG3.out
   exact ⟨_, rfl, KAt.nil _ _ (Nat.zero_le _), Below.grown hbw hgr hbw.size (fun r e => by injection e with e; omega)⟩

 · rw [if_pos rfl] at hRV
   have HRV := Lib.hid hRV
   clear hRV
   go_enter Tryz.func260, Tryz.ntmps260
   go_wp2_with (first
     | (go_at_call 317; go_must (refine (CK.out _ BX.out.1).mono ?_; rintro e w1 ⟨rfl, hg⟩; (obtain ⟨-, ylt0, ylt1, ylt2, y0_0, y0_1, y0_2, y0_3, y0_4, y0_5, y0_6, y0_7, y0_8, y0_9, y1_0, y1_1, y2_0, y2_1⟩ := BX.out.2 _ hg); (obtain ⟨⟨x0, x1, x2, x3, x4, x5, x6, x7, x8, x9, x10, x11, x12, x13⟩, xl⟩ := RX.out _ (BX.out.1.trans hg)); (dsimp only at x0 x1 x2); (have HG1 := Lib.hid hg); clear hg))
     | (go_at_call 318; go_must (refine (CE.out _ (BX.out.1.trans (HG1.out.alloc _))).mono ?_; rintro e w3 ⟨rfl, hg⟩; (obtain ⟨rlt, -, r0, r1, r2, r3, r4, r5, r6, r7, r8, r9, r10, r11, r12, r13⟩ := rlbox w3 hg); (have HG3 := Lib.hid hg); (have HB3 := Lib.hid ((HG1.out.alloc _).trans hg)); clear hg))
     | (go_at_call 29; go_must (refine (CL.out _ (BX.out.1.trans HB3.out)).mono ?_; rintro e w4 ⟨gn, cap, rfl, ho4, hg4⟩; (have hg4 : Bw w3 w4 := hg4); (obtain ⟨-, vlt0, vlt1, vlt2, v0_0, v0_1, v0_2, v0_3, v0_4, v0_5, v0_6, v0_7, v0_8, v0_9, v1_0, v1_1, v2_0, v2_1⟩ := BX.out.2 _ (HB3.out.trans hg4)); (have HO4 := Lib.hid ho4); (have HG4 := Lib.hid hg4); clear ho4 hg4)))
   have HW3 : Hid (Bw w w3) := Lib.hid (BX.out.1.trans HB3.out)
   go_loopw [42] (fun i wr => ∃ k : Nat, k ≤ cs.length ∧ i = .int .i64 k ∧ Hid (wr.ownsRow w3.heap.size 3 1 (.slice (some ⟨gn, 0, none⟩) cs.length cap) cs.length (intVs (mixC cs need give k)) ∧ Bw w3 wr)) (fun i _ => cs.length - (intOf i).toNat)
   case atStart => exact ⟨0, by omega, rfl, Lib.hid ⟨by rw [HM0.out]; exact HO4.out, HG4.out⟩⟩
   case round =>
     obtain ⟨k, hk, rfl, HR⟩ := hrel
     obtain ⟨ho, hw⟩ := HR.out
     obtain ⟨slt, -, s0, s1, s2, s3, s4, s5, s6, s7, s8, s9, s10, s11, s12, s13⟩ := rlbox wr (HG3.out.trans hw)
     have HO := Lib.hid ho
     have HW := Lib.hid hw
     by_cases hlt : k < cs.length
     · have e1 : k < need.length := by have := HNL.out; omega
       have e2 : k < (cs.map fun c => V.mk c []).length := by simpa using hlt
       have e4 : k < give.length := by have := HGL.out; omega
       obtain ⟨bd, rfl, hbb, p0⟩ := (HND.out.bw (HW3.out.trans hw)).at_ e1
       obtain ⟨pd, zA, zn, zc, rfl, hpb, z0, z1, -, -⟩ := (HKP.out.bw (HW3.out.trans hw)).at_ e2
       have e3 : ((cs.map fun c => V.mk c [])[k]'e2).n = cs[k] := by simp
       rw [e3] at z0
       have hbb2 : bd.block < wr.heap.size := hbb
       have QN : Hid (∀ W, Bw wr W → W.cell? (bd.add k) = some (.int .i64 (need[k]'e1)) ∧ bd.block < W.heap.size ∧ (bd.add k).block < W.heap.size) := Lib.hid (fun W g => ⟨(g.b.cell (by rw [add_block]; exact hbb)).trans p0, Nat.lt_of_lt_of_le hbb g.size, by rw [add_block]; exact Nat.lt_of_lt_of_le hbb g.size⟩)
       have hgl := (ho.lt gn rfl).2
       obtain ⟨m1, m2, ⟨m3, m4⟩, ⟨m5, m6⟩, ⟨m7, m8⟩⟩ := HMX.out k hlt e1 e4
       have QO : Hid (∀ W, Bw wr W → W.ownsRow w3.heap.size 3 1 (.slice (some ⟨gn, 0, none⟩) cs.length cap) cs.length (intVs (mixC cs need give k)) ∧ W.cell? ⟨gn, k, none⟩ = some (.int .i64 (give[k]'e4)) ∧ W.frozen? ⟨gn, k, none⟩ = false ∧ gn < W.heap.size) := Lib.hid (fun W g => by
         have h1 := own_kept_below ho g
         exact ⟨h1, by rw [h1.cellAt k (by omega), m1], h1.frozenAt k, (h1.lt gn rfl).2⟩)
       have HM2 := Lib.hid m2
       have hz : (k : Int) < (cs.length : Int) := by omega
       have hz0 : (0 : Int) ≤ (k : Int) := by omega
       clear ho hw HR e3 m1 m2
       generalize need[k] = x at *
       generalize cs[k] = y at *
       generalize give[k] = z9 at *
       have hs1 : IntKind.i64.wrap (y - x) = y - x := IntWalk.i64_in _ (by omega)
       have hs2 : IntKind.i64.wrap (z9 + (y - x)) = z9 + (y - x) := IntWalk.i64_in _ (by omega)
       go_wp2_with (go_at_call 319; go_must (refine (CM.out _ k).mono ?_; rintro e w6 ⟨rfl, hg6⟩; (have hgw : Bw wr w6 := ((Bw.refl _).alloc _).trans hg6); (have hbv := (Blk.new wr 31 #[.int .i64 y, .slice zA zn zc]).below hg6.b (by simp)); (have j0 := hbv.cell 0); (have jl := hbv.lt); (obtain ⟨ult, -, u0, u1, u2, u3, u4, u5, u6, u7, u8, u9, u10, u11, u12, u13⟩ := rlbox w6 (HG3.out.trans (HW.out.trans hgw))); (obtain ⟨-, o1, o2, o3⟩ := QO.out _ hgw); (obtain ⟨i1, i2, i3⟩ := QN.out _ hgw); (have HG6 := Lib.hid hgw); clear hg6 hgw hbv))
       go_region
       all_goals
         go_wp2
         go_roundw
         case rel =>
           refine ⟨k + 1, by omega, by go_num, Lib.hid ⟨?_, ?_⟩⟩
           · rw [← HM2.out]; exact ((QO.out _ (HG6.out.drewN _)).1.stored k _).1
           · exact Bw.setCell (HW.out.trans (HG6.out.drewN _)) (by have := ((HO.out.lt gn rfl).1); simpa using this) _
         case measure => simp [intOf]; omega
     · obtain rfl : k = cs.length := by omega
       rw [HMA.out] at ho
       have HOD := Lib.hid ho
       have HW5 : Hid (Bw (((w.alloc (.cells #[.int .i64 1, .slice A1 n c1, .slice A2 k c2, .slice none 0 0, .slice none 0 0, .int .i64 0, .int .i64 0, .slice (some ad3) q c3, .int .i64 0, .slice A4 z c4] 33)).alloc (.cells #[.int .i64 0, .slice A5 n5 c5] 31)).alloc (.cells #[.int .i64 0, .slice none 0 0] 31)) wr) := Lib.hid (HB3.out.trans hw)
       have HWW : Hid (Bw w wr) := Lib.hid (HW3.out.trans hw)
       have hsz5 : w.heap.size + 1 + 1 < wr.heap.size := (HZ.out _ HW5.out).lt
       clear ho hw HR HO HW HMX HM0 HMA HKP HND hcut
       obtain ⟨wo, hwo⟩ : ∃ wo, wo = wr := ⟨_, rfl⟩
       subst hwo
       obtain ⟨i0, hi0, hz0, hz1, hz2⟩ := info_parts infoVal
       have S0 : Hid (VRow ((wo.alloc (.cells #[.int .i64 t9, .slice none 0 0] 31)).alloc (.cells #[.int .i64 0, .slice (some ⟨wo.heap.size, 0, none⟩) 1 1] 31)) 31 (wo.heap.size + 2) wo.heap.size (.slice (some ⟨wo.heap.size, 0, none⟩) 1 1) [V.mk t9 []] [.slice none 0 0]) := Lib.hid ⟨by
         have := (own_new wo 31 #[.int .i64 t9, .slice none 0 0] 2 (n := 1) (xs := [.int .i64 t9, .slice none 0 0]) rfl rfl).alloc (.cells #[.int .i64 0, .slice (some ⟨wo.heap.size, 0, none⟩) 1 1] 31)
         simpa [vCells] using this, rfl, fun k h1 h2 => by
         obtain rfl : k = 0 := by simpa using h1
         exact KAt.nil _ _ (Nat.zero_le _)⟩
       have B0 : Hid (Blk ((wo.alloc (.cells #[.int .i64 t9, .slice none 0 0] 31)).alloc (.cells #[.int .i64 0, .slice (some ⟨wo.heap.size, 0, none⟩) 1 1] 31)) (wo.heap.size + 1) 31 #[.int .i64 0, .slice (some ⟨wo.heap.size, 0, none⟩) 1 1]) := Lib.hid (by
         have := Blk.new (wo.alloc (.cells #[.int .i64 t9, .slice none 0 0] 31)) 31 #[.int .i64 0, .slice (some ⟨wo.heap.size, 0, none⟩) 1 1]
         simpa only [World.size_alloc] using this)
       have HQ : Hid (∀ W, Bw wo W → ∀ j (hj : j < DC.length), W.cell? ⟨gn, j, none⟩ = some (.int .i64 DC[j]) ∧ gn < W.heap.size) := Lib.hid (fun W g j hj => by
         have h1 := own_kept_below HOD.out g
         have := HDL.out
         exact ⟨by rw [h1.cellAt j (by omega), intVs, List.getElem?_map, List.getElem?_eq_getElem hj]; rfl, (h1.lt gn rfl).2⟩)
       go_wp2
       go_loopw [74] (fun i wr => ∃ k : Nat, k ≤ cs.length ∧ i = .int .i64 k ∧ Hid (∃ sv ss, Blk wr (wo.heap.size + 1) 31 #[.int .i64 0, sv] ∧ sv.ownBlock ≠ some (wo.heap.size + 1) ∧ VRow wr 31 (wo.heap.size + 2) wo.heap.size sv (V.mk t9 [] :: (DC.take k).map fun c => V.mk c []) ss ∧ (DC.take k).any (fun x => decide (1048576 < x)) = false ∧ Bw wo wr)) (fun i _ => cs.length - (intOf i).toNat)
       case atStart => exact ⟨0, by omega, rfl, Lib.hid ⟨_, _, B0.out, by simp [Value.ownBlock], S0.out, rfl, (((Bw.refl _).alloc _).alloc _)⟩⟩
       case round =>
         clear S0 B0
         obtain ⟨k, hk, rfl, HR⟩ := hrel
         obtain ⟨sv, ss, hb2, hne, hvv, han, hw⟩ := HR.out
         have hlk : (V.mk t9 [] :: (DC.take k).map fun c => V.mk c []).length = k + 1 := by simp; have := HDL.out; omega
         obtain ⟨VA, vc, rfl, _, _⟩ := hvv.form
         rw [hlk] at hvv hb2 hne
         have p0 := hb2.cell 0
         have p1 := hb2.cell 1
         have f0 := hb2.frozen 0
         have f1 := hb2.frozen 1
         have z2 := hb2.lt
         have hb0 := HZ.out _ (HW5.out.trans hw)
         have r0 := hb0.cell 0
         have r1 := hb0.cell 1
         have rf0 := hb0.frozen 0
         have rf1 := hb0.frozen 1
         have HB2 := Lib.hid hb2
         have HB0 := Lib.hid hb0
         have HV := Lib.hid hvv
         have HW := Lib.hid hw
         have HNE := Lib.hid hne
         have HLK := Lib.hid hlk
         have HAN := Lib.hid han
         have hsw := hw.size
         by_cases hlt : k < cs.length
         · have e1 : k < DC.length := by have := HDL.out; omega
           obtain ⟨q0, qg⟩ := HQ.out wr hw k e1
           have HT : Hid ((V.mk t9 [] :: (DC.take (k + 1)).map fun c => V.mk c []) = (V.mk t9 [] :: (DC.take k).map fun c => V.mk c []) ++ [V.mk DC[k] []]) := Lib.hid (by rw [List.take_succ_eq_append_getElem e1, List.map_append]; rfl)
           have HTA : Hid ((DC.take (k + 1)).any (fun x => decide (1048576 < x)) = decide (1048576 < DC[k])) := Lib.hid (by rw [List.take_succ_eq_append_getElem e1, List.any_append, han]; simp)
           have HTB : Hid (1048576 < DC[k] → DC.any (fun x => decide (1048576 < x)) = true) := Lib.hid (fun h => any_take DC e1 han (by simpa using h))
           clear hb2 hne hb0 hvv hw HR hlk han
           generalize DC[k] = x at *
           by_cases hbig : (1048576 : Int) < x
           · have HRR : Hid ((V.mk 0 [], (1 : Int)) = RV) := Lib.hid (by have := HRV.out; rwa [if_pos (HTB.out hbig)] at this)
             clear HT HTA HTB
             go_wp2
             obtain ⟨hbb, hgr⟩ := blk2 (v0 := .int .i64 0) (v1 := .slice none 0 0) (HB0.out)
             refine bodyPost_ret (rrow1 (p := 6) (q := 7) (ty := 31) rfl _ _ (w.heap.size + 1 + 1) _ _ rfl (run_loadVar_row _ _ 31 31 _ (0, 0) _ hbb Tryz.underlying31 rfl (by kernel_rfl)) rfl) rfl ?_
             have hbw := (HWW.out.trans HW.out)
             rw [← HRR.out]
             exact ⟨_, rfl, KAt.nil _ _ (Nat.zero_le _), Below.grown hbw hgr hbw.size (fun r e => by injection e with e; omega)⟩
           · generalize hl : (V.mk t9 [] :: (DC.take k).map fun c => V.mk c []) = l at *
             clear hl
             have hbig2 : x ≤ 1048576 := by omega
             go_wp2_with (at_builtin; go_must (refine wpList_append_any _ rfl _ _ 29 rfl wo.heap.size 31 i0 _ 2 32 Tryz.underlying29 hi0 hz0 hz1 hz2 rfl (by decide) (.slice VA (k + 1) vc) (k + 1) (vCells l ss) rfl (by have := (HV.out.own.alloc (.cells #[.int .i64 x, .slice none 0 0] 31)); rwa [HLK.out] at this) (wr.heap.size + 1) (some ⟨wr.heap.size, 0, none⟩) 1 1 [.int .i64 x, .slice none 0 0] rfl (reads_new2 wr _ _ _) (one2 _ _ _ _) (by unfold maxLen; omega) (by omega) (by simp; omega) ?_; intro v7 w7 hown7 hgr7 hl7; obtain ⟨A7, c7, rfl⟩ := own_form hown7; (have HO7 := Lib.hid hown7); (have HG7 := Lib.hid hgr7); (have HL7 := Lib.hid hl7); (have hb7 : Blk w7 (wo.heap.size + 1) 31 #[.int .i64 0, .slice VA (k + 1) vc] := (HB2.out.alloc _).grown hgr7 (fun e => HNE.out e.symm)); (have y0 := hb7.cell 0); (have y1 := hb7.cell 1); (have y2 := hb7.frozen 0); (have y3 := hb7.frozen 1); (have y4 := hb7.lt); (have HB7 := Lib.hid hb7); clear hown7 hgr7 hl7 hb7))
             go_roundw
             case rel =>
               have hbw7 : Bw wo w7 := Below.grown (HW.out.alloc _) HG7.out (by simp; omega) (fun r e => by have := (HV.out.own.lt r e).1; omega)
               have e1 := grownBy_setCell (p := ⟨wo.heap.size + 1, 1, none⟩) (World.grownBy.refl w7 (some (wo.heap.size + 1))) (.inl rfl) (.slice A7 (k + 1 + 1) c7)
               have hne7 : (Value.slice A7 (k + 1 + 1) c7).ownBlock ≠ some (wo.heap.size + 1) := by
                 rcases HL7.out with e | e
                 · rw [e]; exact HNE.out
                 · rw [e]; intro e2; injection e2 with e2; simp at e2; omega
               have h1 := (HV.out.bw (((Bw.refl wr).alloc (.cells #[.int .i64 x, .slice none 0 0] 31)))).push (x := .mk x []) (s := .slice none 0 0) (KAt.nil _ _ (Nat.zero_le _)) (by rw [HLK.out]; exact HO7.out) HG7.out HL7.out
               refine ⟨k + 1, by omega, by go_num, Lib.hid ⟨.slice A7 (k + 1 + 1) c7, ss ++ [.slice none 0 0], blk_set (i := 1) (.slice A7 (k + 1 + 1) c7) HB7.out, hne7, ?_, by rw [HTA.out]; exact decide_eq_false (by omega), Below.grown hbw7 e1 hbw7.size (fun r e => by injection e with e; omega)⟩⟩
               rw [HT.out]
               exact h1.keep e1 (fun r e => by injection e with e; subst e; exact ⟨hne7, by omega⟩)
             case measure => simp [intOf]; omega
         · obtain rfl : k = cs.length := by omega
           have HRR : Hid ((cfgV t9 DC, (0 : Int)) = RV) := Lib.hid (by
             have h2 := HRV.out
             rw [List.take_of_length_le (by rw [HDL.out]; exact Nat.le_refl _)] at han
             rwa [han, if_neg (by simp)] at h2)
           clear hb2 hne hb0 hvv hw HR hlk han
           go_wp2
           obtain ⟨hbb, hgr⟩ := blk2 (v0 := .int .i64 0) (v1 := .slice VA (cs.length + 1) vc) HB0.out
           refine bodyPost_ret (rrow1 (p := 6) (q := 7) (ty := 31) rfl _ _ (w.heap.size + 1 + 1) _ _ rfl (run_loadVar_row _ _ 31 31 _ (0, 0) _ hbb Tryz.underlying31 rfl (by kernel_rfl)) rfl) rfl ?_
           rw [← HRR.out]
           have hsz := hgr.size
           refine ⟨_, rfl, ?_, Below.grown (HWW.out.trans HW.out) hgr (HWW.out.trans HW.out).size (fun r e => by injection e with e; omega)⟩
           have h1 := VRow.fresh (b0 := wo.heap.size) HV.out (by omega) (by omega)
           rw [List.take_of_length_le (by rw [HDL.out]; exact Nat.le_refl _)] at h1
           exact h1.keep (fun b hb => ⟨by omega, Nat.lt_of_lt_of_le hb.2 hsz⟩) (fun p hp => World.cell?_of_block (hgr.block p.block hp.2 (fun e => by injection e with e; omega)))
end
end Go.Proofs.YthhbkabdhkdafaaGreat
