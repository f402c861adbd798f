/- Part of a proof of pruneKeeps_holds. -/
import Derived.Test.YthhbkabdhkdafaaGreatVBlP
import Derived.Test.YthhbkabdhkdafaaGreatVBcP
set_option linter.unusedSimpArgs false
set_option linter.unusedVariables false
set_option maxRecDepth 100000
set_option maxHeartbeats 16000000
namespace Go.Proofs.YthhbkabdhkdafaaGreat
section
open Go.RowKit
theorem qEnabled_any (m : Mdl) (hm : MdlOk m) (hn : NmOk m) (s : Int) (cs : List Int) (hv : oneP 8 m.t (cfgV s cs) = true) (i : Nat) (hi : i < m.rs.length) (sv pv rv kv s1 : Value) (w : World) (h : MB w w.heap.size sv pv rv kv m) (h1 : KB w w.heap.size s1 (cfgV s cs).ks) :
   Calls Tryz.prog 141 #[aggM sv pv rv kv, .int .i64 (i : Int), .agg #[.int .i64 0, s1]] w (fun e w' => e = .returned (.tuple #[.bool (canB m.rs[i] s cs), .int .i64 0]) ∧ Bw w w') := by
 obtain ⟨A1, c1, A2, c2, A3, c3, A4, c4, rfl, rfl, rfl, rfl⟩ := h.form
 have hru := hm.ru _ (List.getElem_mem hi)
 obtain ⟨s', cs', ee, _, _, hlc, hbd⟩ := cfg_parts hv
 obtain ⟨rfl, rfl⟩ := cfgV_inj ee
 obtain ⟨ad3, B1, q1, d1, B2, q2, d2, rfl, hb3, hri, hnd, hgv⟩ := h.r.at_ hi
 obtain ⟨A5, n5, c5, rfl, l5, _, _⟩ := h1.form
 have hk1 := hm.k1
 have CF : Hid (∀ W, Bw w W → Calls Tryz.prog 211 #[aggM (.slice A1 m.ss.length c1) (.slice A2 m.ps.length c2) (.slice (some ad3) m.rs.length c3) (.slice A4 (1 + m.cs.length) c4), .int .i64 (i : Int)] W (NumPost W 0)) := Lib.hid (fun W g => qfault_any m hm hn i hi _ _ _ _ W (h.bw g))
 have CV : Hid (∀ W, Bw w W → Calls Tryz.prog 45 #[aggM (.slice A1 m.ss.length c1) (.slice A2 m.ps.length c2) (.slice (some ad3) m.rs.length c3) (.slice A4 (1 + m.cs.length) c4), .agg #[.int .i64 0, .slice A5 n5 c5]] W (BoolPost W true)) := Lib.hid (fun W g => by have := qValid_any m hm hn (cfgV s cs) _ _ _ _ _ W (h.bw g) (h1.bw g); rwa [validM hm hv] at this)
 have CE : Hid (∀ W, Bw w W → Calls Tryz.prog 212 #[aggR m.rs[i] (.slice B1 q1 d1) (.slice B2 q2 d2), .agg #[.int .i64 0, .slice A5 n5 c5]] W (BoolPost W (canB m.rs[i] s cs))) := Lib.hid (fun W g => qenabled_any m.rs[i] s cs (by rw [hru.nl, hlc]) (by omega) _ _ _ W (hnd.bw g) (hgv.bw g) (h1.bw g))
 have RX : Hid (∀ W, Bw w W → RlIs W (ad3.add (i * 14)) m.rs[i] (.slice B1 q1 d1) (.slice B2 q2 d2) ∧ ad3.block < W.heap.size) := Lib.hid (fun W g => ⟨hri.bw (by rw [add_block]; exact hb3) g, Nat.lt_of_lt_of_le hb3 g.size⟩)
 have hiz : (i : Int) < (m.rs.length : Int) := by omega
 obtain ⟨en, hen⟩ : ∃ en, canB m.rs[i] s cs = en := ⟨_, rfl⟩
 rw [hen] at CE ⊢
 clear hen
 rcases hrr : m.rs[i] with ⟨nm, fr, t9, need, give⟩
 rw [hrr] at RX CE
 clear h h1 hm hn hv hru hri hnd hgv hlc hbd hk1 hrr l5 ee
 unfold aggM aggR at *
 dsimp only at CE
 generalize m.ss.length = n at *
 generalize m.ps.length = k0 at *
 generalize m.rs.length = q at *
 generalize 1 + m.cs.length = z at *
 have BX := Lib.hid (box2 w 33 #[.int .i64 1, .slice A1 n c1, .slice A2 k0 c2, .slice none 0 0, .slice none 0 0, .int .i64 0, .int .i64 0, .slice (some ad3) q c3, .int .i64 0, .slice A4 z c4] 31 #[.int .i64 0, .slice A5 n5 c5])
 go_enter Tryz.func141, Tryz.ntmps141
 go_upto_region 6 with (first
   | (go_at_call 211; go_must (refine (CF.out _ BX.out.1).mono ?_; rintro e w1 ⟨rfl, hg⟩; (obtain ⟨-, bb0, bb1⟩ := BX.out.2 _ (hg)); (obtain ⟨y0, y1, y2, y3, y4, y5, y6, y7, y8, y9, y10⟩ := bb0.c10); (obtain ⟨v0, v1, v2⟩ := bb1.c2); clear bb0 bb1; (have HG1 := Lib.hid hg); clear hg))
   | (go_at_call 45; go_must (refine (CV.out _ (BX.out.1.trans HG1.out)).mono ?_; rintro e w2 ⟨rfl, hg⟩; (have HG2 := Lib.hid (HG1.out.trans hg)); clear hg)))
 clear y0 y1 y2 y3 y4 y5 y6 y7 y8 y9 y10 v0 v1 v2
 have D1 : Hid (∀ W', Bw w2 W' → Calls Tryz.prog 212 #[.agg #[.string nm, .int .i64 fr, .int .i64 t9, .slice B1 q1 d1, .slice B2 q2 d2, .slice none 0 0, .int .i64 0, .int .i64 0, .int .i64 0, .slice none 0 0, .slice none 0 0, .slice none 0 0, .slice none 0 0, .int .i64 0], .agg #[.int .i64 0, .slice A5 n5 c5]] W' (BoolPost W' en)) := Lib.hid (fun W' g => CE.out W' (BX.out.1.trans (HG2.out.trans g)))
 have QF : Hid (∀ P : BwOf w2, (Blk P.val w.heap.size 33 #[.int .i64 1, .slice A1 n c1, .slice A2 k0 c2, .slice none 0 0, .slice none 0 0, .int .i64 0, .int .i64 0, .slice (some ad3) q c3, .int .i64 0, .slice A4 z c4] ∧ Blk P.val (w.heap.size + 1) 31 #[.int .i64 0, .slice A5 n5 c5]) ∧ RlIs P.val (ad3.add (i * 14)) ⟨nm, fr, t9, need, give⟩ (.slice B1 q1 d1) (.slice B2 q2 d2) ∧ ad3.block < P.val.heap.size) := Lib.hid (fun P => by
   have g := HG2.out.trans P.bw
   exact ⟨(BX.out.2 _ g).2, RX.out _ (BX.out.1.trans g)⟩)
 have m0 := fun P => (QF.out P).1.1.lt
 have m7 : ∀ P : BwOf w2, P.val.cell? ⟨w.heap.size, 7, none⟩ = some (.slice (some ad3) q c3) := fun P => (QF.out P).1.1.cell 7
 have p0 := fun P => (QF.out P).1.2.lt
 have p1 : ∀ P : BwOf w2, P.val.cell? ⟨w.heap.size + 1, 0, none⟩ = some (.int .i64 0) := fun P => (QF.out P).1.2.cell 0
 have p2 : ∀ P : BwOf w2, P.val.cell? ⟨w.heap.size + 1, 1, none⟩ = some (.slice A5 n5 c5) := fun P => (QF.out P).1.2.cell 1
 have r0 := fun P => (QF.out P).2.1.c0
 have r1 := fun P => (QF.out P).2.1.c1
 have r2 := fun P => (QF.out P).2.1.c2
 have r3 := fun P => (QF.out P).2.1.c3
 have r4 := fun P => (QF.out P).2.1.c4
 have r5 := fun P => (QF.out P).2.1.c5
 have r6 := fun P => (QF.out P).2.1.c6
 have r7 := fun P => (QF.out P).2.1.c7
 have r8 := fun P => (QF.out P).2.1.c8
 have r9 := fun P => (QF.out P).2.1.c9
 have r10 := fun P => (QF.out P).2.1.c10
 have r11 := fun P => (QF.out P).2.1.c11
 have r12 := fun P => (QF.out P).2.1.c12
 have r13 := fun P => (QF.out P).2.1.c13
 have rl := fun P => (QF.out P).2.2
 dsimp only at r0 r1 r2
 clear QF
 refine wp_region_quiet_bw mixedO (by kernel_rfl) ?_
 repeat (go_big_quiet_step ((first | (go_at_call 212; with_reducible exact calls_bw _ (D1.out _ (BwOf.bw _))))))
 refine wpQuiet_nil ?_
 intro W3 hw'
 have HG3 : Hid (Bw w2 W3) := Lib.hid (by obtain ⟨p, e⟩ := hw'; rw [e]; exact p.bw)
 clear hw' m0 m7 p0 p1 p2 r0 r1 r2 r3 r4 r5 r6 r7 r8 r9 r10 r11 r12 r13 rl D1
 go_wp2
 go_ret2
 exact ⟨rfl, BX.out.1.trans (HG2.out.trans HG3.out)⟩
def subC (cs ns : List Int) : List Int := List.zipWith (· - ·) cs ns
def mixZ (cs ns : List Int) (k : Nat) : List Int := (subC cs ns).take k ++ List.replicate (cs.length - k) 0
section
variable {cs ns gs : List Int} {k : Nat}
theorem subC_length (h : ns.length = cs.length) : (subC cs ns).length = cs.length := by simp [subC, h]
theorem mixZ_zero : mixZ cs ns 0 = List.replicate cs.length 0 := by simp [mixZ]
theorem mixZ_all (h : ns.length = cs.length) : mixZ cs ns cs.length = subC cs ns := by
 rw [mixZ, Nat.sub_self, List.take_of_length_le (by rw [subC_length h]; exact Nat.le_refl _)]; simp
theorem mixZ_get (h : ns.length = cs.length) (hk : k < cs.length) : (intVs (mixZ cs ns k))[k]? = some (.int .i64 0) := by
 have hl : ((subC cs ns).take k).length = k := by rw [List.length_take, subC_length h]; omega
 rw [intVs, mixZ, List.getElem?_map, List.getElem?_append_right (by omega), hl, Nat.sub_self, List.getElem?_replicate, if_pos (by omega)]
 rfl
theorem mixZ_set (h : ns.length = cs.length) (hk : k < cs.length) : (intVs (mixZ cs ns k)).set k (.int .i64 (cs[k] - ns[k]'(Nat.lt_of_lt_of_eq hk h.symm))) = intVs (mixZ cs ns (k + 1)) := by
 have hl : ((subC cs ns).take k).length = k := by rw [List.length_take, subC_length h]; omega
 have hf : k < (subC cs ns).length := by rw [subC_length h]; exact hk
 have e : (subC cs ns)[k] = cs[k] - ns[k]'(Nat.lt_of_lt_of_eq hk h.symm) := by simp [subC]
 rw [← e]
 unfold mixZ
 rw [intVs, intVs, List.map_append, List.map_append, List.set_append_right _ _ (by rw [List.length_map, hl]; exact Nat.le_refl _), List.length_map, hl, Nat.sub_self, show cs.length - k = (cs.length - (k + 1)) + 1 by omega, List.replicate_succ, List.map_cons, List.set_cons_zero, List.take_succ_eq_append_getElem hf, List.map_append]
 simp
end
theorem qapply_any (m : Mdl) (hm : MdlOk m) (hn : NmOk m) (s : Int) (cs : List Int) (hv : oneP 8 m.t (cfgV s cs) = true) (i : Nat) (hi : i < m.rs.length) (sv pv rv kv s1 : Value) (w : World) (h : MB w w.heap.size sv pv rv kv m) (h1 : KB w w.heap.size s1 (cfgV s cs).ks) :
   Calls Tryz.prog 84 #[aggM sv pv rv kv, .int .i64 (i : Int), .agg #[.int .i64 0, s1]] w (VEPost w (applyP m.rs[i] s cs).1 (applyP m.rs[i] s cs).2) := by
 obtain ⟨A1, c1, A2, c2, A3, c3, A4, c4, rfl, rfl, rfl, rfl⟩ := h.form
 have hru := hm.ru _ (List.getElem_mem hi)
 obtain ⟨s', cs', ee, _, _, hlc, hbd⟩ := cfg_parts hv
 obtain ⟨rfl, rfl⟩ := cfgV_inj ee
 obtain ⟨ad3, B1, q1, d1, B2, q2, d2, rfl, hb3, hri, hnd, hgv⟩ := h.r.at_ hi
 obtain ⟨A5, n5, c5, rfl, l5, _, _⟩ := h1.form
 have hk1 := hm.k1
 have CE : Hid (∀ W, Bw w W → Calls Tryz.prog 141 #[aggM (.slice A1 m.ss.length c1) (.slice A2 m.ps.length c2) (.slice (some ad3) m.rs.length c3) (.slice A4 (1 + m.cs.length) c4), .int .i64 (i : Int), .agg #[.int .i64 0, .slice A5 n5 c5]] W (fun e w' => e = .returned (.tuple #[.bool (canB m.rs[i] s cs), .int .i64 0]) ∧ Bw W w')) := Lib.hid (fun W g => qEnabled_any m hm hn s cs hv i hi _ _ _ _ _ W (h.bw g) (h1.bw g))
 have RX : Hid (∀ W, Bw w W → RlIs W (ad3.add (i * 14)) m.rs[i] (.slice B1 q1 d1) (.slice B2 q2 d2) ∧ ad3.block < W.heap.size) := Lib.hid (fun W g => ⟨hri.bw (by rw [add_block]; exact hb3) g, Nat.lt_of_lt_of_le hb3 g.size⟩)
 rcases hrr : m.rs[i] with ⟨nm, fr, t9, need, give⟩
 have hnl : need.length = cs.length := by have := hru.nl; rw [hrr] at this; dsimp only at this; omega
 have hgl : give.length = cs.length := by have := hru.gl; rw [hrr] at this; dsimp only at this; omega
 have hnb : ∀ j, j < cs.length → 0 ≤ need.getD j 0 ∧ need.getD j 0 ≤ 16 := fun j hj => by have := hru.n0 j (by omega); rw [hrr] at this; exact this
 have hgb : ∀ j, j < cs.length → 0 ≤ give.getD j 0 ∧ give.getD j 0 ≤ 16 := fun j hj => by have := hru.g0 j (by omega); rw [hrr] at this; exact this
 have hcl1 : 1 ≤ cs.length ∧ cs.length ≤ 6 := by omega
 rw [hrr] at hnd hgv RX CE
 dsimp only at hnd hgv
 have hq1 : q1 = cs.length := by
   obtain ⟨_, _, _, e, h, _, _⟩ := hnd.form
   injection e with _ e _
   omega
 have hq2 : q2 = cs.length := by
   obtain ⟨_, _, _, e, h, _, _⟩ := hgv.form
   injection e with _ e _
   omega
 obtain ⟨hn5, ad, rfl, hab, -, -⟩ := cfg_at h1
 have HAB := Lib.hid hab
 have QA : Hid (∀ W, Bw w W → ∀ k (hk : k < cs.length), W.cell? (ad.add ((k + 1) * 2)) = some (.int .i64 cs[k])) := Lib.hid (fun W g => by
   obtain ⟨-, ad', e, -, -, x1⟩ := cfg_at (h1.bw g)
   injection e with e; subst e
   exact x1)
 have HND := Lib.hid hnd
 have HGV := Lib.hid hgv
 unfold applyP
 obtain ⟨en, hen⟩ : ∃ en, canB ⟨nm, fr, t9, need, give⟩ s cs = en := ⟨_, rfl⟩
 rw [hen] at CE ⊢
 dsimp only at *
 obtain ⟨DC, hDC⟩ : ∃ DC, fireC cs need give = DC := ⟨_, rfl⟩
 have hDl : DC.length = cs.length := by rw [← hDC]; exact fireC_length hnl hgl
 have HMX : Hid (∀ k (hk : k < cs.length) (hk1 : k < need.length), (intVs (mixZ cs need k))[k]? = some (.int .i64 0) ∧ (intVs (mixZ cs need k)).set k (.int .i64 (cs[k] - need[k]'hk1)) = intVs (mixZ cs need (k + 1)) ∧ (0 ≤ cs[k] ∧ cs[k] ≤ 1048576) ∧ (0 ≤ need[k]'hk1 ∧ need[k]'hk1 ≤ 16)) := Lib.hid (fun k hk hk1 => ⟨mixZ_get hnl hk, mixZ_set hnl hk, hbd _ (List.getElem_mem hk), by have := hnb k hk; simpa only [List.getD_eq_getElem?_getD, List.getElem?_eq_getElem (show k < need.length by omega), Option.getD_some] using this⟩)
 have HMD : Hid (∀ k (hk : k < cs.length) (hk2 : k < give.length) (hk3 : k < DC.length), ∃ x : Int, (intVs (mixZ cs need cs.length))[k]? = some (.int .i64 x) ∧ DC[k]'hk3 = x + give[k]'hk2 ∧ -16 ≤ x ∧ x ≤ 1048576 ∧ 0 ≤ give[k]'hk2 ∧ give[k]'hk2 ≤ 16) := Lib.hid (fun k hk hk2 hk3 => by
   have h1 := hbd _ (List.getElem_mem hk)
   have h2 := hnb k hk
   have h3 := hgb k hk
   simp only [List.getD_eq_getElem?_getD, List.getElem?_eq_getElem (show k < need.length by omega), List.getElem?_eq_getElem (show k < give.length by omega), Option.getD_some] at h2 h3
   refine ⟨cs[k] - need[k]'(by omega), ?_, ?_, by omega, by omega, h3.1, h3.2⟩
   · rw [mixZ_all hnl, intVs, List.getElem?_map, List.getElem?_eq_getElem (by rw [subC_length hnl]; exact hk)]
     simp [subC]
   · have := fire_at hnl hgl hk
     simp only [hDC] at this
     rw [this]; omega)
 have HM0 : Hid (intVs (mixZ cs need 0) = List.replicate cs.length (.int .i64 0)) := Lib.hid (by rw [mixZ_zero]; simp [intVs])
 have HDL := Lib.hid hDl
 have HNL := Lib.hid hnl
 have HGL := Lib.hid hgl
 rw [hDC]
 have hiz : (i : Int) < (m.rs.length : Int) := by omega
 have HN5 := Lib.hid hn5
 clear h h1 hm hn hv hru hri hlc hbd hk1 hnd hgv hen hrr hnb hgb hDC hi l5 ee hn5
 unfold VEPost
 unfold aggM at *
 clear hnl hgl hDl
 generalize m.ss.length = n at *
 generalize m.ps.length = k0 at *
 generalize m.rs.length = q at *
 generalize 1 + m.cs.length = z at *
 have BX := Lib.hid (box3 w 33 #[.int .i64 1, .slice A1 n c1, .slice A2 k0 c2, .slice none 0 0, .slice none 0 0, .int .i64 0, .int .i64 0, .slice (some ad3) q c3, .int .i64 0, .slice A4 z c4] 31 #[.int .i64 0, .slice (some ad) n5 c5] 31 #[.int .i64 0, .slice none 0 0])
 obtain ⟨RV, hRV⟩ : ∃ RV, (if en = true then (if DC.any (fun x => decide (1048576 < x)) = true then (V.mk 0 [], (1 : Int)) else (cfgV t9 DC, 0)) else (V.mk 0 [], 18)) = RV := ⟨_, rfl⟩
 rw [hRV]
 subst hq1 hq2
 rcases en with _ | _
 · rw [if_neg (by simp)] at hRV
   have HRR := Lib.hid hRV
   clear hRV
   go_enter Tryz.func84, Tryz.ntmps84
   go_wp2_with (go_at_call 141; go_must (refine (CE.out _ BX.out.1).mono ?_; rintro e w1 ⟨rfl, hg⟩; (obtain ⟨-, -, -, bb2⟩ := BX.out.2 _ hg); (have f0 := bb2.cell 0); (have f1 := bb2.cell 1); (have g0 := bb2.frozen 0); (have g1 := bb2.frozen 1); (have gl := bb2.lt); (have HG1 := Lib.hid hg); (have HB2 := Lib.hid bb2); clear hg bb2))
   obtain ⟨hbb, hgr⟩ := blk2 (v0 := .int .i64 0) (v1 := .slice none 0 0) (HB2.out)
   refine bodyPost_ret (rrow1 (p := 6) (q := 7) (ty := 31) rfl _ _ (w.heap.size + 1 + 1) _ _ rfl (run_loadVar_row _ _ 31 31 _ (0, 0) _ hbb Tryz.underlying31 rfl (by kernel_rfl)) rfl) rfl ?_
   have hbw := BX.out.1.trans HG1.out
   rw [← HRR.out]
   exact ⟨_, rfl, KAt.nil _ _ (Nat.zero_le _), Below.grown hbw hgr hbw.size (fun r e => by injection e with e; omega)⟩
 · rw [if_pos rfl] at hRV
   have HRV := Lib.hid hRV
   clear hRV
   obtain ⟨i0, hi0, hz0, hz1, hz2⟩ := info_parts infoInt
   have hz2' : i0.bytes * cs.length ≤ 281474976710656 := by rw [hz2]; omega
   have hm9 : cs.length ≤ maxLen := by unfold maxLen; omega
   have HZ2 := Lib.hid hz2'
   clear hz2' hz2
   go_enter Tryz.func84, Tryz.ntmps84
   go_wp2_with (first
     | (go_at_call 141; go_must (refine (CE.out _ BX.out.1).mono ?_; rintro e w1 ⟨rfl, hg⟩; (obtain ⟨hbw, bb0, bb1, -⟩ := BX.out.2 _ hg); (obtain ⟨y0, y1, y2, y3, y4, y5, y6, y7, y8, y9, y10⟩ := bb0.c10); (obtain ⟨v0, v1, v2⟩ := bb1.c2); (obtain ⟨⟨x0, x1, x2, x3, x4, x5, x6, x7, x8, x9, x10, x11, x12, x13⟩, xl⟩ := RX.out _ hbw); (dsimp only at x0 x1 x2); (have HG1 := Lib.hid hg); clear hg bb0 bb1 hbw))
     | (at_make; go_must (refine wpList_make_full _ rfl _ _ 27 rfl (w1.heap.size + 1) 3 i0 (.int .i64 0) 1 Tryz.underlying27 hi0 hz0 hz1 .i64 .i64 cs.length cs.length cs.length rfl rfl rfl rfl HZ2.out hm9 (by simp) ?_; intro w3 hown3 hgr3; (simp only [World.size_alloc] at hown3); (replace hown3 : w3.ownsRow (w1.heap.size + 1) 3 1 (.slice (some ⟨w1.heap.size + 1, 0, none⟩) cs.length cs.length) cs.length (List.replicate cs.length (.int .i64 0)) := by (rw [← toList_madeCells_one]; rw [Nat.mul_one] at hown3; exact hown3)); (have HO3 := Lib.hid hown3); (have HG3 := Lib.hid (Bw.grown hgr3)); clear hown3 hgr3)))
   clear y0 y1 y2 y3 y4 y5 y6 y7 y8 y9 y10 v0 v1 v2 x0 x1 x2 x3 x4 x5 x6 x7 x8 x9 x10 x11 x12 x13 xl
   have hrb : Blk w3 w1.heap.size 75 #[.string nm, .int .i64 fr, .int .i64 t9, .slice B1 cs.length d1, .slice B2 cs.length d2, .slice none 0 0, .int .i64 0, .int .i64 0, .int .i64 0, .slice none 0 0, .slice none 0 0, .slice none 0 0, .slice none 0 0, .int .i64 0] := (Blk.new w1 _ _).below HG3.out.b (by simp)
   have hw13 : Bw w1 w3 := ((Bw.refl _).alloc _).trans HG3.out
   refine wp_world (fun W => Hid (Bw (((w.alloc (.cells #[.int .i64 1, .slice A1 n c1, .slice A2 k0 c2, .slice none 0 0, .slice none 0 0, .int .i64 0, .int .i64 0, .slice (some ad3) q c3, .int .i64 0, .slice A4 z c4] 33)).alloc (.cells #[.int .i64 0, .slice (some ad) n5 c5] 31)).alloc (.cells #[.int .i64 0, .slice none 0 0] 31)) W ∧ Blk W w1.heap.size 75 #[.string nm, .int .i64 fr, .int .i64 t9, .slice B1 cs.length d1, .slice B2 cs.length d2, .slice none 0 0, .int .i64 0, .int .i64 0, .int .i64 0, .slice none 0 0, .slice none 0 0, .slice none 0 0, .slice none 0 0, .int .i64 0] ∧ w.heap.size + 1 + 1 < w1.heap.size ∧ W.ownsRow (w1.heap.size + 1) 3 1 (.slice (some ⟨w1.heap.size + 1, 0, none⟩) cs.length cs.length) cs.length (intVs (mixZ cs need 0)))) (Lib.hid ⟨HG1.out.trans hw13, hrb, by have := HG1.out.size; simp at this; omega, by rw [HM0.out]; exact HO3.out⟩) ?_
   clear hrb hw13 HO3 HG3 HG1
   generalize w1.heap.size = rb at *
   intro W0 HW0
   have hrbl := HW0.out.2.2.1
   go_loopw [12] (fun i wr => ∃ k : Nat, k ≤ cs.length ∧ i = .int .i64 k ∧ Hid (wr.ownsRow (rb + 1) 3 1 (.slice (some ⟨rb + 1, 0, none⟩) cs.length cs.length) cs.length (intVs (mixZ cs need k)) ∧ Below (rb + 1) W0 wr)) (fun i _ => cs.length - (intOf i).toNat)
   case atStart => exact ⟨0, by omega, rfl, Lib.hid ⟨HW0.out.2.2.2, Below.refl _ _⟩⟩
   case round =>
     obtain ⟨k, hk, rfl, HR⟩ := hrel
     obtain ⟨ho, hw⟩ := HR.out
     have hbs : Bw (((w.alloc (.cells #[.int .i64 1, .slice A1 n c1, .slice A2 k0 c2, .slice none 0 0, .slice none 0 0, .int .i64 0, .int .i64 0, .slice (some ad3) q c3, .int .i64 0, .slice A4 z c4] 33)).alloc (.cells #[.int .i64 0, .slice (some ad) n5 c5] 31)).alloc (.cells #[.int .i64 0, .slice none 0 0] 31)) wr := Below.trans HW0.out.1 (Below.mono hw (by simp; omega))
     have hbr := HW0.out.2.1.below hw (by omega)
     obtain ⟨hbw, bb0, bb1, -⟩ := BX.out.2 _ hbs
     obtain ⟨v0, v1, v2⟩ := bb1.c2
     obtain ⟨r0, r1, r2, r3, r4, r5, r6, r7, r8, r9, r10, r11, r12, r13, r14⟩ := hbr.c14
     have HO := Lib.hid ho
     have HW := Lib.hid hw
     have HBW := Lib.hid hbw
     by_cases hlt : k < cs.length
     · have e1 : k < need.length := by have := HNL.out; omega
       obtain ⟨bd, rfl, hbb, p0⟩ := (HND.out.bw hbw).at_ e1
       have z0 := QA.out _ hbw k hlt
       have hbb2 : bd.block < wr.heap.size := hbb
       have hpb : ad.block < wr.heap.size := Nat.lt_of_lt_of_le HAB.out hbw.size
       have hgl := (ho.lt _ rfl).2
       obtain ⟨m1, m2, ⟨m3, m4⟩, ⟨m5, m6⟩⟩ := HMX.out k hlt e1
       have o1 : wr.cell? ⟨rb + 1, k, none⟩ = some (.int .i64 0) := by rw [ho.cellAt k (by omega), m1]
       have o2 : wr.frozen? ⟨rb + 1, k, none⟩ = false := ho.frozenAt k
       have HM2 := Lib.hid m2
       have hz : (k : Int) < (cs.length : Int) := by omega
       have hz0 : (0 : Int) ≤ (k : Int) := by omega
       have hz5 : (1 : Int) + (k : Int) < (n5 : Int) := by have := HN5.out; omega
       clear ho hw HR m1 m2 hbs hbr hbw bb0 bb1
       generalize need[k] = x at *
       generalize cs[k] = y at *
       go_upto_region 15 with fail
       have hs1 : IntKind.i64.wrap (y - x) = y - x := IntWalk.i64_in _ (by omega)
       have hs2 : IntKind.i64.wrap (0 + (y - x)) = y - x := by rw [Int.zero_add]; exact hs1
       have hs3 : IntKind.i64.wrap (1 + (k : Int)) = 1 + (k : Int) := IntWalk.i64_in _ (by omega)
       have hs4 : (1 + (k : Int)).toNat = k + 1 := by omega
       have hs5 : (0 : Int) ≤ 1 + (k : Int) := by omega
       go_region
       all_goals
         clear hs1 hs2 hs3 hs4 hs5
         go_wp2
         go_roundw
         case rel =>
           refine ⟨k + 1, by omega, by go_num, Lib.hid ⟨?_, ?_⟩⟩
           · rw [← HM2.out]; exact ((own_kept_below HO.out ((Bw.refl wr).drewN _)).stored k _).1
           · exact Below.setCell (Below.trans HW.out (Below.mono ((Bw.refl wr).drewN _).b (by omega))) (Nat.le_refl _) _
         case measure => simp [intOf]; omega
     · obtain rfl : k = cs.length := by omega
       have HBS : Hid (Bw (((w.alloc (.cells #[.int .i64 1, .slice A1 n c1, .slice A2 k0 c2, .slice none 0 0, .slice none 0 0, .int .i64 0, .int .i64 0, .slice (some ad3) q c3, .int .i64 0, .slice A4 z c4] 33)).alloc (.cells #[.int .i64 0, .slice (some ad) n5 c5] 31)).alloc (.cells #[.int .i64 0, .slice none 0 0] 31)) wr) := Lib.hid hbs
       have HBR := Lib.hid hbr
       have hsz5 : w.heap.size + 1 + 1 < wr.heap.size := by have := hbs.size; simp at this; omega
       clear ho hw HR hbs hbr hbw bb0 bb1 HMX HM0 HND
       obtain ⟨wo, hwo⟩ : ∃ wo, wo = wr := ⟨_, rfl⟩
       subst hwo
       obtain ⟨i1, hi1, hy0, hy1, hy2⟩ := info_parts infoVal
       have S0 : Hid (VRow ((wo.alloc (.cells #[.int .i64 t9, .slice none 0 0] 31)).alloc (.cells #[.int .i64 0, .slice (some ⟨wo.heap.size, 0, none⟩) 1 1] 31)) 31 (wo.heap.size + 2) wo.heap.size (.slice (some ⟨wo.heap.size, 0, none⟩) 1 1) [V.mk t9 []] [.slice none 0 0]) := Lib.hid ⟨by
         have := (own_new wo 31 #[.int .i64 t9, .slice none 0 0] 2 (n := 1) (xs := [.int .i64 t9, .slice none 0 0]) rfl rfl).alloc (.cells #[.int .i64 0, .slice (some ⟨wo.heap.size, 0, none⟩) 1 1] 31)
         simpa [vCells] using this, rfl, fun k h1 h2 => by
         obtain rfl : k = 0 := by simpa using h1
         exact KAt.nil _ _ (Nat.zero_le _)⟩
       have B0 : Hid (Blk ((wo.alloc (.cells #[.int .i64 t9, .slice none 0 0] 31)).alloc (.cells #[.int .i64 0, .slice (some ⟨wo.heap.size, 0, none⟩) 1 1] 31)) (wo.heap.size + 1) 31 #[.int .i64 0, .slice (some ⟨wo.heap.size, 0, none⟩) 1 1]) := Lib.hid (by
         have := Blk.new (wo.alloc (.cells #[.int .i64 t9, .slice none 0 0] 31)) 31 #[.int .i64 0, .slice (some ⟨wo.heap.size, 0, none⟩) 1 1]
         simpa only [World.size_alloc] using this)
       go_wp2
       go_loopw [15] (fun i wr => ∃ k : Nat, k ≤ cs.length ∧ i = .int .i64 k ∧ Hid (∃ sv ss, Blk wr (wo.heap.size + 1) 31 #[.int .i64 0, sv] ∧ sv.ownBlock ≠ some (wo.heap.size + 1) ∧ VRow wr 31 (wo.heap.size + 2) wo.heap.size sv (V.mk t9 [] :: (DC.take k).map fun c => V.mk c []) ss ∧ (DC.take k).any (fun x => decide (1048576 < x)) = false ∧ Bw wo wr)) (fun i _ => cs.length - (intOf i).toNat)
       case atStart => exact ⟨0, by omega, rfl, Lib.hid ⟨_, _, B0.out, by simp [Value.ownBlock], S0.out, rfl, (((Bw.refl _).alloc _).alloc _)⟩⟩
       case round =>
         clear S0 B0 v0 v1 v2 r0 r1 r2 r3 r4 r5 r6 r7 r8 r9 r10 r11 r12 r13 r14
         obtain ⟨k, hk, rfl, HR⟩ := hrel
         obtain ⟨sv, ss, hb2, hne, hvv, han, hw⟩ := HR.out
         have hlk : (V.mk t9 [] :: (DC.take k).map fun c => V.mk c []).length = k + 1 := by simp; have := HDL.out; omega
         obtain ⟨VA, vc, rfl, _, _⟩ := hvv.form
         rw [hlk] at hvv hb2 hne
         have p0 := hb2.cell 0
         have p1 := hb2.cell 1
         have f1 := hb2.frozen 1
         have z2 := hb2.lt
         obtain ⟨hbw, -, -, hb0⟩ := BX.out.2 _ (HBS.out.trans hw)
         have r0 := hb0.cell 0
         have r1 := hb0.cell 1
         have rf0 := hb0.frozen 0
         have rf1 := hb0.frozen 1
         have hbr := HBR.out.below hw.b HBR.out.lt
         have r4 := hbr.cell 4
         have rbl := hbr.lt
         have HB2 := Lib.hid hb2
         have HB0 := Lib.hid hb0
         have HV := Lib.hid hvv
         have HW := Lib.hid hw
         have HNE := Lib.hid hne
         have HLK := Lib.hid hlk
         have HAN := Lib.hid han
         have HBWr := Lib.hid hbw
         have hsw := hw.size
         by_cases hlt : k < cs.length
         · have e1 : k < DC.length := by have := HDL.out; omega
           have e4 : k < give.length := by have := HGL.out; omega
           have ho2 := own_kept_below HO.out hw
           obtain ⟨x, m1, m2, m3, m4, m5, m6⟩ := HMD.out k hlt e4 e1
           have o1 : wr.cell? ⟨rb + 1, k, none⟩ = some (.int .i64 x) := by rw [ho2.cellAt k (by omega), m1]
           have ol := (ho2.lt _ rfl).2
           obtain ⟨gd, rfl, hgb, q0⟩ := (HGV.out.bw hbw).at_ e4
           have hgb2 : gd.block < wr.heap.size := hgb
           have HT : Hid ((V.mk t9 [] :: (DC.take (k + 1)).map fun c => V.mk c []) = (V.mk t9 [] :: (DC.take k).map fun c => V.mk c []) ++ [V.mk DC[k] []]) := Lib.hid (by rw [List.take_succ_eq_append_getElem e1, List.map_append]; rfl)
           have HTA : Hid ((DC.take (k + 1)).any (fun x => decide (1048576 < x)) = decide (1048576 < DC[k])) := Lib.hid (by rw [List.take_succ_eq_append_getElem e1, List.any_append, han]; simp)
           have HTB : Hid (1048576 < DC[k] → DC.any (fun x => decide (1048576 < x)) = true) := Lib.hid (fun h => any_take DC e1 han (by simpa using h))
           clear hb2 hne hb0 hvv hw HR hlk han m1 ho2 hbr hbw
           generalize give[k] = y at *
           generalize DC[k] = dk at *
           subst m2
           have hk1 : (k : Int) < (cs.length : Int) := by omega
           by_cases hbig : (1048576 : Int) < x + y
           · have HRR : Hid ((V.mk 0 [], (1 : Int)) = RV) := Lib.hid (by have := HRV.out; rwa [if_pos (HTB.out hbig)] at this)
             clear HT HTA HTB
             go_wp2_with fail
             have hs1 : IntKind.i64.wrap (x + y) = x + y := IntWalk.i64_in _ (by omega)
             have dd : decide ((1048576 : Int) < x + y) = true := decide_eq_true hbig
             go_quiet (fail)
             clear hs1 dd
             go_wp2
             obtain ⟨hbb, hgr⟩ := blk2 (v0 := .int .i64 0) (v1 := .slice none 0 0) (HB0.out.drewN _)
             refine bodyPost_ret (rrow1 (p := 6) (q := 7) (ty := 31) rfl _ _ (w.heap.size + 1 + 1) _ _ rfl (run_loadVar_row _ _ 31 31 _ (0, 0) _ hbb Tryz.underlying31 rfl (by kernel_rfl)) rfl) rfl ?_
             have hbw := HBWr.out.drewN nq
             rw [← HRR.out]
             exact ⟨_, rfl, KAt.nil _ _ (Nat.zero_le _), Below.grown hbw hgr hbw.size (fun r e => by injection e with e; omega)⟩
           · generalize hl : (V.mk t9 [] :: (DC.take k).map fun c => V.mk c []) = l at *
             clear hl HTB
             have hbig2 : x + y ≤ 1048576 := by omega
             go_wp2_with fail
             have hs1 : IntKind.i64.wrap (x + y) = x + y := IntWalk.i64_in _ (by omega)
             have dd : decide ((1048576 : Int) < x + y) = false := decide_eq_false (by omega)
             go_quiet (fail)
             go_wp2_with fail
             refine wp_world (fun W => Hid (∃ nq, W = wr.drewN nq)) (Lib.hid ⟨_, rfl⟩) ?_
             intro W HWq
             have HWB : Hid (∀ W', Bw W W' → Bw wr W') := Lib.hid (by obtain ⟨nq, e⟩ := HWq.out; rw [e]; exact fun W' g => ((Bw.refl wr).drewN nq).trans g)
             have HWC : Hid (∀ q, W.cell? q = wr.cell? q) := Lib.hid (by obtain ⟨nq, e⟩ := HWq.out; rw [e]; exact fun q => rfl)
             have HWS : Hid (W.heap.size = wr.heap.size) := Lib.hid (by obtain ⟨nq, e⟩ := HWq.out; rw [e]; rfl)
             have HVW : Hid (VRow W 31 (wo.heap.size + 2) wo.heap.size (.slice VA (k + 1) vc) l ss) := Lib.hid (HV.out.bw (by obtain ⟨nq, e⟩ := HWq.out; rw [e]; exact (Bw.refl wr).drewN nq))
             replace o1 := (HWC.out _).trans o1
             replace q0 := (HWC.out _).trans q0
             replace p1 := (HWC.out _).trans p1
             replace r4 := (HWC.out _).trans r4
             have HB2W : Hid (Blk W (wo.heap.size + 1) 31 #[.int .i64 0, .slice VA (k + 1) vc]) := Lib.hid (by obtain ⟨nq, e⟩ := HWq.out; rw [e]; exact HB2.out.drewN nq)
             rw [← HWS.out] at z2 ol hgb2 rbl
             have f1 := HB2W.out.frozen 1
             have HOA : Hid (∀ o, (W.alloc o).ownsRow wo.heap.size 31 2 (.slice VA (k + 1) vc) (k + 1) (vCells l ss)) := Lib.hid (fun o => by have := HVW.out.own.alloc o; rwa [HLK.out] at this)
             have HS2 := Lib.hid hs1
             have HWo : Hid (Bw wo W) := Lib.hid (by obtain ⟨nq, e⟩ := HWq.out; rw [e]; exact HW.out.drewN nq)
             have HHL := Lib.hid HWS.out
             clear hs1 dd CE RX QA HMD HDL HNL HGL HN5 BX HRV HZ2 hm9 HBW HO HBS HB0 HV HB2 HBWr HGV HAB HWq HWB HWC HAN r0 r1 rf0 rf1 HW hsw hz0 hz1 hi0
             go_region_law (first
               | (go_loud (refine step_append_any _ rfl (.tmp 100) (.tmp 112) 29 rfl wo.heap.size 31 i1 _ 2 32 Tryz.underlying29 hi1 hy0 hy1 hy2 rfl (by decide) (.slice VA (k + 1) vc) (k + 1) (vCells l ss) (by simp [Act.eval, Act.put]) (by exact own_kept_below (HOA.out _) (Bw.refl _).drew) (W.heap.size + 1) (some ⟨W.heap.size, 0, none⟩) 1 1 [.int .i64 (IntKind.i64.wrap (x + y)), .slice none 0 0] (by simp [Act.eval, Act.put]) (by exact (reads_new2 W _ _ _).drew) (one2 _ _ _ _) (by unfold maxLen; omega) (by omega) (by have := HWS.out; simp; omega) ?_; intro v7 w7 hown7 hgr7 hl7; obtain ⟨A7, c7, rfl⟩ := own_form hown7; (have HO7 := Lib.hid hown7); (have HG7 := Lib.hid hgr7); (have HL7 := Lib.hid hl7); (have hb7 : Blk w7 (wo.heap.size + 1) 31 #[.int .i64 0, .slice VA (k + 1) vc] := ((HB2W.out.alloc _).drew).grown hgr7 (fun e => HNE.out e.symm)); (have y1 := hb7.cell 1); (have y3 := hb7.frozen 1); (have y4 := hb7.lt); (have HB7 := Lib.hid hb7); clear hown7 hgr7 hl7 hb7)))
             all_goals
               have hz2 := HHL.out
               go_wp2
               go_roundw
               case rel =>
                 have hbw7 : Bw wo w7 := Below.grown (HWo.out.alloc _).drew HG7.out (by simp; omega) (fun r e => by have := (HVW.out.own.lt r e).1; omega)
                 have e1 := grownBy_setCell (p := ⟨wo.heap.size + 1, 1, none⟩) (World.grownBy.refl w7 (some (wo.heap.size + 1))) (.inl rfl) (.slice A7 (k + 1 + 1) c7)
                 have hne7 : (Value.slice A7 (k + 1 + 1) c7).ownBlock ≠ some (wo.heap.size + 1) := by
                   rcases HL7.out with e | e
                   · rw [e]; exact HNE.out
                   · rw [e]; intro e2; injection e2 with e2; simp at e2; omega
                 have h1 := (HVW.out.bw (((Bw.refl W).alloc (.cells #[.int .i64 (IntKind.i64.wrap (x + y)), .slice none 0 0] 31)).drew)).push (x := .mk (IntKind.i64.wrap (x + y)) []) (s := .slice none 0 0) (KAt.nil _ _ (Nat.zero_le _)) (by rw [HLK.out]; exact HO7.out) HG7.out HL7.out
                 rw [HS2.out] at h1
                 refine ⟨k + 1, by omega, by go_num, Lib.hid ⟨.slice A7 (k + 1 + 1) c7, ss ++ [.slice none 0 0], blk_set (i := 1) (.slice A7 (k + 1 + 1) c7) HB7.out, hne7, ?_, by rw [HTA.out]; exact decide_eq_false (by omega), Below.grown hbw7 e1 hbw7.size (fun r e => by injection e with e; omega)⟩⟩
                 rw [HT.out]
                 exact h1.keep e1 (fun r e => by injection e with e; subst e; exact ⟨hne7, by omega⟩)
               case measure => simp [intOf]; omega
         · obtain rfl : k = cs.length := by omega
           have HRR : Hid ((cfgV t9 DC, (0 : Int)) = RV) := Lib.hid (by
             have h2 := HRV.out
             rw [List.take_of_length_le (by rw [HDL.out]; exact Nat.le_refl _)] at han
             rwa [han, if_neg (by simp)] at h2)
           clear hb2 hne hb0 hvv hw HR hlk han
           go_wp2
           obtain ⟨hbb, hgr⟩ := blk2 (v0 := .int .i64 0) (v1 := .slice VA (cs.length + 1) vc) HB0.out
           refine bodyPost_ret (rrow1 (p := 6) (q := 7) (ty := 31) rfl _ _ (w.heap.size + 1 + 1) _ _ rfl (run_loadVar_row _ _ 31 31 _ (0, 0) _ hbb Tryz.underlying31 rfl (by kernel_rfl)) rfl) rfl ?_
           rw [← HRR.out]
           have hsz := hgr.size
           refine ⟨_, rfl, ?_, Below.grown HBWr.out hgr HBWr.out.size (fun r e => by injection e with e; omega)⟩
           have h1 := VRow.fresh (b0 := wo.heap.size) HV.out (by omega) (by omega)
           rw [List.take_of_length_le (by rw [HDL.out]; exact Nat.le_refl _)] at h1
           exact h1.keep (fun b hb => ⟨by omega, Nat.lt_of_lt_of_le hb.2 hsz⟩) (fun p hp => World.cell?_of_block (hgr.block p.block hp.2 (fun e => by injection e with e; omega)))
end
end Go.Proofs.YthhbkabdhkdafaaGreat
