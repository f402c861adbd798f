/- Part of a proof of pruneShows_holds. -/
import Derived.Test.YthhbkabdhkdafaaGreatUBmQ
import Derived.Test.YthhbkabdhkdafaaGreatUBrQ
import Derived.JoinedOf
set_option linter.unusedSimpArgs false
set_option linter.unusedVariables false
set_option maxRecDepth 100000
set_option maxHeartbeats 16000000
namespace Go.Proofs.YthhbkabdhkdafaaGreat
section
open Go.RowKit
theorem q10Check_any (rs : List (List Int)) (n k : Nat) (ho : MxOk rs n k) (v : Value) (w : World) (h : MxAt w (· < w.heap.size) v rs) : Calls Tryz.prog 62 #[v] w (NumPost w 0) := by
 obtain ⟨A, c, rfl, h3, h4⟩ := h.form
 have HL : Hid (∀ i (hi : i < rs.length), rs[i].length = k) := Lib.hid (fun i hi => ho.rw _ (List.getElem_mem hi))
 have HE : Hid (∀ i (hi : i < rs.length) j (hj : j < rs[i].length), -16 ≤ rs[i][j] ∧ rs[i][j] ≤ 16) := Lib.hid (fun i hi j hj => ho.en _ (List.getElem_mem hi) _ (List.getElem_mem hj))
 have HM := Lib.hid h
 have n1 := ho.n1
 have k1 := ho.k1
 obtain ⟨ad, rA, rc, rfl, hab, z0, -⟩ := h.at_ (k := 0) (by rw [ho.ln]; omega)
 rw [HL.out 0 (by rw [ho.ln]; omega)] at z0
 have hln := ho.ln
 rw [hln] at h3 HM ⊢
 have HLN := Lib.hid hln
 have HZ : Hid (∀ W, Bw w W → W.cell? ad = some (.slice rA k rc)) := Lib.hid (fun W g => (g.b.cell hab).trans (by simpa [Addr.add] using z0))
 have z1 := HZ.out w (Bw.refl _)
 have d1 : decide ((n : Int) < 1) = false := decide_eq_false (by omega)
 have d2 : decide ((12 : Int) < (n : Int)) = false := decide_eq_false (by omega)
 have d3 : decide ((k : Int) < 1) = false := decide_eq_false (by omega)
 have d4 : decide ((12 : Int) < (k : Int)) = false := decide_eq_false (by omega)
 have d5 : decide ((6 : Int) < (n : Int)) = false := decide_eq_false (by omega)
 clear ho h hln z0
 go_enter Tryz.func62, Tryz.ntmps62
 go_wp2_with fail
 clear z1 d1 d2 d3 d4 d5
 go_loopw [3] (fun s3 wr => ∃ q : Nat, q ≤ n ∧ s3 = .int .i64 (q : Int) ∧ Hid (Bw w wr)) (fun s3 _ => n - (intOf s3).toNat)
 case atStart => exact ⟨0, by omega, rfl, Lib.hid (Bw.refl _)⟩
 case round =>
   obtain ⟨wo, hwo⟩ : ∃ wo, wo = wr := ⟨_, rfl⟩
   subst hwo
   obtain ⟨q, hq, rfl, HB⟩ := hrel
   by_cases hlt : q < n
   · have hlt' : (q : Int) < (n : Int) := by omega
     have hql : q < rs.length := by rw [HLN.out]; exact hlt
     obtain ⟨ad', rB, rd, e, hab', z2, hi⟩ := (HM.out.bw HB.out).at_ hql
     injection e with e
     subst e
     have hlq := HL.out q hql
     rw [hlq] at z2 hi
     have HI := Lib.hid hi
     have HZQ := Lib.hid z2
     have HEQ := Lib.hid (HE.out q hql)
     have z1 := HZ.out wo HB.out
     have g1 : ∀ p, (wo.drewN p).cell? ad = some (.slice rA k rc) := fun p => z1
     have g2 : ∀ p, (wo.drewN p).cell? (ad.add q) = some (.slice rB k rd) := fun p => z2
     have hnn : ((k : Int) != (k : Int)) = false := by simp
     have hlq2 := Lib.hid hlq
     clear hi hlq
     go_wp2_with fail
     go_quiet (fail)
     go_wp2_with fail
     obtain ⟨wn, hwn⟩ : ∃ wn, wo.drewN nq = wn := ⟨_, rfl⟩
     have HWN : Hid (Bw wo wn) := Lib.hid (by rw [← hwn]; exact (Bw.refl _).drewN _)
     rw [hwn]
     clear hwn z1 z2 g1 g2 hnn
     go_loopw [4] (fun s4 wr => ∃ j : Nat, j ≤ k ∧ s4 = .int .i64 (j : Int) ∧ Hid (Bw wo wr)) (fun s4 _ => k - (intOf s4).toNat)
     case atStart => exact ⟨0, by omega, rfl, HWN⟩
     case round =>
       obtain ⟨wi, hwi⟩ : ∃ wi, wi = wr := ⟨_, rfl⟩
       subst hwi
       obtain ⟨j, hj, rfl, HC⟩ := hrel
       have hx2 := HI.out.bw HC.out
       have z2 : wi.cell? (ad.add q) = some (.slice rB k rd) := (HC.out.b.cell (p := ad.add q) (by rw [add_block]; exact hab')).trans HZQ.out
       by_cases hltj : j < k
       · have hltj' : (j : Int) < (k : Int) := by omega
         have hjq : j < rs[q].length := by rw [hlq2.out]; exact hltj
         obtain ⟨ad2, rfl, hb2, z4⟩ := hx2.at_ hjq
         have he := HEQ.out j hjq
         generalize rs[q][j] = x at *
         have e1 : decide (x < -16) = false := decide_eq_false (by omega)
         have e2 : decide ((16 : Int) < x) = false := decide_eq_false (by omega)
         clear hx2
         go_wp2_with fail
         exact ⟨⟨j + 1, by omega, by go_num, HC⟩, by simp [intOf]; omega⟩
       · obtain rfl : j = k := by omega
         clear hx2
         go_wp2_with fail
         exact ⟨⟨q + 1, by omega, by go_num, Lib.hid (HB.out.trans HC.out)⟩, by simp [intOf]; omega⟩
   · obtain rfl : q = n := by omega
     go_wp2_with fail
     go_ret
     exact ⟨rfl, HB.out⟩
theorem q11Check_any (rs : List (List Int)) (n k : Nat) (ho : MxOk rs n k) (v : Value) (w : World) (h : MxAt w (· < w.heap.size) v rs) : Calls Tryz.prog 35 #[v] w (NumPost w 0) := by
 have CK := Lib.hid (q10Check_any rs n k ho v w h)
 obtain ⟨A, c, rfl, -, -⟩ := h.form
 have n6 := ho.n1
 have hl := ho.ln
 rw [hl] at CK ⊢
 have d1 : decide ((6 : Int) < (n : Int)) = false := decide_eq_false (by omega)
 have d2 : ¬ ((6 : Int) < (n : Int)) := by omega
 clear h hl ho
 go_enter Tryz.func35, Tryz.ntmps35
 go_wp2_with (go_at_call 62; go_must (refine CK.out.mono ?_; rintro e w1 ⟨rfl, hg1⟩))
 go_ret
 exact ⟨rfl, hg1⟩
def zF (y : List Int) (i : Nat) : Bool := (y.take i).all (· == 0)
theorem zF_succ {y : List Int} {i : Nat} (h : i < y.length) : zF y (i + 1) = (zF y i && (y[i] == 0)) := by
 unfold zF
 rw [List.take_succ_eq_append_getElem h, List.all_append]
 simp
theorem zF_end {y : List Int} (h : ∃ x ∈ y, 0 < x) : zF y y.length = false := by
 unfold zF
 rw [List.take_length, List.all_eq_false]
 obtain ⟨x, hx, h0⟩ := h
 exact ⟨x, hx, by simp; omega⟩
theorem q11Holds_any (rs : List (List Int)) (n k : Nat) (ho : MxOk rs n k) (y : List Int) (hl : y.length = n) (hy : ∀ x ∈ y, 0 ≤ x ∧ x ≤ 4) (hz : ∀ j, j < k → dotI y (colP rs j) = 0) (hp : ∃ x ∈ y, 0 < x) (v1 v2 : Value) (w : World) (h1 : MxAt w (· < w.heap.size) v1 rs) (h2 : IB w w.heap.size v2 y) :
   Calls Tryz.prog 14 #[v1, v2] w (BoolPost w true) := by
 have CK : Hid (∀ W, Bw w W → Calls Tryz.prog 35 #[v1] W (NumPost W 0)) := Lib.hid (fun W g => q11Check_any rs n k ho v1 W (h1.bw g))
 obtain ⟨A, c, rfl, h3, h4⟩ := h1.form
 obtain ⟨YA, yn, yc, rfl, hyl, -, -⟩ := h2.form
 obtain rfl : yn = n := by rw [← hyl]; exact hl
 have HLR : Hid (∀ i (hi : i < rs.length), rs[i].length = k) := Lib.hid (fun i hi => ho.rw _ (List.getElem_mem hi))
 have hln := ho.ln
 have n1 := ho.n1
 have k1 := ho.k1
 have HEN : Hid (∀ i (hi : i < rs.length) j (hj : j < rs[i].length), -16 ≤ rs[i][j] ∧ rs[i][j] ≤ 16) := Lib.hid (fun i hi j hj => ho.en _ (List.getElem_mem hi) _ (List.getElem_mem hj))
 have HY := Lib.hid hy
 have HYL := Lib.hid hyl
 have HZD := Lib.hid hz
 have HZE : Hid (zF y yn = false) := Lib.hid (by rw [← hyl]; exact zF_end hp)
 have HZS : Hid (∀ i (h : i < y.length), zF y (i + 1) = (zF y i && (y[i] == 0))) := Lib.hid (fun i h => zF_succ h)
 have HCL : Hid (∀ j, (colP rs j).length = yn) := Lib.hid (fun j => by rw [colP, List.length_map, hln])
 obtain ⟨ad, rA, rc, rfl, hab, z0, -⟩ := h1.at_ (k := 0) (by omega)
 rw [HLR.out 0 (by omega)] at z0
 have HC0 : Hid (∀ W, Bw w W → W.cell? ad = some (.slice rA k rc)) := Lib.hid (fun W g => (g.b.cell hab).trans (by simpa [Addr.add] using z0))
 rw [hln] at CK h1 ⊢
 have HM := Lib.hid h1
 have HI := Lib.hid h2
 have HLN := Lib.hid hln
 have HD : Hid (∀ j, j < k → dotS y (colP rs j) yn = 0) := Lib.hid (fun j hj => by
   rw [← hyl]
   exact (dot_getD y (colP rs j) (by rw [hyl, HCL.out])).symm.trans (hz j hj))
 have HDB : Hid (∀ j, j < k → ∀ i, i ≤ yn → -(i * 64 : Int) ≤ dotS y (colP rs j) i ∧ dotS y (colP rs j) i ≤ (i * 64 : Int)) := Lib.hid (fun j hj i => by
   induction i with
   | zero => intro _; simp [dotS]
   | succ i ih =>
     intro hi
     have a := ih (by omega)
     rw [dotS_succ]
     have b := bd_getD hy (j := i) (by omega)
     have hir : i < rs.length := by omega
     have hjr : j < rs[i].length := by rw [HLR.out i hir]; exact hj
     have e : (colP rs j).getD i 0 = rs[i][j] := by simp [colP, List.getD, hir, hjr]
     have d := HEN.out i hir j hjr
     rw [← e] at d
     have h5 := Int.mul_le_mul_of_nonneg_left d.2 b.1
     have h6 := Int.mul_le_mul_of_nonneg_left d.1 b.1
     omega)
 clear h1 h2 hl hy hz hp z0 hln hyl ho hab
 have hnn : ((yn : Int) != (yn : Int)) = false := by simp
 go_enter Tryz.func14, Tryz.ntmps14
 go_wp2_with (go_at_call 35; go_must (refine (CK.out _ (Bw.refl _)).mono ?_; rintro e w1 ⟨rfl, hg1⟩; (have HG1 := Lib.hid hg1); clear hg1))
 clear CK hnn
 go_loopw [5, 6] (fun s5 s6 wr => ∃ i : Nat, i ≤ yn ∧ s6 = .int .i64 (i : Int) ∧ s5 = .bool (zF y i) ∧ Hid (Bw w wr)) (fun _ s6 _ => yn - (intOf s6).toNat)
 case atStart => exact ⟨0, by omega, rfl, rfl, HG1⟩
 case round =>
   obtain ⟨wo, hwo⟩ : ∃ wo, wo = wr := ⟨_, rfl⟩
   subst hwo
   obtain ⟨i, hi, rfl, rfl, HB⟩ := hrel
   by_cases hlt : i < yn
   · have hlt' : (i : Int) < (yn : Int) := by omega
     have hiy : i < y.length := by rw [HYL.out]; exact hlt
     obtain ⟨ya, rfl, hyb, zy⟩ := (HI.out.bw HB.out).at_ hiy
     have hb := HY.out _ (List.getElem_mem hiy)
     have HS := Lib.hid (HZS.out i hiy)
     generalize y[i] = x at *
     have e1 : decide (x < 0) = false := decide_eq_false (by omega)
     have e2 : decide ((1099511627776 : Int) < x) = false := decide_eq_false (by omega)
     rcases hzf : zF y i with _ | _
     · rw [hzf] at HS
       go_wp2_with fail
       exact ⟨⟨i + 1, by omega, by go_num, by rw [HS.out]; rfl, HB⟩, by simp [intOf]; omega⟩
     · rw [hzf] at HS
       go_wp2_with fail
       exact ⟨⟨i + 1, by omega, by go_num, by rw [HS.out]; rfl, HB⟩, by simp [intOf]; omega⟩
   · obtain rfl : i = yn := by omega
     have HZE2 := HZE.out
     rw [HZE2]
     have z1 := HC0.out wo HB.out
     go_wp2_with fail
     clear z1
     go_loopw [7] (fun s7 wr => ∃ j : Nat, j ≤ k ∧ s7 = .int .i64 (j : Int) ∧ Hid (Bw w wr)) (fun s7 _ => k - (intOf s7).toNat)
     case atStart => exact ⟨0, by omega, rfl, HB⟩
     case round =>
       clear HB
       obtain ⟨wp, hwp⟩ : ∃ wp, wp = wr := ⟨_, rfl⟩
       subst hwp
       obtain ⟨j, hj, rfl, HB⟩ := hrel
       have z1 := HC0.out wp HB.out
       by_cases hltj : j < k
       · have hltj' : (j : Int) < (k : Int) := by omega
         have HDj := Lib.hid (HD.out j hltj)
         have HDBj := Lib.hid (HDB.out j hltj)
         go_wp2_with fail
         clear z1
         go_loopw [8, 9] (fun s8 s9 wr => ∃ q : Nat, q ≤ i ∧ s9 = .int .i64 (q : Int) ∧ s8 = .int .i64 (dotS y (colP rs j) q) ∧ Hid (Bw w wr)) (fun _ s9 _ => i - (intOf s9).toNat)
         case atStart => exact ⟨0, by omega, rfl, rfl, HB⟩
         case round =>
           clear HB
           obtain ⟨wi, hwi⟩ : ∃ wi, wi = wr := ⟨_, rfl⟩
           subst hwi
           obtain ⟨q, hq, rfl, rfl, HB⟩ := hrel
           by_cases hltq : q < i
           · have hltq' : (q : Int) < (i : Int) := by omega
             have hqy : q < y.length := by rw [HYL.out]; exact hltq
             have hqr : q < rs.length := by rw [HLN.out]; exact hltq
             obtain ⟨ya, rfl, hyb, zy⟩ := (HI.out.bw HB.out).at_ hqy
             obtain ⟨ad', rB, rd, e, hab', z2, hrow⟩ := (HM.out.bw HB.out).at_ hqr
             injection e with e
             subst e
             have hjr : j < rs[q].length := by rw [HLR.out q hqr]; exact hltj
             obtain ⟨ra, rfl, hrb, zr⟩ := hrow.at_ hjr
             rw [HLR.out q hqr] at z2
             have hb := HY.out _ (List.getElem_mem hqy)
             have hd := HEN.out q hqr j hjr
             have hdb := HDBj.out q hq
             have HSS : Hid (dotS y (colP rs j) (q + 1) = dotS y (colP rs j) q + y[q] * rs[q][j]) := Lib.hid (by
               rw [dotS_succ]
               have e1 : y.getD q 0 = y[q] := by simp [List.getD, hqy]
               have e2 : (colP rs j).getD q 0 = rs[q][j] := by simp [colP, List.getD, hqr, hjr]
               rw [e1, e2])
             clear hrow
             generalize dotS y (colP rs j) q = s0 at *
             generalize y[q] = x at *
             generalize rs[q][j] = u at *
             have hm1 := Int.mul_le_mul_of_nonneg_left hd.2 hb.1
             have hm2 := Int.mul_le_mul_of_nonneg_left hd.1 hb.1
             have hw1 : IntKind.i64.wrap (x * u) = x * u := IntWalk.i64_in _ (by omega)
             have hw2 : IntKind.i64.wrap (s0 + x * u) = s0 + x * u := IntWalk.i64_in _ (by omega)
             have HMM := Lib.hid (And.intro hm1 hm2)
             clear hm1 hm2
             have g1 : ∀ p, (wi.drewN p).cell? (ya.add q) = some (.int .i64 x) := fun p => zy
             have g2 : ∀ p, (wi.drewN p).cell? (ad.add q) = some (.slice (some ra) k rd) := fun p => z2
             have g3 : ∀ p, (wi.drewN p).cell? (ra.add j) = some (.int .i64 u) := fun p => zr
             go_wp2_with fail
             go_quiet (fail)
             go_wp2_with fail
             exact ⟨⟨q + 1, by omega, by go_num, by rw [HSS.out], Lib.hid (HB.out.trans ((Bw.refl _).drewN _))⟩, by simp [intOf]; omega⟩
           · obtain rfl : q = i := by omega
             have hd0 := HDj.out
             rw [hd0]
             go_wp2_with fail
             exact ⟨⟨j + 1, by omega, by go_num, HB⟩, by simp [intOf]; omega⟩
       · obtain rfl : j = k := by omega
         go_wp2_with fail
         go_ret
         exact ⟨rfl, HB.out⟩
end
section
open Go Go.ChangeShapes Go.WideShapes Go.ChangeAt Go.RowKit Go.Deep
theorem laidOut : laidOutB Tryz.prog = true := by kernel_rfl
theorem seedsArg_of {H : Type} {enc : TypeId × Value → H} {W : World} {a : Option Addr} {len cap : Nat} {d : DataW H} {p : List MemPlace} (h0 : DataW.Trod enc Tryz.prog W 0 (fun _ => true) true 22 (.slice a len cap) d p) : SeedsArg W a len cap := by
 obtain ⟨fuel, hf⟩ := h0
 rcases open_ints Tryz.underlying22 Tryz.underlying5 (by kernel_rfl) hf with ⟨hcs, _⟩ | ⟨x, l, c, zs, hcs, _, hl, hm, hz, _, hcell, hwz⟩
 · simp [Value.cells] at hcs
   obtain ⟨rfl, rfl, rfl⟩ := hcs
   exact ⟨Nat.le_refl _, by omega, [], fun k hk => by omega⟩
 · simp [Value.cells] at hcs
   obtain ⟨rfl, rfl, rfl⟩ := hcs
   have hz' : zs.length = cap := by simpa using hz
   refine ⟨hl, by unfold maxLen at hm; exact hm, zs, fun k hk => ?_⟩
   have hk' : k < zs.length := by omega
   have hc := hcell k hk'
   have hb := bounds_u8 (hwz _ (List.getElem_mem hk'))
   have hg : zs.getD k 0 = zs[k] := by simp [List.getD, hk']
   refine ⟨_, rfl, ?_, hc, by rw [hg]; exact hb.1, by rw [hg]; exact hb.2⟩
   have h2 : (x.add k).block < W.heap.size := by
     by_cases hg : (x.add k).block < W.heap.size
     · exact hg
     · exfalso
       simp only [World.cell?, Array.getElem?_eq_none (Nat.le_of_not_lt hg)] at hc
       cases hc
   rwa [add_block] at h2
end
end Go.Proofs.YthhbkabdhkdafaaGreat
