/- Part of a proof of pruneShows_holds. -/
import Derived.Test.YthhbkabdhkdafaaGreatUBkQ
import Derived.Test.YthhbkabdhkdafaaGreatUBmQ
import Derived.Test.YthhbkabdhkdafaaGreatSortLayIQ
import Derived.Shelf.SlSortCmp.Whole1
set_option linter.unusedSimpArgs false
set_option linter.unusedVariables false
set_option maxRecDepth 100000
set_option maxHeartbeats 16000000
namespace Go.Proofs.YthhbkabdhkdafaaGreat
section
open Go.RowKit
theorem sfSupp1_any (x : Int) (W : World) : Calls Tryz.prog 216 #[.int .i64 x] W (BoolPost W (decide (x ≤ 0))) := by
 go_enter Tryz.func216, Tryz.ntmps216
 go_wp2_with fail
 go_ret
 exact ⟨rfl, Bw.refl _⟩
def SuppPost (w : World) (n : Nat) (r : Option (List Int)) (e : Ending) (w' : World) : Prop := ∃ (A : Option Addr) (k c : Nat) (ok : Bool), e = .returned (.tuple #[.slice A k c, .bool ok]) ∧ Bw w w' ∧ ((r = none ∧ ok = false) ∨ ∃ y, r = some y ∧ ok = true ∧ k = n ∧ y.length = n ∧ w'.ownsRow w.heap.size 3 1 (.slice A k c) n (intVs y))
theorem bit_go (s i : Nat) (hs : s < 4) (hi : i < 2) : (bits BinOp.and IntKind.i64 ((s : Int) / 2 ^ i) 1 == 1) = bitB s i := by
 rcases (by omega : s = 0 ∨ s = 1 ∨ s = 2 ∨ s = 3) with rfl | rfl | rfl | rfl <;> rcases (by omega : i = 0 ∨ i = 1) with rfl | rfl <;> rfl
theorem mxAt_row {W : World} {B : Nat} {OA : Option Addr} {q oc : Nat} {ps : List (List Int × Value)} (ho : W.ownsRow B 27 1 (.slice OA q oc) q (ps.map (·.2))) (hl : ps.length = q) (hk : ∀ p ∈ ps, IAt W (· < W.heap.size) p.2 p.1) : MxAt W (· < W.heap.size) (.slice OA q oc) (ps.map (·.1)) := by
 obtain ⟨A', c', e, h1, h2⟩ := own_bounds ho
 injection e with e1 e2 e3
 subst e1 e3
 refine ⟨OA, q, oc, ps.map (·.2), rfl, by simp [hl], h1, h2, by simp [hl], fun hn => ?_, fun k a b => ?_⟩
 · obtain ⟨g, rfl, h3, h4, h5, h6⟩ := own_at ho hn
   exact ⟨_, rfl, h5, fun k hk => h6 k _ (List.getElem?_eq_getElem hk)⟩
 · have hk2 : k < ps.length := by simpa using a
   simp only [List.getElem_map]
   exact hk _ (List.getElem_mem hk2)
theorem kernP_len {M : List (List Int)} {k : Nat} {v : List Int} (h : v ∈ kernP M k) : v.length = k := by
 rw [kernP_eq, kernL] at h
 obtain ⟨f, _, rfl⟩ := List.mem_map.1 h
 rw [primP, List.length_map]
 exact kernS_len M k _ _ _ f _
theorem supp_none {c : List (List Int)} {k s : Nat} (h : (kernP (trP (setRows c s) k) (setRows c s).length).length ≠ 1) : suppP c k s = none := by
 unfold suppP
 split
 · rename_i v hv; rw [hv] at h; exact absurd rfl h
 · rfl
theorem supp_one {c : List (List Int)} {k s : Nat} {v : List Int} (h : kernP (trP (setRows c s) k) (setRows c s).length = [v]) : suppP c k s = if v.any (fun x => decide (x ≤ 0)) then none else some (fillA s v c.length) := by
 unfold suppP
 rw [h]
 simp only
 rw [fillP_all]
theorem fill_next (s : Nat) (y : List Int) (i n : Nat) (h : i < n) (x : Int) (hx : x = if bitB s i then y.getD (cntB s i) 0 else 0) : (fillA s y i ++ List.replicate (n - i) 0).set i x = fillA s y (i + 1) ++ List.replicate (n - (i + 1)) 0 := by
 rw [fillA_succ, ← hx, List.set_append_right _ _ (by rw [fillA_len]; exact Nat.le_refl _), fillA_len, Nat.sub_self, show n - i = (n - (i + 1)) + 1 by omega, List.replicate_succ, List.set_cons_zero]
 simp
theorem fill_same (s : Nat) (y : List Int) (i n : Nat) (h : i < n) (hx : bitB s i = false) : fillA s y i ++ List.replicate (n - i) 0 = fillA s y (i + 1) ++ List.replicate (n - (i + 1)) 0 := by
 rw [fillA_succ, hx, show n - i = (n - (i + 1)) + 1 by omega, List.replicate_succ]
 simp
theorem fill_get (s : Nat) (y : List Int) (i n : Nat) (h : i < n) : (fillA s y i ++ List.replicate (n - i) 0)[i]? = some 0 := by
 rw [List.getElem?_append_right (by rw [fillA_len]; exact Nat.le_refl _), fillA_len, Nat.sub_self, show n - i = (n - (i + 1)) + 1 by omega, List.replicate_succ]
 rfl
theorem sfSupp_any (cs : List (List Int)) (n k s : Nat) (ho : MxOk cs n k) (hn2 : n ≤ 2) (h1s : 1 ≤ s) (h2s : s < 2 ^ n) (v : Value) (w : World) (h : MxAt w (· < w.heap.size) v cs) : Calls Tryz.prog 146 #[v, .int .i64 (s : Int)] w (SuppPost w n (suppP cs k s)) := by
 obtain ⟨A, c, rfl, h3, h4⟩ := h.form
 have n1 := ho.n1
 have k1 := ho.k1
 have hln := ho.ln
 have hs4 : s < 4 := Nat.lt_of_lt_of_le h2s (by have := Nat.pow_le_pow_right (n := 2) (by omega) hn2; omega)
 have HM : Hid (∀ W, Bw w W → MxAt W (· < W.heap.size) (.slice A n c) cs) := Lib.hid (fun W g => by have := h.bw g; rwa [hln] at this)
 have HMw : Hid (MxAt w (· < w.heap.size) (.slice A n c) cs) := Lib.hid (by rwa [hln] at h)
 have HL := Lib.hid hln
 have HRW : Hid (∀ i (hi : i < cs.length), cs[i].length = k) := Lib.hid (fun i hi => ho.rw _ (List.getElem_mem hi))
 have HSE : Hid (setR cs s n = setRows cs s ∧ (setRows cs s).length = cntB s n) := Lib.hid ⟨by rw [← hln]; rfl, by rw [setRows_len, hln]⟩
 obtain ⟨hok, hc2⟩ := setR_ok ho hn2 h1s h2s
 have CTR : Hid (∀ v W, MxAt W (· < W.heap.size) v (setRows cs s) → Calls Tryz.prog 214 #[v] W (TrPost W (trP (setRows cs s) k))) := Lib.hid (fun v W hv => mxTranspose_any _ _ k hok v W hv)
 have CKE : Hid (∀ v W, MxAt W (· < W.heap.size) v (trP (setRows cs s) k) → Calls Tryz.prog 215 #[v] W (TrPost W (kernP (trP (setRows cs s) k) (cntB s n)))) := Lib.hid (fun v W hv => mxKernel_any _ _ _ (trP_ok hok) hc2 v W hv)
 obtain ⟨KK, hKK⟩ : ∃ KK, kernP (trP (setRows cs s) k) (cntB s n) = KK := ⟨_, rfl⟩
 have HKL : Hid (∀ y ∈ KK, y.length = cntB s n) := Lib.hid (by rw [← hKK]; exact fun y hy => kernP_len hy)
 have HS0 : Hid (KK.length ≠ 1 → suppP cs k s = none) := Lib.hid (fun h => supp_none (by rw [HSE.out.2, hKK]; exact h))
 have HS1 : Hid (∀ y, KK = [y] → suppP cs k s = if y.any (fun x => decide (x ≤ 0)) then none else some (fillA s y n)) := Lib.hid (fun y h => by
   have := supp_one (c := cs) (k := k) (s := s) (v := y) (by rw [HSE.out.2, hKK]; exact h)
   rwa [hln] at this)
 have HTL : Hid (∀ (TA : Option Addr) (tc : Nat) W, MxAt W (· < W.heap.size) (.slice TA (trP (setRows cs s) k).length tc) (trP (setRows cs s) k) → (trP (setRows cs s) k).length = k) := Lib.hid (fun _ _ _ _ => by simp [trP])
 rw [hKK] at CKE
 have HCM : Hid (∀ i, i < n → bitB s i = true → cntB s i < cntB s n) := Lib.hid (fun i hi hb => by
   have := cntB_mono s (show i + 1 ≤ n by omega)
   rw [cntB_succ, if_pos hb] at this
   omega)
 have HCU : Hid (∀ i, i ≤ n → cntB s i ≤ 2) := Lib.hid (fun i hi => by have := cntB_mono s hi; omega)
 rw [hln] at h3 ⊢
 generalize suppP cs k s = RS at *
 clear h hln ho hok hc2 hKK
 obtain ⟨i0, hi0, hz0, hz1, hz2⟩ := info_parts infoInts
 go_enter Tryz.func146, Tryz.ntmps146
 go_wp2_with fail
 go_loopw [6, 18] (fun s6 s18 wr => ∃ (i : Nat) (OA : Option Addr) (q oc : Nat), i ≤ n ∧ s18 = .int .i64 (i : Int) ∧ s6 = .slice OA q oc ∧ q ≤ i ∧ Hid (Bw w wr ∧ ∃ ps : List (List Int × Value), ps.map (·.1) = setR cs s i ∧ ps.length = q ∧ wr.ownsRow w.heap.size 27 1 (.slice OA q oc) q (ps.map (·.2)) ∧ ∀ p ∈ ps, IAt w (· < w.heap.size) p.2 p.1)) (fun _ s18 _ => n - (intOf s18).toNat)
 case atStart => exact ⟨0, none, 0, 0, by omega, rfl, rfl, by omega, Lib.hid ⟨Bw.refl _, [], rfl, rfl, World.ownsRow_nil _ _ _ _, fun p hp => by cases hp⟩⟩
 case round => as_aux_lemma =>
   obtain ⟨wo, hwo⟩ : ∃ wo, wo = wr := ⟨_, rfl⟩
   subst hwo
   obtain ⟨i, OA, q, oc, hi, rfl, rfl, hqi, HA⟩ := hrel
   by_cases hlt : i < n
   · have hlt' : (i : Int) < (n : Int) := by omega
     have hil : i < cs.length := by rw [HL.out]; exact hlt
     obtain ⟨ad, rA, rd, rfl, hb, z0, hki⟩ := HMw.out.at_ hil
     rw [HRW.out i hil] at z0 hki
     have z1 := (HA.out.1.b.cell (p := ad.add i) (by rw [add_block]; exact hb)).trans z0
     have HKI := Lib.hid hki
     have hbg := bit_go s i hs4 (by omega)
     have HSR := Lib.hid (setR_succ cs s i)
     have HGD : Hid (cs.getD i [] = cs[i]) := Lib.hid (by simp [List.getD, hil])
     obtain ⟨hbw, ps, hpe, hpl, hro, hpk⟩ := HA.out
     have HP := Lib.hid (And.intro hpe (And.intro hpl hpk))
     have HBW := Lib.hid hbw
     have hsz := hbw.size
     have HOW : Hid (∀ o, (wo.alloc o).ownsRow w.heap.size 27 1 (.slice OA q oc) q (ps.map (·.2))) := Lib.hid (fun o => hro.alloc o)
     have hrow : Hid (∀ r, (Value.slice OA q oc).ownBlock = some r → w.heap.size ≤ r ∧ r < wo.heap.size) := Lib.hid (fun r e => hro.lt r e)
     have HRO := Lib.hid hro
     clear hbw hpe hpl hpk hro hki z0 hb HA
     rcases hbit : bitB s i with _ | _
     · rw [hbit] at hbg
       have hbp : ¬ (bits BinOp.and IntKind.i64 ((s : Int) / 2 ^ i) 1 = 1) := by simpa using hbg
       have HBI := Lib.hid hbit
       clear hbit
       go_wp2_with fail
       exact ⟨⟨i + 1, OA, q, oc, by omega, by go_num, rfl, by omega, Lib.hid ⟨HBW.out, ps, by rw [HSR.out, if_neg (by rw [HBI.out]; decide)]; exact HP.out.1, HP.out.2.1, HRO.out, HP.out.2.2⟩⟩, by simp [intOf]; omega⟩
     · rw [hbit] at hbg
       have hbp : bits BinOp.and IntKind.i64 ((s : Int) / 2 ^ i) 1 = 1 := by simpa using hbg
       have HBI := Lib.hid hbit
       clear hbit
       go_wp2_with (at_builtin; go_must (refine wpList_append_any _ rfl _ _ 44 rfl w.heap.size 27 i0 _ 1 24 Tryz.underlying44 hi0 hz0 hz1 hz2 rfl (by decide) (.slice OA q oc) q (ps.map (·.2)) rfl (HOW.out _) (wo.heap.size + 1) (some ⟨wo.heap.size, 0, none⟩) 1 1 [.slice rA k rd] rfl (reads_newS wo _) (by simp [Value.oneCell']) (by unfold maxLen; omega) (by omega) (by simp; omega) ?_; intro v7 w7 hown7 hgr7 hl7; obtain ⟨A7, c7, rfl⟩ := own_form hown7; (have HO7 := Lib.hid (And.intro hown7 hgr7)); clear hown7 hgr7 hl7))
       exact ⟨⟨i + 1, A7, q + 1, c7, by omega, by go_num, rfl, by omega, Lib.hid ⟨bw_gbM (HBW.out.alloc _) HO7.out.2 (fun r e => (hrow.out r e).1), ps ++ [(cs[i], .slice rA k rd)], by rw [HSR.out, if_pos HBI.out, List.map_append, HP.out.1, HGD.out]; rfl, by rw [List.length_append, HP.out.2.1]; rfl, by rw [List.map_append]; exact HO7.out.1, fun p hp => by
         rcases List.mem_append.1 hp with hp | hp
         · exact HP.out.2.2 p hp
         · rw [List.mem_singleton.1 hp]; exact HKI.out⟩⟩, by simp [intOf]; omega⟩
   · obtain rfl : i = n := by omega
     obtain ⟨hbw, ps, hpe, hpl, hro, hpk⟩ := HA.out
     have hmx : MxAt wo (· < wo.heap.size) (.slice OA q oc) (setRows cs s) := by
       have := mxAt_row hro hpl (fun p hp => (hpk p hp).keep (fun b hb => Nat.lt_of_lt_of_le hb hbw.size) (fun p hp => hbw.b.cell hp))
       rwa [hpe, HSE.out.1] at this
     have C1 := Lib.hid (CTR.out _ _ hmx)
     have HBW := Lib.hid hbw
     clear hbw hpe hpl hro hpk HA hmx CTR
     generalize hTT : trP (setRows cs s) k = TT at *
     clear hTT
     rw [show TrPost wo TT = fun e w' => ∃ (A : Option Addr) (c : Nat), e = .returned (.tuple #[.slice A TT.length c, .int .i64 0]) ∧ MxAt w' (fun b => wo.heap.size ≤ b ∧ b < w'.heap.size) (.slice A TT.length c) TT ∧ Bw wo w' from rfl] at C1
     go_upto_region 10 with (first
       | (go_at_call 214; go_must (refine C1.out.mono ?_; rintro e w1 ⟨TA, tc, rfl, hm1, hg1⟩; (have HM1 := Lib.hid (hm1.keep (S' := fun b => b < w1.heap.size) (fun b hb => hb.2) (fun _ _ => rfl))); (have HG1 := Lib.hid (HBW.out.trans hg1)); clear hm1 hg1))
       | (go_at_call 215; go_must (refine (CKE.out _ _ HM1.out).mono ?_; rintro e w2 ⟨KA, kc, rfl, hm2, hg2⟩; (have HM2 := Lib.hid (hm2.keep (S' := fun b => b < w2.heap.size) (fun b hb => hb.2) (fun _ _ => rfl))); (have HG2 := Lib.hid (HG1.out.trans hg2)); clear hm2 hg2)))
     clear HM1 HG1 C1 CKE HBW
     by_cases hk1 : KK.length = 1
     · obtain ⟨y, rfl⟩ : ∃ y, KK = [y] := by
         match KK, hk1 with
         | [y], _ => exact ⟨y, rfl⟩
       have hyl : y.length = cntB s i := HKL.out y (by simp)
       have HYL := Lib.hid hyl
       have HRS := Lib.hid (HS1.out y rfl)
       obtain ⟨kad, yA, yc, rfl, hkb, zk, hyk⟩ := HM2.out.at_ (k := 0) (by simp)
       simp only [List.getElem_cons_zero] at zk hyk
       have HZK : Hid (∀ W, Bw w2 W → W.cell? kad = some (.slice yA y.length yc)) := Lib.hid (fun W g => (g.b.cell hkb).trans (by simpa [Addr.add] using zk))
       have HYK : Hid (∀ W, Bw w2 W → IB W W.heap.size (.slice yA y.length yc) y) := Lib.hid (fun W g => hyk.bw g)
       have CF := Lib.hid (contInt_any y (fun x => decide (x ≤ 0)) 216 #[] (enters_of Tryz.func216 (by kernel_rfl) rfl) _ w2 hyk (fun x hx _ W' _ _ => sfSupp1_any x W'))
       clear hk1 HS0 HS1 zk hyk hkb HM2 hyl HKL
       have z1 := HZK.out w2 (Bw.refl _)
       simp only [List.length_cons, List.length_nil, Nat.zero_add]
       generalize hyn : y.any (fun x => decide (x ≤ 0)) = yn at *
       clear hyn
       cases yn with
       | true =>
         rw [if_pos rfl] at HRS
         go_wp2_with (go_at_call 149; go_must (refine CF.out.mono ?_; rintro e w3 ⟨rfl, hg3⟩; (have HG3 := Lib.hid hg3); clear hg3))
         go_ret2
         exact ⟨none, 0, 0, false, rfl, HG2.out.trans HG3.out, .inl ⟨HRS.out, rfl⟩⟩
       | false =>
         rw [if_neg (by decide)] at HRS
         have hmk := mkIntsJ i (by omega)
         go_upto_region 13 with (go_at_call 149; go_must (refine CF.out.mono ?_; rintro e w3 ⟨rfl, hg3⟩; (have HG3 := Lib.hid hg3); clear hg3))
         refine wp_world (fun W => Hid (W.ownsRow w2.heap.size 3 1 (.slice (some ⟨w3.heap.size, 0, none⟩) i i) i (intVs (fillA s y 0 ++ List.replicate (i - 0) 0)) ∧ Bw w2 W)) (Lib.hid ⟨own_base (own_new w3 3 (intVs (List.replicate i 0)).toArray 1 (n := i) (by simp [show fillA s y 0 = [] from rfl]) (by simp [intVs, show fillA s y 0 = [] from rfl])) HG3.out.size, HG3.out.alloc _⟩) ?_
         clear CF z1 hmk
         clear HG3
         intro W0 HW0
         generalize hg : w3.heap.size = g at *
         clear hg
         go_wp2_with fail
         go_loopw [14, 57] (fun s14 s57 wr => ∃ j : Nat, j ≤ i ∧ s57 = .int .i64 (j : Int) ∧ s14 = .int .i64 (cntB s j : Int) ∧ Hid (wr.ownsRow w2.heap.size 3 1 (.slice (some ⟨g, 0, none⟩) i i) i (intVs (fillA s y j ++ List.replicate (i - j) 0)) ∧ Bw w2 wr)) (fun _ s57 _ => i - (intOf s57).toNat)
         case atStart => exact ⟨0, by omega, rfl, rfl, HW0⟩
         case round => as_aux_lemma =>
           clear HW0
           obtain ⟨wi, hwi⟩ : ∃ wi, wi = wr := ⟨_, rfl⟩
           subst hwi
           obtain ⟨j, hj, rfl, rfl, HB⟩ := hrel
           by_cases hltj : j < i
           · have hltj' : (j : Int) < (i : Int) := by omega
             have hbg := bit_go s j hs4 (by omega)
             have HCS := Lib.hid (cntB_succ s j)
             have hcu := HCU.out j hj
             rcases hbit : bitB s j with _ | _
             · rw [hbit] at hbg
               have hbp : ¬ (bits BinOp.and IntKind.i64 ((s : Int) / 2 ^ j) 1 = 1) := by simpa using hbg
               have HBI := Lib.hid hbit
               clear hbit
               go_wp2_with fail
               exact ⟨⟨j + 1, by omega, by go_num, by rw [HCS.out, if_neg (by rw [HBI.out]; decide)], Lib.hid ⟨by rw [← fill_same s y j i hltj HBI.out]; exact HB.out.1, HB.out.2⟩⟩, by simp [intOf]; omega⟩
             · rw [hbit] at hbg
               have hbp : bits BinOp.and IntKind.i64 ((s : Int) / 2 ^ j) 1 = 1 := by simpa using hbg
               have HBI := Lib.hid hbit
               have hcl := HCM.out j hltj hbit
               have hcy : cntB s j < y.length := by rw [HYL.out]; exact hcl
               have hcy' : (cntB s j : Int) < (y.length : Int) := by omega
               clear hbit
               have z1 := HZK.out wi HB.out.2
               obtain ⟨yad, rfl, hyb, z2⟩ := (HYK.out wi HB.out.2).at_ hcy
               have y0 : wi.cell? ⟨g, j, none⟩ = some (.int .i64 0) := (HB.out.1.cellAt j (by omega)).trans (by rw [intVs, List.getElem?_map, fill_get s y j i hltj]; rfl)
               have y1 := HB.out.1.frozenAt j
               have y2 := (HB.out.1.lt g rfl).2
               have HFN : Hid ((fillA s y j ++ List.replicate (i - j) 0).set j y[cntB s j] = fillA s y (j + 1) ++ List.replicate (i - (j + 1)) 0) := Lib.hid (fill_next s y j i hltj _ (by rw [if_pos HBI.out]; simp [List.getD, hcy]))
               generalize y[cntB s j] = yx at *
               generalize cntB s j = cj at *
               go_wp2_with fail
               have hs := HB.out.1.stored j (.int .i64 yx)
               rw [intVs_set, HFN.out] at hs
               exact ⟨⟨j + 1, by omega, by go_num, by rw [HCS.out, if_pos HBI.out]; go_num, Lib.hid ⟨hs.1, bw_gbM HB.out.2 hs.2 (fun r e => (HB.out.1.lt r e).1)⟩⟩, by simp [intOf]; omega⟩
           · obtain rfl : j = i := by omega
             go_wp2_with fail
             go_ret2
             have h1 := HB.out.1
             rw [Nat.sub_self, List.replicate_zero, List.append_nil] at h1
             exact ⟨_, _, _, true, rfl, HG2.out.trans HB.out.2, .inr ⟨_, HRS.out, rfl, rfl, fillA_len s y j, own_base h1 HG2.out.size⟩⟩
     · have hk2 : (((KK.length : Nat) : Int) != 1) = true := by simp; omega
       have HRS := Lib.hid (HS0.out hk1)
       obtain ⟨KA', kc', e, -, -⟩ := HM2.out.form
       go_wp2_with fail
       go_ret2
       exact ⟨none, 0, 0, false, rfl, HG2.out, .inl ⟨HRS.out, rfl⟩⟩
end
section
open Go.RowKit Go.Sort
abbrev IS := List Int × Value
def lvs (l : List Int) : List V := l.map fun n => .mk n []
def wdV (l : List Int) : V := .mk 0 (lvs l)
theorem lvs_len (l : List Int) : (lvs l).length = l.length := by simp [lvs]
theorem leaf_cmp (x y : Int) : cmpV (.mk x []) (.mk y []) = Lib.compareInt x y := by
 unfold Lib.compareInt
 simp only [cmpV, List.length_nil, Nat.lt_irrefl, if_false, cmpL]
theorem lvs_get {l : List Int} {k : Nat} (h : k < (lvs l).length) : (lvs l)[k] = .mk (l[k]'(by rwa [lvs_len] at h)) [] := by simp [lvs]
theorem cmpI_step {a b : List Int} {k : Nat} (h1 : k < a.length) (h2 : k < b.length) : cmpL ((lvs a).drop k) ((lvs b).drop k) = if Lib.compareInt a[k] b[k] = 0 then cmpL ((lvs a).drop (k + 1)) ((lvs b).drop (k + 1)) else Lib.compareInt a[k] b[k] := by
 have := cmpL_step (ks := lvs a) (js := lvs b) (k := k) (by rwa [lvs_len]) (by rwa [lvs_len])
 rw [this, lvs_get, lvs_get, leaf_cmp]
theorem cmpInts_any (a b : List Int) (s1 s2 : Value) (w : World) (h1 : IB w w.heap.size s1 a) (h2 : IB w w.heap.size s2 b) :
   Calls Tryz.prog 148 #[s1, s2] w fun e w' => e = .returned (.int .i64 (cmpL (lvs a) (lvs b))) ∧ w = w' := by
 obtain ⟨A1, n1, c1, rfl, l1, b1, m1, f1⟩ := h1
 obtain ⟨A2, n2, c2, rfl, l2, b2, m2, f2⟩ := h2
 unfold maxLen at m1 m2
 have F1 := Lib.hid f1
 have F2 := Lib.hid f2
 have L1 := Lib.hid l1
 have L2 := Lib.hid l2
 clear f1 f2 l1 l2
 have C1 : Hid (∀ x y : Int, ∀ W, Calls Tryz.prog 219 #[.int .i64 x, .int .i64 y] W fun e w' => e = .returned (.int .i64 (Lib.compareInt x y)) ∧ W = w') := Lib.hid (fun x y W => (Tryz.cmp_Compare_int x y W).mono fun _ _ h => ⟨h.1, h.2.symm⟩)
 go_enter Tryz.func148, Tryz.ntmps148
 go_wp2
 go_loop [11] (fun i => ∃ k : Nat, k ≤ n1 ∧ k ≤ n2 ∧ i = .int .i64 k ∧ Hid (cmpL (lvs a) (lvs b) = cmpL ((lvs a).drop k) ((lvs b).drop k))) (fun i => n1 - (intOf i).toNat)
 case atStart => exact ⟨0, by omega, by omega, rfl, Lib.hid rfl⟩
 case round =>
   obtain ⟨k, hk1, hk2, rfl, HR⟩ := hrel
   by_cases hlt : k < n1
   · have e1 : k < a.length := by rw [L1.out]; exact hlt
     obtain ⟨ad, rfl, hb, hq⟩ := F1.out (by omega)
     have q0 := hq k e1
     clear hq hb
     by_cases hlt2 : k < n2
     · have e2 : k < b.length := by rw [L2.out]; exact hlt2
       obtain ⟨ad2, rfl, hb', hq'⟩ := F2.out (by omega)
       have q1 := hq' k e2
       clear hq' hb'
       have d1 : decide (n2 ≤ k) = false := by simp; omega
       have HCC : Hid (cmpL (lvs a) (lvs b) = if Lib.compareInt a[k] b[k] = 0 then cmpL ((lvs a).drop (k + 1)) ((lvs b).drop (k + 1)) else Lib.compareInt a[k] b[k]) := Lib.hid (by rw [HR.out]; exact cmpI_step e1 e2)
       have CI := Lib.hid (C1.out a[k] b[k])
       clear HR
       generalize a[k] = x at *
       generalize b[k] = y at *
       generalize hr : Lib.compareInt x y = r at *
       clear hr
       by_cases hr0 : r = 0
       · have d2 : (r == 0) = true := by simpa using hr0
         have d3 : (!(r == 0)) = false := by simp [d2]
         have HC2 : Hid (cmpL (lvs a) (lvs b) = cmpL ((lvs a).drop (k + 1)) ((lvs b).drop (k + 1))) := Lib.hid (by have := HCC.out; rwa [if_pos hr0] at this)
         clear hr0 HCC
         go_wp2_with (go_at_call 219; go_must (refine (CI.out _).mono ?_; rintro e w6 ⟨rfl, rfl⟩))
         go_round
         case rel => exact ⟨k + 1, by omega, by omega, by go_num, HC2⟩
         case measure => simp [intOf]; omega
       · have d2 : (r == 0) = false := by simpa using hr0
         have d3 : (!(r == 0)) = true := by simp [d2]
         have HC2 : Hid (cmpL (lvs a) (lvs b) = r) := Lib.hid (by have := HCC.out; rwa [if_neg hr0] at this)
         clear hr0 HCC
         go_wp2_with (go_at_call 219; go_must (refine (CI.out _).mono ?_; rintro e w6 ⟨rfl, rfl⟩))
         go_ret
         exact ⟨ret_int HC2.out.symm, rfl⟩
     · have d1 : decide (n2 ≤ k) = true := by simp; omega
       have HC2 : Hid (cmpL (lvs a) (lvs b) = 1) := Lib.hid (by rw [HR.out]; exact cmpL_over (by rw [lvs_len]; exact e1) (by rw [lvs_len]; have := L2.out; omega))
       clear HR
       generalize a[k] = x at *
       go_wp2
       go_ret
       exact ⟨ret_int HC2.out.symm, rfl⟩
   · obtain rfl : k = n1 := by omega
     have HC2 : Hid (cmpL (lvs a) (lvs b) = if k < n2 then -1 else 0) := Lib.hid (by rw [HR.out, cmpL_end (by rw [lvs_len]; exact L1.out), lvs_len, lvs_len, L1.out, L2.out])
     clear HR
     by_cases hlt2 : k < n2
     · have d1 : decide (k < n2) = true := by simp; omega
       go_wp2
       go_ret
       exact ⟨ret_int (by rw [HC2.out, if_pos hlt2]), rfl⟩
     · have d1 : decide (k < n2) = false := by simp; omega
       go_wp2
       go_ret
       exact ⟨ret_int (by rw [HC2.out, if_neg hlt2]), rfl⟩
theorem wd_cmpE (a b : List Int) (h : a.length = b.length) : cmpV (wdV a) (wdV b) = cmpL (lvs a) (lvs b) := by
 rw [cmpV_or]
 unfold or3 wdV
 simp only [V.n_mk, V.ks_mk, lvs_len]
 rw [if_pos (by unfold Lib.compareInt; simp), if_pos (by unfold Lib.compareInt; rw [h]; simp)]
theorem setCells_own1 {L g n c : Nat} {e : TypeId} : ∀ (vs : List Value) (o : Nat) (W : World) (xs : List Value), W.ownsRow L e 1 (.slice (some ⟨g, 0, none⟩) n c) n xs → o + vs.length = n → (W.setCells g o vs).ownsRow L e 1 (.slice (some ⟨g, 0, none⟩) n c) n (xs.take o ++ vs)
 | [], o, W, xs, h, hl => by
   have h1 := h.1
   rw [List.append_nil, List.take_of_length_le (by simp at hl; omega)]; exact h
 | v :: r, o, W, xs, h, hl => by
   have h2 := setCells_own1 r (o + 1) _ _ (h.stored o v).1 (by simp at hl; omega)
   have h1 := h.1
   have e : (xs.set o v).take (o + 1) ++ r = xs.take o ++ v :: r := by
     rw [List.take_succ_eq_append_getElem (by simp at hl ⊢; omega), List.take_set_of_le (Nat.le_refl _)]
     simp
   rw [e] at h2
   exact h2
theorem setCells_gb1 {g : Nat} {w : World} : ∀ (vs : List Value) (o : Nat) (W : World), w.grownBy W (some g) → w.grownBy (W.setCells g o vs) (some g)
 | [], _, _, h => h
 | v :: r, o, W, h => setCells_gb1 r (o + 1) _ (grownBy_setCell (p := ⟨g, o, none⟩) h (.inl rfl) v)
theorem gb_grow1 (w : World) (os : Array Obj) (row : Option Nat) : w.grownBy (grow w os) row :=
 ⟨rfl, rfl, rfl, by simp, fun k hk _ => heap_grow_old w os hk⟩
def KJ (w : World) (S : Nat → Prop) (n : Nat) : Type := { x : IS // IAt w S x.2 x.1 ∧ x.1.length = n }
def encKJ {w : World} {S : Nat → Prop} {n : Nat} (x : KJ w S n) : Value := x.1.2
def cmpKJ {w : World} {S : Nat → Prop} {n : Nat} (x y : KJ w S n) : Int := cmpV (wdV x.1.1) (wdV y.1.1)
theorem oneKJ (w : World) (S : Nat → Prop) (n : Nat) : OneCell (encKJ (w := w) (S := S) (n := n)) := fun x => by
 obtain ⟨A, n, c, e, _⟩ := x.2.1.form
 unfold encKJ; rw [e]; rfl
theorem swoKJ (w : World) (S : Nat → Prop) (n : Nat) : SWO (ltOf (cmpKJ (w := w) (S := S) (n := n))) where
 irrefl x := by simp [ltOf, cmpKJ, cmp_self]
 trans x y z h1 h2 := by
   have h1 : cmpV (wdV x.1.1) (wdV y.1.1) < 0 := of_decide_eq_true h1
   have h2 : cmpV (wdV y.1.1) (wdV z.1.1) < 0 := of_decide_eq_true h2
   refine decide_eq_true (p := cmpV (wdV x.1.1) (wdV z.1.1) < 0) ?_
   have r1 := cmp_range (wdV x.1.1) (wdV y.1.1)
   have r2 := cmp_range (wdV y.1.1) (wdV z.1.1)
   have := cmp_trans (wdV x.1.1) (wdV y.1.1) (wdV z.1.1) (by omega) (by omega)
   omega
 ntrans x y z h1 h2 := by
   have h1 : ¬ cmpV (wdV x.1.1) (wdV y.1.1) < 0 := of_decide_eq_false h1
   have h2 : ¬ cmpV (wdV y.1.1) (wdV z.1.1) < 0 := of_decide_eq_false h2
   refine decide_eq_false (p := cmpV (wdV x.1.1) (wdV z.1.1) < 0) ?_
   have a1 := cmp_anti (wdV x.1.1) (wdV y.1.1)
   have a2 := cmp_anti (wdV y.1.1) (wdV z.1.1)
   have a3 := cmp_anti (wdV x.1.1) (wdV z.1.1)
   have := cmp_le_trans (a := wdV z.1.1) (b := wdV y.1.1) (c := wdV x.1.1) (by omega) (by omega)
   omega
def attachJ {w : World} {S : Nat → Prop} {n : Nat} : (ps : List IS) → (∀ p ∈ ps, IAt w S p.2 p.1 ∧ p.1.length = n) → List (KJ w S n)
 | [], _ => []
 | p :: r, h => ⟨p, h p (by simp)⟩ :: attachJ r fun q hq => h q (by simp [hq])
theorem pairsJ_attach {w : World} {S : Nat → Prop} {n : Nat} : ∀ (ps : List IS) (h : ∀ p ∈ ps, IAt w S p.2 p.1 ∧ p.1.length = n), (attachJ ps h).map (·.1) = ps
 | [], _ => rfl
 | p :: r, h => congrArg (p :: ·) (pairsJ_attach r _)
theorem holdsJ_row {w : World} {S : Nat → Prop} {B g n c L : Nat} {ps : List IS} (ho : w.ownsRow B 27 1 (.slice (some ⟨g, 0, none⟩) n c) ps.length (ps.map (·.2))) (h : ∀ p ∈ ps, IAt w S p.2 p.1 ∧ p.1.length = L) [Inhabited (KJ w S L)] (hn : ps.length = n) : Holds encKJ w g 0 (attachJ ps h).toArray := by
 subst hn
 intro j hj
 have e := pairsJ_attach ps h
 have hl : (attachJ ps h).length = ps.length := by
   have := congrArg List.length e
   simpa using this
 have hj1 : j < (attachJ ps h).length := by simpa using hj
 refine ⟨?_, ho.frozenAt _⟩
 rw [Nat.zero_add, ho.cellAt j (by omega)]
 have e2 : (ps.map (·.2))[j]? = ((attachJ ps h).map encKJ)[j]? := by
   conv => lhs; rw [← e]
   rw [List.map_map]; rfl
 rw [e2, List.getElem?_map, List.getElem?_eq_getElem hj1, getElem!_pos _ j hj]
 simp
theorem insNoneI_any (A : Option Addr) (c : Nat) (fv : Value) (w : World) : Calls Tryz.prog 277 #[.slice A 0 c, .int .i64 0, .int .i64 0, fv] w fun e w' => e = .returned (.tuple #[]) ∧ w = w' := by
 go_enter Tryz.func277, Tryz.ntmps277
 go_wp2
 refine wp_loop_rounds 1 ?_
 rw [rounds_succ]
 go_wp2
 go_end0
 exact ⟨rfl, rfl⟩
theorem pdqNoneI_any (A : Option Addr) (c : Nat) (lim : Int) (fv : Value) (w : World) : Calls Tryz.prog 217 #[.slice A 0 c, .int .i64 0, .int .i64 0, .int .i64 lim, fv] w fun e w' => e = .returned (.tuple #[]) ∧ w = w' := by
 go_enter Tryz.func217, Tryz.ntmps217
 go_wp2
 refine wp_loop_rounds 1 ?_
 rw [rounds_succ]
 go_wp2_with (go_at_call 277; refine (insNoneI_any A c fv _).mono ?_; rintro e w' ⟨rfl, rfl⟩)
 (try simp only [Exit.inBlock, Exit.then]); refine bodyPost_ret (results_none rfl _ _ _) rfl ?_
 exact ⟨rfl, rfl⟩
theorem sortNoneI_any (A : Option Addr) (c : Nat) (fv : Value) (w : World) : Calls Tryz.prog 147 #[.slice A 0 c, fv] w fun e w' => e = .returned (.tuple #[]) ∧ w = w' := by
 have hl : Calls Tryz.prog 218 #[.int .u64 0] w fun e w' => e = .returned (.int .i64 ((Lib.bitLen 0 : Nat) : Int)) ∧ w = w' := (Tryz.bits_Len 0 w (by omega) (by omega)).mono fun e w' h => ⟨h.1, h.2.symm⟩
 generalize ((Lib.bitLen 0 : Nat) : Int) = r at hl
 go_enter Tryz.func147, Tryz.ntmps147
 go_wp2_with (first | (go_at_call 218; go_must (refine hl.mono ?_; rintro e w' ⟨rfl, rfl⟩)) | (go_at_call 217; go_must (refine (pdqNoneI_any A c r fv _).mono ?_; rintro e w' ⟨rfl, rfl⟩)))
 go_end0
 exact ⟨rfl, rfl⟩
def SortMPost (w : World) (B : Nat) (s : Value) (ps : List IS) (e : Ending) (w' : World) : Prop := e = .returned (.tuple #[]) ∧ ∃ qs, MxO w' B s qs ∧ qs.Perm ps ∧ w.grownBy w' s.ownBlock
theorem sortM_any (B L : Nat) (ps : List IS) (s : Value) (w : World) (h : MxO w B s ps) (hL : ∀ p ∈ ps, p.1.length = L) (h9 : ps.length ≤ 1000000) :
   Calls Tryz.prog 147 #[s, .func (.func 148) #[] #[]] w (SortMPost w B s ps) := by
 obtain ⟨A, c, rfl, bn, mn⟩ := own_bounds h.own
 by_cases h0 : ps.length = 0
 · obtain rfl := List.eq_nil_of_length_eq_zero h0
   refine (sortNoneI_any A c _ w).mono ?_
   rintro e w' ⟨rfl, rfl⟩
   exact ⟨rfl, [], h, .nil, World.grownBy.refl _ _⟩
 · obtain ⟨g, rfl, -, hLg, hgl, -⟩ := own_at h.own (by omega : 0 < ps.length)
   obtain ⟨S, hS⟩ : ∃ S : Nat → Prop, S = fun b => B ≤ b ∧ b < w.heap.size ∧ (Value.slice (some ⟨g, 0, none⟩) ps.length c).ownBlock ≠ some b := ⟨_, rfl⟩
   have hk : ∀ p ∈ ps, IAt w S p.2 p.1 ∧ p.1.length = L := fun p hp => ⟨by rw [hS]; exact h.kid p hp, hL p hp⟩
   have hSl : ∀ b, S b → b < w.heap.size ∧ b ≠ g := fun b hb => by rw [hS] at hb; exact ⟨hb.2.1, fun e => hb.2.2 (by rw [e]; rfl)⟩
   letI : Inhabited (KJ w S L) := ⟨⟨ps[0]'(by omega), hk _ (List.getElem_mem _)⟩⟩
   have hat := pairsJ_attach ps hk
   have hl : (attachJ ps hk).length = ps.length := by
     have := congrArg List.length hat
     simpa using this
   have hH := holdsJ_row h.own hk rfl
   have hcon := Any.slices_SortFunc Tryz.sortInts encKJ (oneKJ w S L) cmpKJ (swoKJ w S L) 148 #[] g 0 c (attachJ ps hk).toArray w (enters_of Tryz.func148 (by kernel_rfl) rfl)
     (fun m os dk hdk x y => by
       have key : ∀ z : KJ w S L, IB (sortWorld encKJ w g 0 m dk os) (sortWorld encKJ w g 0 m dk os).heap.size z.1.2 z.1.1 := fun z => z.2.1.keep (fun b hb => by
           have h1 := (hSl b hb).1
           unfold sortWorld
           simp only [size_grow, Sort.size_putRow]
           exact Nat.lt_of_lt_of_le h1 (Nat.le_add_right _ _)) (fun p hp => by
           have h1 := (hSl _ hp).1
           have h2 : p.block ≠ g := (hSl _ hp).2
           unfold sortWorld
           rw [cell?_grow _ _ _ (by rw [Sort.size_putRow]; exact h1), cell?_putRow_other _ _ _ _ _ _ (.inl h2)]
           rfl)
       refine (cmpInts_any x.1.1 y.1.1 x.1.2 y.1.2 _ (key x) (key y)).mono ?_
       rintro e w' ⟨rfl, rfl⟩
       refine ⟨by rw [← wd_cmpE _ _ (x.2.2.trans y.2.2.symm)]; rfl, 0, #[], ?_⟩
       simp [grow]
       try rfl) hH hgl (by simp [hl]; omega)
   have hcon' := hcon
   rw [show (attachJ ps hk).toArray.size = ps.length by simp [hl]] at hcon'
   change Calls Tryz.prog 147 _ _ _ at hcon'
   refine hcon'.mono ?_
   rintro e w' ⟨rfl, d', q, os, hp, hs, rfl⟩
   obtain ⟨d2, rfl⟩ : ∃ d2 : List (KJ w S L), d' = d2.toArray := ⟨d'.toList, by simp⟩
   have hl2 : d2.length = (attachJ ps hk).length := by simpa using hp.1
   have hperm : d2.Perm (attachJ ps hk) := by
     have := hp.2.2
     simp only [List.extract_toArray, List.extract_eq_take_drop, List.drop_zero, Nat.sub_zero] at this
     rwa [List.take_of_length_le (by omega), List.take_of_length_le (by omega)] at this
   have hperm2 : (d2.map (·.1)).Perm ps := by
     have := hperm.map (fun x : KJ w S L => x.1)
     rw [pairsJ_attach ps hk] at this; exact this
   have hw : sortWorld encKJ w g 0 q d2.toArray os = grow ((w.drewN q).setCells g 0 (d2.map encKJ)) os := by
     unfold sortWorld
     rw [Go.Lib.putRow_eq_setCells encKJ w g 0 (attachJ ps hk).toArray d2 q hH (by simpa using hl2)]
   rw [hw]
   have ho : ((w.drewN q).setCells g 0 (d2.map encKJ)).ownsRow B 27 1 (.slice (some ⟨g, 0, none⟩) ps.length c) ps.length (d2.map encKJ) := by
     have := setCells_own1 (d2.map encKJ) 0 (w.drewN q) _ (show (w.drewN q).ownsRow B 27 1 (.slice (some ⟨g, 0, none⟩) ps.length c) ps.length (ps.map (·.2)) from h.own) (by simp; omega)
     simpa using this
   have hgb : w.grownBy ((w.drewN q).setCells g 0 (d2.map encKJ)) (some g) := setCells_gb1 _ _ _ ⟨rfl, rfl, rfl, Nat.le_refl _, fun _ _ _ => rfl⟩
   have hgb2 : w.grownBy (grow ((w.drewN q).setCells g 0 (d2.map encKJ)) os) (some g) := grownBy_trans hgb (gb_grow1 _ _ _)
   refine ⟨rfl, d2.map (·.1), ⟨?_, fun p hp => ?_⟩, hperm2, hgb2⟩
   · have e1 : (d2.map (·.1)).map (·.2) = d2.map encKJ := by rw [List.map_map]; rfl
     rw [e1, List.length_map, hl2, hl]
     exact ho.kept (gb_grow1 _ os none) (.inr (by simp [Value.ownBlock]))
   · obtain ⟨x, -, rfl⟩ := List.mem_map.1 hp
     refine x.2.1.keep (fun b hb => ?_) (fun q hq => World.cell?_of_block (hgb2.block q.block (hSl _ hq).1 (fun e => (hSl _ hq).2 (by injection e))))
     have hb2 := hb
     rw [hS] at hb2
     exact ⟨hb2.1, Nat.lt_of_lt_of_le hb2.2.1 hgb2.size, hb2.2.2⟩
end
section
open Go.RowKit
theorem flowsS_none {c : List (List Int)} {k s : Nat} (h1 : 1 ≤ s) (h : suppP c k s = none) : flowsS c k s = flowsS c k (s - 1) := by
 have := flowsS_succ c k (s - 1)
 rw [show s - 1 + 1 = s by omega, h] at this
 exact this
theorem flowsS_some {c : List (List Int)} {k s : Nat} {y : List Int} (h1 : 1 ≤ s) (h : suppP c k s = some y) : flowsS c k s = flowsS c k (s - 1) ++ [y] := by
 have := flowsS_succ c k (s - 1)
 rw [show s - 1 + 1 = s by omega, h] at this
 exact this
def FlPost (w : World) (F : List (List Int)) (n : Nat) (e : Ending) (w' : World) : Prop := ∃ (A : Option Addr) (q c : Nat) (ps : List (List Int × Value)), e = .returned (.slice A q c) ∧ ps.length = q ∧ (ps.map (·.1)).Perm F ∧ (∀ p ∈ ps, p.1.length = n) ∧ MxO w' w.heap.size (.slice A q c) ps ∧ Bw w w'
theorem sfof_any (cs : List (List Int)) (n k : Nat) (ho : MxOk cs n k) (hn2 : n ≤ 2) (v : Value) (w : World) (h : MxAt w (· < w.heap.size) v cs) : Calls Tryz.prog 89 #[v] w (FlPost w (flowsU cs k) n) := by
 obtain ⟨A, c, rfl, h3, h4⟩ := h.form
 have n1 := ho.n1.1
 have hln := ho.ln
 obtain ⟨N, hN, hN4, hN2, hwp⟩ : ∃ N : Nat, 2 ^ n = N ∧ N ≤ 4 ∧ 2 ≤ N ∧ wrap64 ((2 : Int) ^ n) = (N : Int) := by
   rcases (by omega : n = 1 ∨ n = 2) with rfl | rfl
   · exact ⟨2, rfl, by omega, by omega, by kernel_rfl⟩
   · exact ⟨4, rfl, by omega, by omega, by kernel_rfl⟩
 have CS : Hid (∀ s : Nat, 1 ≤ s → s < N → ∀ W, Bw w W → Calls Tryz.prog 146 #[.slice A n c, .int .i64 (s : Int)] W (SuppPost W n (suppP cs k s))) := Lib.hid (fun s h1 h2 W g => by
   have := sfSupp_any cs n k s ho hn2 h1 (by rw [hN]; exact h2) _ W (h.bw g)
   rwa [hln] at this)
 have HFU : Hid (flowsU cs k = flowsS cs k (N - 1)) := Lib.hid (by rw [flowsU_eq, hln, hN])
 obtain ⟨i0, hi0, hz0, hz1, hz2⟩ := info_parts infoInts
 rw [hln] at h3 ⊢
 clear h hln ho hN
 go_enter Tryz.func89, Tryz.ntmps89
 go_wp2_with fail
 go_loopw [3, 4] (fun s3 s4 wr => ∃ (s : Nat) (OA : Option Addr) (q oc : Nat), 1 ≤ s ∧ s ≤ N ∧ s4 = .int .i64 (s : Int) ∧ s3 = .slice OA q oc ∧ q < s ∧ Hid (Bw w wr ∧ ∃ ps : List (List Int × Value), ps.map (·.1) = flowsS cs k (s - 1) ∧ ps.length = q ∧ (∀ p ∈ ps, p.1.length = n) ∧ MxO wr w.heap.size (.slice OA q oc) ps)) (fun _ s4 _ => N - (intOf s4).toNat)
 case atStart => exact ⟨1, none, 0, 0, Nat.le_refl _, by omega, rfl, rfl, by omega, Lib.hid ⟨Bw.refl _, [], rfl, rfl, (fun p hp => by simp at hp), MxO.nil _ _⟩⟩
 case round => as_aux_lemma =>
   obtain ⟨wo, hwo⟩ : ∃ wo, wo = wr := ⟨_, rfl⟩
   subst hwo
   obtain ⟨s, OA, q, oc, hs1, hs2, rfl, rfl, hqs, HA⟩ := hrel
   by_cases hlt : s < N
   · have hlt' : (s : Int) < (N : Int) := by omega
     have CP := Lib.hid (CS.out s hs1 hlt wo HA.out.1)
     rw [show SuppPost wo n (suppP cs k s) = fun e w' => ∃ (A : Option Addr) (k' c : Nat) (ok : Bool), e = .returned (.tuple #[.slice A k' c, .bool ok]) ∧ Bw wo w' ∧ ((suppP cs k s = none ∧ ok = false) ∨ ∃ y, suppP cs k s = some y ∧ ok = true ∧ k' = n ∧ y.length = n ∧ w'.ownsRow wo.heap.size 3 1 (.slice A k' c) n (intVs y)) from rfl] at CP
     obtain ⟨hbw, ps, hpe, hpl, hpn, hmo⟩ := HA.out
     have HMO := Lib.hid (And.intro hpe (And.intro hmo (And.intro hpl hpn)))
     have HBW := Lib.hid hbw
     have hsz := hbw.size
     have HOW : Hid (∀ W o, Bw wo W → (W.alloc o).ownsRow w.heap.size 27 1 (.slice OA q oc) q (ps.map (·.2))) := Lib.hid (fun W o g => by
       have := own_kept_below hmo.own (g.alloc o).b
       rwa [hpl] at this)
     clear hbw hpe hpl hpn hmo HA
     go_upto_region 6 with (go_at_call 146; go_must (refine CP.out.mono ?_; rintro e w3 ⟨SA, sn, sc, ok, rfl, hb3, hc3⟩; (have HB3 := Lib.hid hb3); (have HC3 := Lib.hid hc3); (have hs3 := hb3.size); clear hb3 hc3))
     clear hwp
     cases ok with
     | false =>
       have HN : Hid (suppP cs k s = none) := Lib.hid (by
         rcases HC3.out with ⟨h, _⟩ | ⟨y, _, h, _⟩
         · exact h
         · cases h)
       go_wp2_with fail
       exact ⟨⟨s + 1, OA, q, oc, by omega, by omega, by go_num, rfl, by omega, Lib.hid ⟨HBW.out.trans HB3.out, ps, by rw [Nat.add_sub_cancel, flowsS_none hs1 HN.out]; exact HMO.out.1, HMO.out.2.2.1, HMO.out.2.2.2, HMO.out.2.1.bw HB3.out⟩⟩, by simp [intOf]; omega⟩
     | true =>
       obtain ⟨y, hy, hyl, hro, hsn⟩ : ∃ y, suppP cs k s = some y ∧ y.length = n ∧ w3.ownsRow wo.heap.size 3 1 (.slice SA sn sc) n (intVs y) ∧ sn = n := by
         rcases HC3.out with ⟨_, h⟩ | ⟨y, h1, _, h2, h3, h4⟩
         · cases h
         · exact ⟨y, h1, h3, h4, h2⟩
       subst hsn
       have HY := Lib.hid (And.intro hy (And.intro hyl hro))
       clear hy hyl hro HC3 CP CS
       go_wp2_with (at_builtin; go_must (refine wpList_append_any _ rfl _ _ 44 rfl w.heap.size 27 i0 _ 1 24 Tryz.underlying44 hi0 hz0 hz1 hz2 rfl (by decide) (.slice OA q oc) q (ps.map (·.2)) rfl (HOW.out _ _ HB3.out) (w3.heap.size + 1) (some ⟨w3.heap.size, 0, none⟩) 1 1 [.slice SA sn sc] rfl (reads_newS w3 _) (by simp [Value.oneCell']) (by unfold maxLen; omega) (by omega) (by simp; omega) ?_; intro v7 w7 hown7 hgr7 hl7; obtain ⟨A7, c7, rfl⟩ := own_form hown7; (have HO7 := Lib.hid (And.intro hown7 (And.intro hgr7 hl7))); clear hown7 hgr7 hl7))
       have hA : Bw wo (w3.alloc (.cells #[.slice SA sn sc] 27)) := HB3.out.alloc _
       have hrow : ∀ r, (Value.slice OA q oc).ownBlock = some r → w.heap.size ≤ r ∧ r < wo.heap.size := fun r e => HMO.out.2.1.own.lt r e
       have hpu := (HMO.out.2.1.bw hA).push (r := y) (s := .slice SA sn sc) ((own_iat2 (by rw [HY.out.2.1]; exact HY.out.2.2)).keep (fun b hb => ⟨by omega, by simp; omega, fun e => by have := hrow b e; omega⟩) (fun p hp => World.cell?_of_block (Below.heap_alloc w3 _ p.block hp.2))) (by rw [HMO.out.2.2.1]; exact HO7.out.1) HO7.out.2.1 HO7.out.2.2
       exact ⟨⟨s + 1, A7, q + 1, c7, by omega, by omega, by go_num, rfl, by omega, Lib.hid ⟨bw_gbM (HBW.out.trans hA) HO7.out.2.1 (fun r e => (hrow r e).1), _, by rw [Nat.add_sub_cancel, flowsS_some hs1 HY.out.1, List.map_append, HMO.out.1]; rfl, by rw [List.length_append, HMO.out.2.2.1]; rfl, (fun p hp => by
         rcases List.mem_append.1 hp with hp | hp
         · exact HMO.out.2.2.2 p hp
         · rw [List.mem_singleton.1 hp]; exact HY.out.2.1), hpu⟩⟩, by simp [intOf]; omega⟩
   · obtain rfl : s = N := by omega
     obtain ⟨hbw, ps, hpe, hpl, hpn, hmo⟩ := HA.out
     have CP := Lib.hid (sortM_any w.heap.size n ps _ wo hmo hpn (by omega))
     have hq := hpl
     have HX := Lib.hid (And.intro hpe (And.intro hbw (And.intro hpn (And.intro hpl hmo.own))))
     clear hbw hpe hpl hpn hmo HA CS
     clear hq
     go_upto_region 8 with fail
     clear hwp
     go_wp2_with (go_at_call 147; go_must (refine CP.out.mono ?_; rintro e w5 ⟨rfl, qs, hq1, hq2, hq3⟩; (have HQ := Lib.hid (And.intro hq1 (And.intro hq2 hq3))); clear hq1 hq2 hq3))
     go_ret
     obtain ⟨h1, h2, h3⟩ := HQ.out
     refine ⟨_, _, _, qs, rfl, h2.length_eq.trans HX.out.2.2.2.1, ?_, fun p hp => HX.out.2.2.1 p (h2.subset hp), h1, bw_gbM HX.out.2.1 h3 (fun r e => (HX.out.2.2.2.2.lt r e).1)⟩
     have := h2.map (·.1)
     rw [HX.out.1, ← HFU.out] at this
     exact this
theorem sfOf_any (cs : List (List Int)) (n k : Nat) (ho : MxOk cs n k) (hn2 : n ≤ 2) (v : Value) (w : World) (h : MxAt w (· < w.heap.size) v cs) : Calls Tryz.prog 50 #[v] w (fun e w' => ∃ (A : Option Addr) (q c : Nat) (ps : List (List Int × Value)), e = .returned (.tuple #[.slice A q c, .int .i64 0]) ∧ ps.length = q ∧ (ps.map (·.1)).Perm (flowsU cs k) ∧ (∀ p ∈ ps, p.1.length = n) ∧ MxO w' w.heap.size (.slice A q c) ps ∧ Bw w w') := by
 have CK : Hid (∀ W, Bw w W → Calls Tryz.prog 88 #[v] W (NumPost W 0)) := Lib.hid (fun W g => sfCheck_any cs n k ho v W (h.bw g))
 have CO : Hid (∀ W, Bw w W → Calls Tryz.prog 89 #[v] W (FlPost W (flowsU cs k) n)) := Lib.hid (fun W g => sfof_any cs n k ho hn2 v W (h.bw g))
 obtain ⟨A, c, rfl, h3, h4⟩ := h.form
 have hln := ho.ln
 rw [hln] at CK CO h3 ⊢
 generalize flowsU cs k = F at *
 clear h hln ho
 go_enter Tryz.func50, Tryz.ntmps50
 go_wp2_with (first
   | (go_at_call 88; go_must (refine (CK.out _ (Bw.refl _)).mono ?_; rintro e w1 ⟨rfl, hg1⟩; (have HG1 := Lib.hid hg1); clear hg1))
   | (go_at_call 89; go_must (refine (CO.out _ HG1.out).mono ?_; rintro e w2 ⟨SA, q, oc, ps, rfl, h1, h2, h3, h4, h5⟩; (have HX := Lib.hid (And.intro h1 (And.intro h2 (And.intro h3 (And.intro h4 h5))))); clear h1 h2 h3 h4 h5)))
 go_ret2
 obtain ⟨h1, h2, h3, h4, h5⟩ := HX.out
 exact ⟨_, _, _, ps, rfl, h1, h2, h3, ⟨own_base h4.own HG1.out.size, fun p hp => (h4.kid p hp).keep (fun b hb => ⟨Nat.le_trans HG1.out.size hb.1, hb.2⟩) (fun _ _ => rfl)⟩, HG1.out.trans h5⟩
end
end Go.Proofs.YthhbkabdhkdafaaGreat
