/- Part of a proof of basisExact_holds. -/
import Derived.Test.YtbmheekaclmibaaGreatXRefKQ
set_option maxRecDepth 100000
set_option maxHeartbeats 16000000
namespace Go.Proofs.YtbmheekaclmibaaGreat
open Go.RowKit
set_option linter.unusedSimpArgs false
set_option linter.unusedVariables false
theorem r6bel_k5 (t p : T) (ok : V → Bool) (ok' : V → Bool) (f : V → V → Bool) (hk : t.kind = 5) (hp : t.parts = [p]) (hok : ∀ v, ok v = true → v.ks.length ≤ 12 ∧ v.ks.all ok' = true) (ih : BelSaysR p ok' f) : BelSaysR t ok (fun a b => domG f a.ks b.ks) := by
 intro a b ha hb rv pv s1 s2 w hT h1 h2
 obtain ⟨AA, an, ac, rfl, ln1, _, mn1⟩ := h1.form
 obtain ⟨BA, bn, bc, rfl, ln2, _, mn2⟩ := h2.form
 obtain ⟨A1, rn, c1, rfl, _, _⟩ := hT.1.form'
 obtain ⟨A2, pn, c2, rfl, _, _, _⟩ := hT.2.form
 unfold maxLen at mn1 mn2
 have hP := hT.2
 rw [hp] at hP
 obtain ⟨rfl, ad2, A3, n3, c3, A4, n4, c4, rfl, hab, y0, y1, y2, y3, hT2⟩ := hP.at0
 have han9 : an ≤ 12 := by have := (hok a ha).1; omega
 have hbn9 : bn ≤ 12 := by have := (hok b hb).1; omega
 have HK1 := Lib.hid h1
 have HK2 := Lib.hid h2
 have LA := Lib.hid ln1
 have LB := Lib.hid ln2
 have HT2 := Lib.hid hT2
 have HIH := Lib.hid ih
 have HOA := Lib.hid (List.all_eq_true.1 (hok a ha).2)
 have HOB := Lib.hid (List.all_eq_true.1 (hok b hb).2)
 have HBX := Lib.hid (boxes3 w (.int .i64 5) (.int .i64 t.size) (.slice A1 rn c1) (.slice (some ad2) 1 c2) (.int .i64 a.n) (.slice AA an ac) (.int .i64 b.n) (.slice BA bn bc))
 show Calls _ _ _ _ (BoolPost w (domG f a.ks b.ks))
 unfold aggT aggV
 rw [hk]
 have HRES := Lib.hid (dom_most f a.ks b.ks)
 clear h1 h2 hT ln1 ln2 hk ih hok ha hb hP hT2 hp
 generalize a.ks = xs at *
 generalize b.ks = ys at *
 generalize a.n = x at *
 generalize b.n = y at *
 generalize t.size = z at *
 generalize hpk : p.kind = pk at *
 generalize hpz : p.size = pz at *
 have HPK := Lib.hid hpk
 have HPZ := Lib.hid hpz
 clear hpk hpz
 obtain ⟨i0, hi0, hz0, hz1, hz2⟩ := info_parts infoBool
 obtain ⟨w3, hw3⟩ : ∃ w3, w3 = (((w.alloc (.cells #[.int .i64 5, .int .i64 z, .slice A1 rn c1, .slice (some ad2) 1 c2] 29)).alloc (.cells #[.int .i64 x, .slice AA an ac] 39)).alloc (.cells #[.int .i64 y, .slice BA bn bc] 39)) := ⟨_, rfl⟩
 have hs3 : w3.heap.size = w.heap.size + 3 := by rw [hw3]; simp
 have hmk := mkRows an (by omega) w3
 have HST : Hid (TabI w3 (w3.alloc (.cells (Array.replicate an (Value.slice none 0 0)) 103)) (w.heap.size + 4) (w.heap.size + 3) (List.replicate an (Value.slice none 0 0)) (domAt f xs ys 0 0)) := Lib.hid (by
   have := TabI.start (w := w3) an (Bw.refl _)
   rw [← domAt_zero, LA.out]
   simpa only [hs3, List.toArray_replicate] using this)
 rw [hw3, List.toArray_replicate] at hmk
 simp only [World.size_alloc] at hmk
 rw [hw3] at HST
 rw [← hw3] at HBX
 have HFX : Hid (∀ W, Bw w3 W → Bw w W ∧ w.heap.size + 3 ≤ W.heap.size ∧ W.cell? ⟨w.heap.size, 3, none⟩ = some (.slice (some ad2) 1 c2) ∧ W.cell? ⟨w.heap.size + 1, 1, none⟩ = some (.slice AA an ac) ∧ W.cell? ⟨w.heap.size + 2, 1, none⟩ = some (.slice BA bn bc) ∧ W.cell? ad2 = some (.int .i64 pk) ∧ W.cell? ⟨ad2.block, ad2.off + 1, none⟩ = some (.int .i64 pz) ∧ W.cell? ⟨ad2.block, ad2.off + 2, none⟩ = some (.slice A3 n3 c3) ∧ W.cell? ⟨ad2.block, ad2.off + 3, none⟩ = some (.slice A4 n4 c4)) := Lib.hid (fun W g => by
   obtain ⟨h0, b1, b2, b3⟩ := HBX.out
   have hw := h0.trans g
   exact ⟨hw, by have := g.size; omega, (b1.below g.b b1.lt).cell 3, (b2.below g.b b2.lt).cell 1, (b3.below g.b b3.lt).cell 1, (hw.b.cell (p := ad2) hab).trans y0, (hw.b.cell (p := ⟨ad2.block, ad2.off + 1, none⟩) hab).trans y1, (hw.b.cell (p := ⟨ad2.block, ad2.off + 2, none⟩) hab).trans y2, (hw.b.cell (p := ⟨ad2.block, ad2.off + 3, none⟩) hab).trans y3⟩)
 clear HBX y0 y1 y2 y3 hs3
 subst hw3
 go_enter Tryz.func54, Tryz.ntmps54
 go_wp2
 go_loopw [11] (fun ct wr => ∃ i : Nat, i ≤ an ∧ ct = .int .i64 i ∧ Hid (∃ vs, vs.length = an ∧ TabI (((w.alloc (.cells #[.int .i64 5, .int .i64 z, .slice A1 rn c1, .slice (some ad2) 1 c2] 29)).alloc (.cells #[.int .i64 x, .slice AA an ac] 39)).alloc (.cells #[.int .i64 y, .slice BA bn bc] 39)) wr (w.heap.size + 4) (w.heap.size + 3) vs (domAt f xs ys i 0))) (fun ct _ => an - (intOf ct).toNat)
 case atStart => exact ⟨0, by omega, rfl, Lib.hid ⟨_, by simp, HST.out⟩⟩
 case round =>
   obtain ⟨wo, hwo⟩ : ∃ wo, wo = wr := ⟨_, rfl⟩
   subst hwo
   obtain ⟨i, hi, rfl, HR⟩ := hrel
   obtain ⟨vs, hvl, hS⟩ := HR.out
   have HFW := Lib.hid (HFX.out wo hS.bw)
   obtain ⟨hw0, hwz, p1, p2, p3, g0, g1, g2, g3⟩ := HFW.out
   have HW : Hid (Bw w wo) := Lib.hid hw0
   have HS := Lib.hid hS
   clear hS HR HST hmk HFW hw0
   by_cases hlt : i < an
   · have e1 : i < xs.length := by rw [LA.out]; exact hlt
     obtain ⟨ad, KA, kn, kc, rfl, hb, q0, q1, _, hkk⟩ := HK1.out.at_ (k := i) e1
     have hb' : ad.block < w.heap.size := hb
     have HKK := Lib.hid hkk
     have HSX : Hid (∃ vs, vs.length = an ∧ TabI (((w.alloc (.cells #[.int .i64 5, .int .i64 z, .slice A1 rn c1, .slice (some ad2) 1 c2] 29)).alloc (.cells #[.int .i64 x, .slice (some ad) an ac] 39)).alloc (.cells #[.int .i64 y, .slice BA bn bc] 39)) wo (w.heap.size + 4) (w.heap.size + 3) vs (domAt f xs ys i 0)) := Lib.hid ⟨vs, hvl, HS.out⟩
     generalize hxx : xs[i] = xi at *
     have HXX := Lib.hid hxx
     clear hkk hb HS hxx
     generalize hxn : xi.n = xn at *
     have HXN := Lib.hid hxn
     clear hxn
     go_wp2
     go_loopw [12] (fun ct wr2 => ∃ j : Nat, j ≤ bn ∧ ct = .int .i64 j ∧ Hid (∃ vs, vs.length = an ∧ TabI (((w.alloc (.cells #[.int .i64 5, .int .i64 z, .slice A1 rn c1, .slice (some ad2) 1 c2] 29)).alloc (.cells #[.int .i64 x, .slice (some ad) an ac] 39)).alloc (.cells #[.int .i64 y, .slice BA bn bc] 39)) wr2 (w.heap.size + 4) (w.heap.size + 3) vs (domAt f xs ys i j))) (fun ct _ => bn - (intOf ct).toNat)
     case atStart => exact ⟨0, by omega, rfl, HSX⟩
     case round =>
       obtain ⟨j, hj, rfl, HR2⟩ := hrel
       obtain ⟨vs2, hvl2, hS2⟩ := HR2.out
       have HFW := Lib.hid (HFX.out wr hS2.bw)
       clear p1 p2 p3 g0 g1 g2 g3 hwz
       obtain ⟨hw2, hwz, p1, p2, p3, g0, g1, g2, g3⟩ := HFW.out
       have HW2 : Hid (Bw w wr) := Lib.hid hw2
       clear HR2 HSX HFW hw2
       by_cases hjl : j < bn
       · have e2 : j < ys.length := by rw [LB.out]; exact hjl
         obtain ⟨bd, KB2, kbn, kbc, rfl, hb2, y0, y1, _, hky⟩ := HK2.out.at_ (k := j) e2
         have hb2' : bd.block < w.heap.size := hb2
         have v0 := (HW2.out.b.cell (by rw [add_block]; exact hb2')).trans y0
         have v1 := (HW2.out.b.cell (by simp only [add_block]; exact hb2')).trans y1
         have u0 := (HW2.out.b.cell (by rw [add_block]; exact hb')).trans q0
         have u1 := (HW2.out.b.cell (by simp only [add_block]; exact hb')).trans q1
         have hiv : i < vs2.length := by omega
         have hit : i < (domAt f xs ys i j).length := by rw [domAt_length]; exact e1
         have HSET := Lib.hid (domAt_set (f := f) e1 e2 hit)
         have hrl : ((domAt f xs ys i j)[i]).length = j := by
           have := domAt_get (f := f) (xs := xs) (ys := ys) (i := i) (j := j) e1
           rw [List.getElem?_eq_getElem hit, if_neg (by omega), if_pos rfl] at this
           rw [Option.some.inj this, List.length_map, List.length_take]
           omega
         have hrow := hS2.row i hiv hit
         have BC : Hid (∀ W, Bw wr W → Calls Tryz.prog 54 #[.agg #[.int .i64 pk, .int .i64 pz, .slice A3 n3 c3, .slice A4 n4 c4], .agg #[.int .i64 xn, .slice KA kn kc], .agg #[.int .i64 ys[j].n, .slice KB2 kbn kbc]] W (BoolPost W (f xs[i] ys[j]))) := Lib.hid (fun W h => by
           rw [← HXN.out, ← HXX.out, ← HPK.out, ← HPZ.out]
           have hg := HW2.out.trans h
           exact HIH.out _ _ (HOA.out _ (List.getElem_mem e1)) (HOB.out _ (List.getElem_mem e2)) _ _ _ _ W (TAt.bw HT2.out hg) (by rw [HXX.out]; exact (HKK.out.under hg.b).more hg.size) ((hky.under hg.b).more hg.size))
         obtain ⟨VA, vc, ev, _, _⟩ := own_bounds hrow
         have HS2 := Lib.hid hS2
         have HEV := Lib.hid ev
         have HRL := Lib.hid hrl
         have k1 := hS2.tb.cell i
         have k2 := hS2.tb.lt
         have e3 : vs2.toArray[i]? = some (.slice VA j vc) := by rw [← HRL.out, ← HEV.out]; simp [hiv]
         rw [e3] at k1
         have E3 := Lib.hid e3
         have HROW : Hid (wr.ownsRow (w.heap.size + 4) 4 1 (.slice VA j vc) j (boolVs (domAt f xs ys i j)[i])) := Lib.hid (by have := hS2.row i hiv hit; rw [HEV.out, HRL.out] at this; exact this)
         have HFY := Lib.hid (fun W (g : Bw wr W) => HFX.out W (hS2.bw.trans g))
         generalize f xs[i] ys[j] = r at *
         generalize ys[j].n = yn at *
         have KS : Hid (∀ W', Bw wr W' → w.heap.size + 3 < W'.heap.size ∧ W'.cell? ⟨w.heap.size + 3, i, none⟩ = some (.slice VA j vc)) := Lib.hid (fun W' g => ⟨Nat.lt_of_lt_of_le k2 g.size, (g.b.cell (p := ⟨w.heap.size + 3, i, none⟩) k2).trans k1⟩)
         have KS3 : Hid (∀ W', Bw (((w.alloc (.cells #[.int .i64 5, .int .i64 z, .slice A1 rn c1, .slice (some ad2) 1 c2] 29)).alloc (.cells #[.int .i64 x, .slice (some ad) an ac] 39)).alloc (.cells #[.int .i64 y, .slice (some bd) bn bc] 39)) W' → (W'.cell? (bd.add (j * 2)) = some (.int .i64 yn) ∧ W'.cell? ⟨(bd.add (j * 2)).block, (bd.add (j * 2)).off + 1, none⟩ = some (.slice KB2 kbn kbc) ∧ W'.cell? (ad.add (i * 2)) = some (.int .i64 xn) ∧ W'.cell? ⟨(ad.add (i * 2)).block, (ad.add (i * 2)).off + 1, none⟩ = some (.slice KA kn kc)) ∧ (W'.cell? ⟨w.heap.size, 3, none⟩ = some (.slice (some ad2) 1 c2) ∧ W'.cell? ⟨w.heap.size + 1, 1, none⟩ = some (.slice (some ad) an ac) ∧ W'.cell? ⟨w.heap.size + 2, 1, none⟩ = some (.slice (some bd) bn bc) ∧ W'.cell? ad2 = some (.int .i64 pk) ∧ W'.cell? ⟨ad2.block, ad2.off + 1, none⟩ = some (.int .i64 pz) ∧ W'.cell? ⟨ad2.block, ad2.off + 2, none⟩ = some (.slice A3 n3 c3) ∧ W'.cell? ⟨ad2.block, ad2.off + 3, none⟩ = some (.slice A4 n4 c4))) := Lib.hid (fun W' g => by
           have hx := HFX.out W' g
           exact ⟨⟨(hx.1.b.cell (by rw [add_block]; exact hb2')).trans y0, (hx.1.b.cell (by simp only [add_block]; exact hb2')).trans y1, (hx.1.b.cell (by rw [add_block]; exact hb')).trans q0, (hx.1.b.cell (by simp only [add_block]; exact hb')).trans q1⟩, hx.2.2⟩)
         have HB0 : Hid (Bw (((w.alloc (.cells #[.int .i64 5, .int .i64 z, .slice A1 rn c1, .slice (some ad2) 1 c2] 29)).alloc (.cells #[.int .i64 x, .slice (some ad) an ac] 39)).alloc (.cells #[.int .i64 y, .slice (some bd) bn bc] 39)) wr) := Lib.hid hS2.bw
         have HB9 : Hid (∀ W0 w9, Bw wr W0 → W0.grownBy w9 (Value.slice VA j vc).ownBlock → Bw (((w.alloc (.cells #[.int .i64 5, .int .i64 z, .slice A1 rn c1, .slice (some ad2) 1 c2] 29)).alloc (.cells #[.int .i64 x, .slice (some ad) an ac] 39)).alloc (.cells #[.int .i64 y, .slice (some bd) bn bc] 39)) w9) := Lib.hid (fun W0 w9 g hg => by
           have hD := (HS2.out.keep g)
           exact below_own (hD.bw) (own_base (own_kept_bw HROW.out g) (by simp)) hg hD.bw.size)
         have HSC : Hid (∀ w9 v, Bw (((w.alloc (.cells #[.int .i64 5, .int .i64 z, .slice A1 rn c1, .slice (some ad2) 1 c2] 29)).alloc (.cells #[.int .i64 x, .slice (some ad) an ac] 39)).alloc (.cells #[.int .i64 y, .slice (some bd) bn bc] 39)) w9 → Bw (((w.alloc (.cells #[.int .i64 5, .int .i64 z, .slice A1 rn c1, .slice (some ad2) 1 c2] 29)).alloc (.cells #[.int .i64 x, .slice (some ad) an ac] 39)).alloc (.cells #[.int .i64 y, .slice (some bd) bn bc] 39)) (w9.setCell ⟨w.heap.size + 3, i, none⟩ v)) := Lib.hid (fun w9 v g => Bw.setCell g (by simp) v)
         clear hS2 hrow ev hrl y0 y1 q0 q1 hky hb2 e3 HFY
         go_wp2_with fail
         refine wp_region_held_drew (S := (fun W' => (W'.cell? (bd.add (j * 2)) = some (.int .i64 yn) ∧ W'.cell? ⟨(bd.add (j * 2)).block, (bd.add (j * 2)).off + 1, none⟩ = some (.slice KB2 kbn kbc) ∧ W'.cell? (ad.add (i * 2)) = some (.int .i64 xn) ∧ W'.cell? ⟨(ad.add (i * 2)).block, (ad.add (i * 2)).off + 1, none⟩ = some (.slice KA kn kc)) ∧ (W'.cell? ⟨w.heap.size, 3, none⟩ = some (.slice (some ad2) 1 c2) ∧ W'.cell? ⟨w.heap.size + 1, 1, none⟩ = some (.slice (some ad) an ac) ∧ W'.cell? ⟨w.heap.size + 2, 1, none⟩ = some (.slice (some bd) bn bc) ∧ W'.cell? ad2 = some (.int .i64 pk) ∧ W'.cell? ⟨ad2.block, ad2.off + 1, none⟩ = some (.int .i64 pz) ∧ W'.cell? ⟨ad2.block, ad2.off + 2, none⟩ = some (.slice A3 n3 c3) ∧ W'.cell? ⟨ad2.block, ad2.off + 3, none⟩ = some (.slice A4 n4 c4)))) (by kernel_rfl) ?_ (fun hHeld => ?_)
         · exact KS3.out _ HB0.out.drew
         refine wpAnyH_take (i := 0) (oi := _) (v := ?v1) rfl (by kernel_rfl) (by kernel_rfl) (by kernel_rfl) (fun _ _ _ h => h) (Or.inl ⟨by rfl, ?hy1⟩) (by assumption) ?rest1
         case hy1 => ((intro W hSw); (try dsimp only at hSw); go_simp; (first | done | with_reducible rfl))
         (try simp only [Act.put, List.setIfInBounds_toArray, List.set_cons_zero, List.set_cons_succ])
         refine wpAnyH_take (i := 1) (oi := _) (v := ?v2) rfl (by kernel_rfl) (by kernel_rfl) (by kernel_rfl) (fun _ _ _ h => h) (Or.inl ⟨by rfl, ?hy2⟩) (by assumption) ?rest2
         case hy2 => ((intro W hSw); (try dsimp only at hSw); go_simp; (first | done | with_reducible rfl))
         (try simp only [Act.put, List.setIfInBounds_toArray, List.set_cons_zero, List.set_cons_succ])
         refine wpAnyH_take (i := 2) (oi := _) (v := ?v3) rfl (by kernel_rfl) (by kernel_rfl) (by kernel_rfl) (fun _ _ _ h => h) (Or.inl ⟨by rfl, ?hy3⟩) (by assumption) ?rest3
         case hy3 => ((intro W hSw); (try dsimp only at hSw); go_simp; (first | done | with_reducible rfl))
         (try simp only [Act.put, List.setIfInBounds_toArray, List.set_cons_zero, List.set_cons_succ])
         refine wpAnyH_take (i := 3) (oi := _) (v := ?v4) rfl (by kernel_rfl) (by kernel_rfl) (by kernel_rfl) (fun _ _ _ h => h) (Or.inl ⟨by rfl, ?hy4⟩) (by assumption) ?rest4
         case hy4 => ((intro W hSw); (try dsimp only at hSw); go_simp; (first | done | with_reducible rfl))
         (try simp only [Act.put, List.setIfInBounds_toArray, List.set_cons_zero, List.set_cons_succ])
         refine wpAnyH_take (i := 4) (oi := _) (v := ?v5) rfl (by kernel_rfl) (by kernel_rfl) (by kernel_rfl) (fun _ _ _ h => h) (Or.inl ⟨by rfl, ?hy5⟩) (by assumption) ?rest5
         case hy5 => ((intro W hSw); (try dsimp only at hSw); go_simp; (first | done | with_reducible rfl))
         (try simp only [Act.put, List.setIfInBounds_toArray, List.set_cons_zero, List.set_cons_succ])
         refine wpAnyH_take (i := 6) (oi := _) (v := ?v6) rfl (by kernel_rfl) (by kernel_rfl) (by kernel_rfl) (fun _ _ _ h => h) (Or.inl ⟨by rfl, ?hy6⟩) (by assumption) ?rest6
         case hy6 => ((intro W hSw); (try dsimp only at hSw); go_simp; (first | done | with_reducible rfl))
         (try simp only [Act.put, List.setIfInBounds_toArray, List.set_cons_zero, List.set_cons_succ])
         refine wpAnyH_take (i := 7) (oi := _) (v := ?v7) rfl (by kernel_rfl) (by kernel_rfl) (by kernel_rfl) (fun _ _ _ h => h) (Or.inl ⟨by rfl, ?hy7⟩) (by assumption) ?rest7
         case hy7 => ((intro W hSw); (try dsimp only at hSw); go_simp; (first | done | with_reducible rfl))
         (try simp only [Act.put, List.setIfInBounds_toArray, List.set_cons_zero, List.set_cons_succ])
         refine wpAnyH_take (i := 8) (oi := _) (v := ?v8) rfl (by kernel_rfl) (by kernel_rfl) (by kernel_rfl) (fun _ _ _ h => h) (Or.inl ⟨by rfl, ?hy8⟩) (by assumption) ?rest8
         case hy8 => ((intro W hSw); (try dsimp only at hSw); go_simp; (first | done | with_reducible rfl))
         (try simp only [Act.put, List.setIfInBounds_toArray, List.set_cons_zero, List.set_cons_succ])
         refine wpAnyH_take (i := 9) (oi := _) (v := ?v9) rfl (by kernel_rfl) (by kernel_rfl) (by kernel_rfl) (fun _ _ _ h => h) (Or.inl ⟨by rfl, ?hy9⟩) (by assumption) ?rest9
         case hy9 => ((intro W hSw); (try dsimp only at hSw); go_simp; (first | done | with_reducible rfl))
         (try simp only [Act.put, List.setIfInBounds_toArray, List.set_cons_zero, List.set_cons_succ])
         refine wpAnyH_take (i := 10) (oi := _) (v := ?v10) rfl (by kernel_rfl) (by kernel_rfl) (by kernel_rfl) (fun _ _ _ h => h) (Or.inl ⟨by rfl, ?hy10⟩) (by assumption) ?rest10
         case hy10 => ((intro W hSw); (try dsimp only at hSw); go_simp; (first | done | with_reducible rfl))
         (try simp only [Act.put, List.setIfInBounds_toArray, List.set_cons_zero, List.set_cons_succ])
         refine wpAnyH_take (i := 11) (oi := _) (v := ?v11) rfl (by kernel_rfl) (by kernel_rfl) (by kernel_rfl) (fun _ _ _ h => h) (Or.inl ⟨by rfl, ?hy11⟩) (by assumption) ?rest11
         case hy11 => ((intro W hSw); (try dsimp only at hSw); go_simp; (first | done | with_reducible rfl))
         (try simp only [Act.put, List.setIfInBounds_toArray, List.set_cons_zero, List.set_cons_succ])
         refine wpAnyH_take (i := 12) (oi := _) (v := ?v12) rfl (by kernel_rfl) (by kernel_rfl) (by kernel_rfl) (fun _ _ _ h => h) (Or.inl ⟨by rfl, ?hy12⟩) (by assumption) ?rest12
         case hy12 => ((intro W hSw); (try dsimp only at hSw); go_simp; (first | done | with_reducible rfl))
         (try simp only [Act.put, List.setIfInBounds_toArray, List.set_cons_zero, List.set_cons_succ])
         refine wpAnyH_take (i := 13) (oi := _) (v := ?v13) rfl (by kernel_rfl) (by kernel_rfl) (by kernel_rfl) (fun _ _ _ h => h) (Or.inl ⟨by rfl, ?hy13⟩) (by assumption) ?rest13
         case hy13 => ((intro W hSw); (try dsimp only at hSw); go_simp; (first | done | with_reducible rfl))
         (try simp only [Act.put, List.setIfInBounds_toArray, List.set_cons_zero, List.set_cons_succ])
         refine wpAnyH_take (i := 14) (oi := _) (v := ?v14) rfl (by kernel_rfl) (by kernel_rfl) (by kernel_rfl) (fun _ _ _ h => h) (Or.inl ⟨by rfl, ?hy14⟩) (by assumption) ?rest14
         case hy14 => ((intro W hSw); (try dsimp only at hSw); go_simp; (first | done | with_reducible rfl))
         (try simp only [Act.put, List.setIfInBounds_toArray, List.set_cons_zero, List.set_cons_succ])
         refine wpAnyH_take (i := 15) (oi := _) (v := ?v15) rfl (by kernel_rfl) (by kernel_rfl) (by kernel_rfl) (fun _ _ _ h => h) (Or.inl ⟨by rfl, ?hy15⟩) (by assumption) ?rest15
         case hy15 => ((intro W hSw); (try dsimp only at hSw); go_simp; (first | done | with_reducible rfl))
         (try simp only [Act.put, List.setIfInBounds_toArray, List.set_cons_zero, List.set_cons_succ])
         refine wpAnyH_take (i := 16) (oi := _) (v := ?v16) rfl (by kernel_rfl) (by kernel_rfl) (by kernel_rfl) (fun _ _ _ h => h) (Or.inl ⟨by rfl, ?hy16⟩) (by assumption) ?rest16
         case hy16 => ((intro W hSw); (try dsimp only at hSw); go_simp; (first | done | with_reducible rfl))
         (try simp only [Act.put, List.setIfInBounds_toArray, List.set_cons_zero, List.set_cons_succ])
         refine wpAnyH_take (i := 17) (oi := _) (v := ?v17) rfl (by kernel_rfl) (by kernel_rfl) (by kernel_rfl) (fun _ _ _ h => h) (Or.inl ⟨by rfl, ?hy17⟩) (by assumption) ?rest17
         case hy17 => ((intro W hSw); (try dsimp only at hSw); go_simp; (first | done | with_reducible rfl))
         (try simp only [Act.put, List.setIfInBounds_toArray, List.set_cons_zero, List.set_cons_succ])
         refine wpAnyH_take (i := 18) (oi := _) (v := ?v18) rfl (by kernel_rfl) (by kernel_rfl) (by kernel_rfl) (fun _ _ _ h => h) (Or.inl ⟨by rfl, ?hy18⟩) (by assumption) ?rest18
         case hy18 => ((intro W hSw); (try dsimp only at hSw); go_simp; (first | done | with_reducible rfl))
         (try simp only [Act.put, List.setIfInBounds_toArray, List.set_cons_zero, List.set_cons_succ])
         refine wpAnyH_take (i := 19) (oi := _) (v := ?v19) rfl (by kernel_rfl) (by kernel_rfl) (by kernel_rfl) (fun _ _ _ h => h) (Or.inl ⟨by rfl, ?hy19⟩) (by assumption) ?rest19
         case hy19 => ((intro W hSw); (try dsimp only at hSw); go_simp; (first | done | with_reducible rfl))
         (try simp only [Act.put, List.setIfInBounds_toArray, List.set_cons_zero, List.set_cons_succ])
         refine wpAnyH_ready (rs := [5, 20]) (by kernel_rfl) (by simp) ?_
         refine AllReadyH.cons (o := _) rfl (fun K hK => ?_) ?_
         · go_simp
           refine hK.out _ _ ?_ (fun hHeld2 => ?_)
           · exact KS3.out _ HB0.out.drew
           clear hK K hHeld
           have hHeld := hHeld2
           clear hHeld2
           (try simp only [Act.put, List.setIfInBounds_toArray, List.set_cons_zero, List.set_cons_succ])
           refine wpAnyH_ready (rs := [20]) (by kernel_rfl) (by simp) ?_
           refine AllReadyH.cons (o := _) rfl (fun K hK => ?_) ?_
           · (go_simp; go_at_call 54; refine (BC.out _ (by first | exact Bw.refl _ | exact (Bw.refl _).drew)).mono ?_; rintro e w7 ⟨rfl, hg7⟩; have HG7 : Hid (Bw wr w7) := Lib.hid (by first | exact hg7 | exact (Bw.refl _).drew.trans hg7); have K7 := Lib.hid (KS.out w7 HG7.out); obtain ⟨l0, l1⟩ := K7.out; have l2 : ∀ o, (w7.alloc o).cell? ⟨w.heap.size + 3, i, none⟩ = some (.slice VA j vc) := (fun o => (KS.out _ (HG7.out.alloc o)).2); clear hg7 K7)
             refine hK.out _ _ ?_ (fun hHeld2 => ?_)
             · exact KS3.out _ (HB0.out.trans HG7.out)
             clear hK K hHeld
             have hHeld := hHeld2
             clear hHeld2
             (try simp only [Act.put, List.setIfInBounds_toArray, List.set_cons_zero, List.set_cons_succ])
             refine wpAnyH_ready (rs := [21]) (by kernel_rfl) (by simp) ?_
             refine AllReadyH.cons (o := _) rfl (fun K hK => ?_) ?_
             · go_simp
               refine hK.out _ _ ?_ (fun hHeld2 => ?_)
               · exact KS3.out _ (HB0.out.trans (HG7.out.alloc _))
               clear hK K hHeld
               have hHeld := hHeld2
               clear hHeld2
               (try simp only [Act.put, List.setIfInBounds_toArray, List.set_cons_zero, List.set_cons_succ])
               refine wpAnyH_ready (rs := [22]) (by kernel_rfl) (by simp) ?_
               refine AllReadyH.cons (o := _) rfl (fun K hK => ?_) ?_
               · (refine step_append_any _ rfl (.tmp 134) (.tmp 150) 103 rfl (w.heap.size + 4) 4 i0 _ 1 1 Tryz.underlying103 hi0 hz0 hz1 hz2 rfl (by decide) (.slice VA j vc) j (boolVs (domAt f xs ys i j)[i]) (by simp [Act.eval, Act.put]) (own_kept_bw HROW.out (HG7.out.alloc _)) (w7.heap.size + 1) (some ⟨w7.heap.size, 0, none⟩) 1 1 [.bool r] (by simp [Act.eval, Act.put]) (reads_newB w7 r) (by simp [Value.oneCell']) (by unfold maxLen; omega) (by omega) (by have := HG7.out.size; simp <;> omega) ?_; intro v9 w9 hown9 hgr9 hl9; obtain ⟨A9, c9, rfl⟩ := own_form hown9; have HD9 : Hid (TabI (((w.alloc (.cells #[.int .i64 5, .int .i64 z, .slice A1 rn c1, .slice (some ad2) 1 c2] 29)).alloc (.cells #[.int .i64 x, .slice (some ad) an ac] 39)).alloc (.cells #[.int .i64 y, .slice (some bd) bn bc] 39)) (w7.alloc (.cells #[.bool r] 4)) (w.heap.size + 4) (w.heap.size + 3) vs2 (domAt f xs ys i j)) := Lib.hid (HS2.out.keep (HG7.out.alloc _)); have hne : some (w.heap.size + 3) ≠ (Value.slice VA j vc).ownBlock := (fun e => by have := (HROW.out.lt _ e.symm).1; omega); have k5 := (HD9.out.tb.grown hgr9 hne).cell i; rw [E3.out] at k5; have k6 := (HD9.out.tb.grown hgr9 hne).frozen i; have HO9 := Lib.hid hown9; have HG9 := Lib.hid hgr9; have HL9 := Lib.hid hl9; (have HBW9 := Lib.hid (HB9.out _ _ (HG7.out.alloc _) hgr9)); clear hgr9 hown9 hl9 hne)
                 refine hK.out _ _ ?_ (fun hHeld2 => ?_)
                 · exact KS3.out _ HBW9.out
                 clear hK K hHeld
                 have hHeld := hHeld2
                 clear hHeld2
                 (try simp only [Act.put, List.setIfInBounds_toArray, List.set_cons_zero, List.set_cons_succ])
                 refine wpAnyH_take (i := 23) (oi := _) (v := ?v20) rfl (by kernel_rfl) (by kernel_rfl) (by kernel_rfl) (fun _ _ _ h => h) (Or.inl ⟨by rfl, ?hy20⟩) (by assumption) ?rest20
                 case hy20 => ((intro W hSw); (try dsimp only at hSw); go_simp; (first | done | with_reducible rfl))
                 (try simp only [Act.put, List.setIfInBounds_toArray, List.set_cons_zero, List.set_cons_succ])
                 refine wpAnyH_ready (rs := [24]) (by kernel_rfl) (by simp) ?_
                 refine AllReadyH.cons (o := _) rfl (fun K hK => ?_) ?_
                 · go_simp
                   refine hK.out _ _ ?_ (fun hHeld2 => ?_)
                   · exact KS3.out _ (HSC.out _ _ HBW9.out)
                   clear hK K hHeld
                   have hHeld := hHeld2
                   clear hHeld2
                   (try simp only [Act.put, List.setIfInBounds_toArray, List.set_cons_zero, List.set_cons_succ])
                   refine wpAnyH_done (by kernel_rfl) ?_ _
                   go_simp
                   go_wp2
                   go_roundw
                   case rel =>
                     refine ⟨j + 1, by omega, by go_num, Lib.hid ⟨vs2.set i (.slice A9 (j + 1) c9), by simp [hvl2], ?_⟩⟩
                     rw [← HSET.out]
                     exact HD9.out.put hiv hit (by rw [HRL.out]; exact HO9.out) (by rw [HEV.out, HRL.out]; exact HG9.out) (by rw [HEV.out, HRL.out]; exact HL9.out)
                   case measure => simp [intOf]; omega
                 exact AllReadyH.nil
               exact AllReadyH.nil
             exact AllReadyH.nil
           exact AllReadyH.nil
         refine AllReadyH.cons (o := _) rfl (fun K hK => ?_) ?_
         · (go_simp; go_at_call 54; refine (BC.out _ (by first | exact Bw.refl _ | exact (Bw.refl _).drew)).mono ?_; rintro e w7 ⟨rfl, hg7⟩; have HG7 : Hid (Bw wr w7) := Lib.hid (by first | exact hg7 | exact (Bw.refl _).drew.trans hg7); have K7 := Lib.hid (KS.out w7 HG7.out); obtain ⟨l0, l1⟩ := K7.out; have l2 : ∀ o, (w7.alloc o).cell? ⟨w.heap.size + 3, i, none⟩ = some (.slice VA j vc) := (fun o => (KS.out _ (HG7.out.alloc o)).2); clear hg7 K7)
           refine hK.out _ _ ?_ (fun hHeld2 => ?_)
           · exact KS3.out _ (HB0.out.trans HG7.out)
           clear hK K hHeld
           have hHeld := hHeld2
           clear hHeld2
           (try simp only [Act.put, List.setIfInBounds_toArray, List.set_cons_zero, List.set_cons_succ])
           refine wpAnyH_ready (rs := [5, 21]) (by kernel_rfl) (by simp) ?_
           refine AllReadyH.cons (o := _) rfl (fun K hK => ?_) ?_
           · go_simp
             refine hK.out _ _ ?_ (fun hHeld2 => ?_)
             · exact KS3.out _ (HB0.out.trans HG7.out)
             clear hK K hHeld
             have hHeld := hHeld2
             clear hHeld2
             (try simp only [Act.put, List.setIfInBounds_toArray, List.set_cons_zero, List.set_cons_succ])
             refine wpAnyH_ready (rs := [21]) (by kernel_rfl) (by simp) ?_
             refine AllReadyH.cons (o := _) rfl (fun K hK => ?_) ?_
             · go_simp
               refine hK.out _ _ ?_ (fun hHeld2 => ?_)
               · exact KS3.out _ (HB0.out.trans (HG7.out.alloc _))
               clear hK K hHeld
               have hHeld := hHeld2
               clear hHeld2
               (try simp only [Act.put, List.setIfInBounds_toArray, List.set_cons_zero, List.set_cons_succ])
               refine wpAnyH_ready (rs := [22]) (by kernel_rfl) (by simp) ?_
               refine AllReadyH.cons (o := _) rfl (fun K hK => ?_) ?_
               · (refine step_append_any _ rfl (.tmp 134) (.tmp 150) 103 rfl (w.heap.size + 4) 4 i0 _ 1 1 Tryz.underlying103 hi0 hz0 hz1 hz2 rfl (by decide) (.slice VA j vc) j (boolVs (domAt f xs ys i j)[i]) (by simp [Act.eval, Act.put]) (own_kept_bw HROW.out (HG7.out.alloc _)) (w7.heap.size + 1) (some ⟨w7.heap.size, 0, none⟩) 1 1 [.bool r] (by simp [Act.eval, Act.put]) (reads_newB w7 r) (by simp [Value.oneCell']) (by unfold maxLen; omega) (by omega) (by have := HG7.out.size; simp <;> omega) ?_; intro v9 w9 hown9 hgr9 hl9; obtain ⟨A9, c9, rfl⟩ := own_form hown9; have HD9 : Hid (TabI (((w.alloc (.cells #[.int .i64 5, .int .i64 z, .slice A1 rn c1, .slice (some ad2) 1 c2] 29)).alloc (.cells #[.int .i64 x, .slice (some ad) an ac] 39)).alloc (.cells #[.int .i64 y, .slice (some bd) bn bc] 39)) (w7.alloc (.cells #[.bool r] 4)) (w.heap.size + 4) (w.heap.size + 3) vs2 (domAt f xs ys i j)) := Lib.hid (HS2.out.keep (HG7.out.alloc _)); have hne : some (w.heap.size + 3) ≠ (Value.slice VA j vc).ownBlock := (fun e => by have := (HROW.out.lt _ e.symm).1; omega); have k5 := (HD9.out.tb.grown hgr9 hne).cell i; rw [E3.out] at k5; have k6 := (HD9.out.tb.grown hgr9 hne).frozen i; have HO9 := Lib.hid hown9; have HG9 := Lib.hid hgr9; have HL9 := Lib.hid hl9; (have HBW9 := Lib.hid (HB9.out _ _ (HG7.out.alloc _) hgr9)); clear hgr9 hown9 hl9 hne)
                 refine hK.out _ _ ?_ (fun hHeld2 => ?_)
                 · exact KS3.out _ HBW9.out
                 clear hK K hHeld
                 have hHeld := hHeld2
                 clear hHeld2
                 (try simp only [Act.put, List.setIfInBounds_toArray, List.set_cons_zero, List.set_cons_succ])
                 refine wpAnyH_take (i := 23) (oi := _) (v := ?v21) rfl (by kernel_rfl) (by kernel_rfl) (by kernel_rfl) (fun _ _ _ h => h) (Or.inl ⟨by rfl, ?hy21⟩) (by assumption) ?rest21
                 case hy21 => ((intro W hSw); (try dsimp only at hSw); go_simp; (first | done | with_reducible rfl))
                 (try simp only [Act.put, List.setIfInBounds_toArray, List.set_cons_zero, List.set_cons_succ])
                 refine wpAnyH_ready (rs := [24]) (by kernel_rfl) (by simp) ?_
                 refine AllReadyH.cons (o := _) rfl (fun K hK => ?_) ?_
                 · go_simp
                   refine hK.out _ _ ?_ (fun hHeld2 => ?_)
                   · exact KS3.out _ (HSC.out _ _ HBW9.out)
                   clear hK K hHeld
                   have hHeld := hHeld2
                   clear hHeld2
                   (try simp only [Act.put, List.setIfInBounds_toArray, List.set_cons_zero, List.set_cons_succ])
                   refine wpAnyH_done (by kernel_rfl) ?_ _
                   go_simp
                   go_wp2
                   go_roundw
                   case rel =>
                     refine ⟨j + 1, by omega, by go_num, Lib.hid ⟨vs2.set i (.slice A9 (j + 1) c9), by simp [hvl2], ?_⟩⟩
                     rw [← HSET.out]
                     exact HD9.out.put hiv hit (by rw [HRL.out]; exact HO9.out) (by rw [HEV.out, HRL.out]; exact HG9.out) (by rw [HEV.out, HRL.out]; exact HL9.out)
                   case measure => simp [intOf]; omega
                 exact AllReadyH.nil
               exact AllReadyH.nil
             exact AllReadyH.nil
           refine AllReadyH.cons (o := _) rfl (fun K hK => ?_) ?_
           · go_simp
             refine hK.out _ _ ?_ (fun hHeld2 => ?_)
             · exact KS3.out _ (HB0.out.trans (HG7.out.alloc _))
             clear hK K hHeld
             have hHeld := hHeld2
             clear hHeld2
             (try simp only [Act.put, List.setIfInBounds_toArray, List.set_cons_zero, List.set_cons_succ])
             refine wpAnyH_ready (rs := [5]) (by kernel_rfl) (by simp) ?_
             refine AllReadyH.cons (o := _) rfl (fun K hK => ?_) ?_
             · go_simp
               refine hK.out _ _ ?_ (fun hHeld2 => ?_)
               · exact KS3.out _ (HB0.out.trans (HG7.out.alloc _))
               clear hK K hHeld
               have hHeld := hHeld2
               clear hHeld2
               (try simp only [Act.put, List.setIfInBounds_toArray, List.set_cons_zero, List.set_cons_succ])
               refine wpAnyH_ready (rs := [22]) (by kernel_rfl) (by simp) ?_
               refine AllReadyH.cons (o := _) rfl (fun K hK => ?_) ?_
               · (refine step_append_any _ rfl (.tmp 134) (.tmp 150) 103 rfl (w.heap.size + 4) 4 i0 _ 1 1 Tryz.underlying103 hi0 hz0 hz1 hz2 rfl (by decide) (.slice VA j vc) j (boolVs (domAt f xs ys i j)[i]) (by simp [Act.eval, Act.put]) (own_kept_bw HROW.out (HG7.out.alloc _)) (w7.heap.size + 1) (some ⟨w7.heap.size, 0, none⟩) 1 1 [.bool r] (by simp [Act.eval, Act.put]) (reads_newB w7 r) (by simp [Value.oneCell']) (by unfold maxLen; omega) (by omega) (by have := HG7.out.size; simp <;> omega) ?_; intro v9 w9 hown9 hgr9 hl9; obtain ⟨A9, c9, rfl⟩ := own_form hown9; have HD9 : Hid (TabI (((w.alloc (.cells #[.int .i64 5, .int .i64 z, .slice A1 rn c1, .slice (some ad2) 1 c2] 29)).alloc (.cells #[.int .i64 x, .slice (some ad) an ac] 39)).alloc (.cells #[.int .i64 y, .slice (some bd) bn bc] 39)) (w7.alloc (.cells #[.bool r] 4)) (w.heap.size + 4) (w.heap.size + 3) vs2 (domAt f xs ys i j)) := Lib.hid (HS2.out.keep (HG7.out.alloc _)); have hne : some (w.heap.size + 3) ≠ (Value.slice VA j vc).ownBlock := (fun e => by have := (HROW.out.lt _ e.symm).1; omega); have k5 := (HD9.out.tb.grown hgr9 hne).cell i; rw [E3.out] at k5; have k6 := (HD9.out.tb.grown hgr9 hne).frozen i; have HO9 := Lib.hid hown9; have HG9 := Lib.hid hgr9; have HL9 := Lib.hid hl9; (have HBW9 := Lib.hid (HB9.out _ _ (HG7.out.alloc _) hgr9)); clear hgr9 hown9 hl9 hne)
                 refine hK.out _ _ ?_ (fun hHeld2 => ?_)
                 · exact KS3.out _ HBW9.out
                 clear hK K hHeld
                 have hHeld := hHeld2
                 clear hHeld2
                 (try simp only [Act.put, List.setIfInBounds_toArray, List.set_cons_zero, List.set_cons_succ])
                 refine wpAnyH_take (i := 23) (oi := _) (v := ?v22) rfl (by kernel_rfl) (by kernel_rfl) (by kernel_rfl) (fun _ _ _ h => h) (Or.inl ⟨by rfl, ?hy22⟩) (by assumption) ?rest22
                 case hy22 => ((intro W hSw); (try dsimp only at hSw); go_simp; (first | done | with_reducible rfl))
                 (try simp only [Act.put, List.setIfInBounds_toArray, List.set_cons_zero, List.set_cons_succ])
                 refine wpAnyH_ready (rs := [24]) (by kernel_rfl) (by simp) ?_
                 refine AllReadyH.cons (o := _) rfl (fun K hK => ?_) ?_
                 · go_simp
                   refine hK.out _ _ ?_ (fun hHeld2 => ?_)
                   · exact KS3.out _ (HSC.out _ _ HBW9.out)
                   clear hK K hHeld
                   have hHeld := hHeld2
                   clear hHeld2
                   (try simp only [Act.put, List.setIfInBounds_toArray, List.set_cons_zero, List.set_cons_succ])
                   refine wpAnyH_done (by kernel_rfl) ?_ _
                   go_simp
                   go_wp2
                   go_roundw
                   case rel =>
                     refine ⟨j + 1, by omega, by go_num, Lib.hid ⟨vs2.set i (.slice A9 (j + 1) c9), by simp [hvl2], ?_⟩⟩
                     rw [← HSET.out]
                     exact HD9.out.put hiv hit (by rw [HRL.out]; exact HO9.out) (by rw [HEV.out, HRL.out]; exact HG9.out) (by rw [HEV.out, HRL.out]; exact HL9.out)
                   case measure => simp [intOf]; omega
                 exact AllReadyH.nil
               exact AllReadyH.nil
             exact AllReadyH.nil
           exact AllReadyH.nil
         exact AllReadyH.nil
       · obtain rfl : j = bn := by omega
         have HS4 := Lib.hid hS2
         clear hS2
         go_wp2
         go_roundw
         case rel => exact ⟨i + 1, by omega, by go_num, Lib.hid ⟨vs2, hvl2, by rw [← domAt_row, LB.out]; exact HS4.out⟩⟩
         case measure => simp [intOf]; omega
   · obtain rfl : i = an := by omega
     have HTA : Hid (TabAt wo (· < wo.heap.size) (.slice (some ⟨w.heap.size + 3, 0, none⟩) i i) (tabOf f xs ys)) := Lib.hid (by
       have := HS.out.at_ (by omega)
       rw [hvl] at this
       rw [← domAt_done, LA.out]
       exact this)
     have MM : Hid (Calls Tryz.prog 95 #[.slice (some ⟨w.heap.size + 3, 0, none⟩) i i] wo fun e w' => e = .returned (.tuple #[.int .i64 (mostP (tabOf f xs ys) bn), .bool true]) ∧ Bw wo w') := Lib.hid
       (r3Most_any (tabOf f xs ys) i bn (by rw [tabOf, List.length_map, LA.out]) (fun r hr => by obtain ⟨a, _, rfl⟩ := List.mem_map.1 hr; rw [List.length_map, LB.out]) han9 hbn9 _ _ HTA.out)
     have HRS2 : Hid (decide (mostP (tabOf f xs ys) bn = i) = domG f xs ys) := Lib.hid (by rw [← HRES.out, LA.out, LB.out])
     have HFY := Lib.hid (fun W (g : Bw wo W) => HFX.out W (HS.out.bw.trans g))
     generalize mostP (tabOf f xs ys) bn = mp at *
     by_cases hmp : mp = i
     · have z1 : ((mp : Int) == (i : Int)) = true := by simp [hmp]
       have HF : Hid (domG f xs ys = true) := Lib.hid (by rw [← HRS2.out]; simp [hmp])
       clear hmp
       go_wp2_with (go_at_call 95; go_must (refine MM.out.mono ?_; rintro e w6 ⟨rfl, hg6⟩; have HG6 := Lib.hid hg6; (have H7 := Lib.hid (HFY.out _ hg6)); obtain ⟨-, t0, t1, t2, t3, -⟩ := H7.out; clear hg6 H7))
       go_ret
       exact ⟨ret_bool (by rw [HF.out]), HW.out.trans HG6.out⟩
     · have z1 : ((mp : Int) == (i : Int)) = false := by rw [beq_eq_false_iff_ne]; omega
       have HF : Hid (domG f xs ys = false) := Lib.hid (by rw [← HRS2.out]; simp [hmp])
       clear hmp
       go_wp2_with (go_at_call 95; go_must (refine MM.out.mono ?_; rintro e w6 ⟨rfl, hg6⟩; have HG6 := Lib.hid hg6; (have H7 := Lib.hid (HFY.out _ hg6)); obtain ⟨-, t0, t1, t2, t3, -⟩ := H7.out; clear hg6 H7))
       go_ret
       exact ⟨ret_bool (by rw [HF.out]), HW.out.trans HG6.out⟩
theorem BelSaysR.of_eq {t : T} {ok : V → Bool} {f g : V → V → Bool} (h : BelSaysR t ok f) (e : ∀ a b, f a b = g a b) : BelSaysR t ok g := by
 have : f = g := funext fun a => funext fun b => e a b
 rwa [← this]
theorem r6below_any (d : Nat) : ∀ t, rightP d t = true → BelSaysR t (oneP d t) (belowP d t) := by
 induction d with
 | zero => intro t h; simp [rightP] at h
 | succ d ih =>
   intro t hr
   by_cases k1 : t.kind = 1
   · exact (r6bel_k1 t _ k1).of_eq fun a b => by simp only [belowP]; rw [if_pos k1]
   by_cases k2 : t.kind = 2
   · exact (r6bel_k2 t _ k2).of_eq fun a b => by simp only [belowP]; rw [if_neg k1, if_pos k2]
   by_cases k3 : t.kind = 3
   · refine (r6bel_k3 t _ (oneP d) (belowP d) k3 (fun v hv => ?_) (fun p hp => ih p (List.all_eq_true.1 (parts_right hr k3).1 p hp))).of_eq fun a b => by simp only [belowP]; rw [if_neg k1, if_neg k2, if_pos k3]
     simp only [oneP] at hv
     rw [if_neg k1, if_neg k2, if_pos k3] at hv
     simp only [Bool.and_eq_true, beq_iff_eq] at hv
     exact ⟨hv.1.2, oneZ_get hv.2⟩
   by_cases k4 : t.kind = 4
   · refine (r6bel_k4 t t.p0 _ (oneP d t.p0) (belowP d t.p0) k4 (p0_right hr (.inl k4)).2 (fun v hv => ?_) (ih _ (p0_right hr (.inl k4)).1)).of_eq fun a b => by simp only [belowP]; rw [if_neg k1, if_neg k2, if_neg k3, if_pos k4]
     simp only [oneP] at hv
     rw [if_neg k1, if_neg k2, if_neg k3, if_pos k4] at hv
     simp only [Bool.and_eq_true, decide_eq_true_eq] at hv
     exact ⟨hv.1.2, hv.2⟩
   by_cases k5 : t.kind = 5
   · refine (r6bel_k5 t t.p0 _ (oneP d t.p0) (belowP d t.p0) k5 (p0_right hr (.inr k5)).2 (fun v hv => ?_) (ih _ (p0_right hr (.inr k5)).1)).of_eq fun a b => by simp only [belowP]; rw [if_neg k1, if_neg k2, if_neg k3, if_neg k4, if_pos k5]
     simp only [oneP] at hv
     rw [if_neg k1, if_neg k2, if_neg k3, if_neg k4, if_pos k5] at hv
     simp only [Bool.and_eq_true, decide_eq_true_eq] at hv
     exact ⟨hv.1.1.2, hv.1.2⟩
   simp only [rightP, Bool.and_eq_true] at hr
   have hr := hr.2
   by_cases k6 : t.kind = 6
   · refine (r6bel_k6 t _ k6 (fun v hv => ?_)).of_eq fun a b => by simp only [belowP]; rw [if_neg k1, if_neg k2, if_neg k3, if_neg k4, if_neg k5, if_pos k6]
     rw [if_neg k1, if_pos (.inr k6)] at hr
     simp only [oneP] at hv
     rw [if_neg k1, if_neg k2, if_neg k3, if_neg k4, if_neg k5, if_pos k6] at hv
     simp only [Bool.and_eq_true, decide_eq_true_eq] at hv hr
     exact ⟨hv.1, fun x hx => by have := tagged_subs _ _ hv.2 x hx; omega⟩
   by_cases k7 : t.kind = 7
   · refine (r6bel_k7 t _ k7 (fun v hv => ?_)).of_eq fun a b => by simp only [belowP]; rw [if_neg k1, if_neg k2, if_neg k3, if_neg k4, if_neg k5, if_neg k6]
     rw [if_neg k1, if_neg (by omega), if_pos k7] at hr
     simp only [oneP] at hv
     rw [if_neg k1, if_neg k2, if_neg k3, if_neg k4, if_neg k5, if_neg k6] at hv
     simp only [Bool.and_eq_true, decide_eq_true_eq, beq_iff_eq] at hv hr
     simp only [wordP, Bool.and_eq_true, decide_eq_true_eq, List.length_map]
     refine ⟨⟨hr.2, hv.1.2⟩, ?_⟩
     rw [Bool.not_eq_true', List.any_eq_false]
     intro x hx
     obtain ⟨u, hu, rfl⟩ := List.mem_map.1 hx
     have := List.all_eq_true.1 hv.2 u hu
     simp only [labelP, Bool.and_eq_true, decide_eq_true_eq] at this
     simp [badX]
     omega
   · rw [if_neg k1, if_neg (by omega), if_neg k7, if_neg k3, if_neg (by omega)] at hr
     simp at hr
end Go.Proofs.YtbmheekaclmibaaGreat
