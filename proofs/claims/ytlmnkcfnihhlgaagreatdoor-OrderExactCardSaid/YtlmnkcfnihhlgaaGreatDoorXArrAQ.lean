/- Part of a proof of orderExact_card. -/
import Derived.Test.YtlmnkcfnihhlgaaGreatDoorXSrtAQ
import Derived.Test.YtlmnkcfnihhlgaaGreatDoorXRefGQ
import Derived.Deep.CutRange
set_option maxRecDepth 100000
set_option maxHeartbeats 16000000
namespace Go.Proofs.YtlmnkcfnihhlgaaGreatDoor
open Go.RowKit
set_option linter.unusedSimpArgs false
set_option linter.unusedVariables false
structure ArrI (W w : World) (tc : Array Value) (x : Int) (sv : Value) (l : List V) (ss : List Value) : Prop where
 b0 : Blk W w.heap.size 25 tc
 b2 : Blk W (w.heap.size + 1 + 1) 28 #[.int .i64 0, .slice none 0 0]
 b3 : Blk W (w.heap.size + 1 + 1 + 1) 28 #[.int .i64 x, sv]
 row : VRow W 28 (w.heap.size + 1 + 1 + 1 + 1) (w.heap.size + 1 + 1 + 1 + 1) sv l ss
 bw : Bw w W
theorem ArrI.keep {W W' w : World} {tc : Array Value} {x : Int} {sv : Value} {l : List V} {ss : List Value} (h : ArrI W w tc x sv l ss) (g : Bw W W') : ArrI W' w tc x sv l ss :=
 ⟨h.b0.below g.b h.b0.lt, h.b2.below g.b h.b2.lt, h.b3.below g.b h.b3.lt, h.row.bw g, h.bw.trans g⟩
theorem ArrI.start (w : World) (tc vc : Array Value) (x : Int) : ArrI ((((w.alloc (.cells tc 25)).alloc (.cells vc 28)).alloc (.cells #[.int .i64 0, .slice none 0 0] 28)).alloc (.cells #[.int .i64 x, .slice none 0 0] 28)) w tc x (.slice none 0 0) [] [] := by
 refine ⟨(((Blk.new _ _ _).alloc _).alloc _).alloc _, ?_, ?_, VRow.nil _ _ _ _, ((((Bw.refl _).alloc _).alloc _).alloc _).alloc _⟩
 · have := (Blk.new ((w.alloc (.cells tc 25)).alloc (.cells vc 28)) 28 #[.int .i64 0, .slice none 0 0]).alloc (.cells #[.int .i64 x, .slice none 0 0] 28)
   simpa only [World.size_alloc] using this
 · have := Blk.new (((w.alloc (.cells tc 25)).alloc (.cells vc 28)).alloc (.cells #[.int .i64 0, .slice none 0 0] 28)) 28 #[.int .i64 x, .slice none 0 0]
   simpa only [World.size_alloc] using this
theorem ArrI.push {W w w7 : World} {tc : Array Value} {x : Int} {sv v7 : Value} {l : List V} {ss : List Value} (h : ArrI W w tc x sv l ss) {y : V} {s : Value}
   (hs : KAt W (fun b => w.heap.size + 1 + 1 + 1 + 1 ≤ b ∧ b < W.heap.size ∧ sv.ownBlock ≠ some b) s y.ks) (hown : w7.ownsRow (w.heap.size + 1 + 1 + 1 + 1) 28 2 v7 (l.length + 1) (vCells l ss ++ [.int .i64 y.n, s])) (hg : W.grownBy w7 sv.ownBlock) (hv : v7.ownBlock = sv.ownBlock ∨ v7.ownBlock = some W.heap.size) :
   ArrI (w7.setCell ⟨w.heap.size + 1 + 1 + 1, 1, none⟩ v7) w tc x v7 (l ++ [y]) (ss ++ [s]) := by
 have hr : ∀ r, sv.ownBlock = some r → w.heap.size + 1 + 1 + 1 + 1 ≤ r := fun r e => (h.row.own.lt r e).1
 have ne : ∀ r, r < w.heap.size + 1 + 1 + 1 + 1 → some r ≠ sv.ownBlock := fun r hr' e => by have := hr r e.symm; omega
 have hrow := h.row.push hs hown hg hv
 have e1 := grownBy_setCell (p := ⟨w.heap.size + 1 + 1 + 1, 1, none⟩) (World.grownBy.refl w7 (some (w.heap.size + 1 + 1 + 1))) (.inl rfl) v7
 refine ⟨(h.b0.grown hg (ne _ (by omega))).far (by dsimp only; omega) _, (h.b2.grown hg (ne _ (by omega))).far (by dsimp only; omega) _, (h.b3.grown hg (ne _ (by omega))).set_ 1 v7, hrow.keep e1 (fun r e => by
   injection e with e; subst e
   exact ⟨fun e => by have := (hown.lt _ e).1; omega, by omega⟩), ?_⟩
 have h1 : Below w.heap.size w w7 := below_own (h.bw.b) (own_base h.row.own (by omega)) hg h.bw.size
 exact Below.setCell h1 (by dsimp only; omega) v7
theorem ArrI.sorted {W W' w : World} {tc : Array Value} {x : Int} {sv : Value} {l l' : List V} {ss ss' : List Value} (h : ArrI W w tc x sv l ss) (hg : W.grownBy W' sv.ownBlock) (hr : VRow W' 28 (w.heap.size + 1 + 1 + 1 + 1) (w.heap.size + 1 + 1 + 1 + 1) sv l' ss') : ArrI W' w tc x sv l' ss' := by
 have ne : ∀ r, r < w.heap.size + 1 + 1 + 1 + 1 → some r ≠ sv.ownBlock := fun r hr' e => by have := (h.row.own.lt r e.symm).1; omega
 exact ⟨h.b0.grown hg (ne _ (by omega)), h.b2.grown hg (ne _ (by omega)), h.b3.grown hg (ne _ (by omega)), hr, below_own (h.bw.b) (own_base h.row.own (by omega)) hg h.bw.size⟩
theorem ArrI.out {W w : World} {tc : Array Value} {x : Int} {sv : Value} {l : List V} {ss : List Value} (h : ArrI W w tc x sv l ss) :
   KAt ((W.setCell ⟨w.heap.size + 1 + 1, 0, none⟩ (.int .i64 x)).setCell ⟨w.heap.size + 1 + 1, 1, none⟩ sv) (fun b => w.heap.size ≤ b ∧ b < ((W.setCell ⟨w.heap.size + 1 + 1, 0, none⟩ (.int .i64 x)).setCell ⟨w.heap.size + 1 + 1, 1, none⟩ sv).heap.size) sv l ∧
   Bw w ((W.setCell ⟨w.heap.size + 1 + 1, 0, none⟩ (.int .i64 x)).setCell ⟨w.heap.size + 1 + 1, 1, none⟩ sv) ∧
   ((W.setCell ⟨w.heap.size + 1 + 1, 0, none⟩ (.int .i64 x)).setCell ⟨w.heap.size + 1 + 1, 1, none⟩ sv).heap[w.heap.size + 1 + 1]? = some (.cells #[.int .i64 x, sv] 28 (0, 0)) :=
 ⟨(h.row.kat (Nat.le_refl _)).keep (fun b hb => ⟨by have := hb.1; omega, by have := hb.2; simp [World.setCell]; exact this⟩) (fun p hp => by
   have hp1 := hp.1
   rw [World.cell?_setCell_other _ _ _ _ (by intro e; subst e; simp at hp1; omega), World.cell?_setCell_other _ _ _ _ (by intro e; subst e; simp at hp1; omega)]),
  (h.bw.setCell (p := ⟨w.heap.size + 1 + 1, 0, none⟩) (by dsimp only; omega) _).setCell (p := ⟨w.heap.size + 1 + 1, 1, none⟩) (by dsimp only; omega) _, blk_set (i := 1) sv (blk_set (i := 0) (.int .i64 x) h.b2)⟩
def ArrSays (t : T) (f : V → V) : Prop := ∀ (v : V) (rv pv s : Value) (W : World), v.size ≤ 1000000 → TB W W.heap.size rv pv t → KB W W.heap.size s v.ks → Calls Tryz.prog 55 #[aggT t rv pv, aggV v s] W (ValPost W (f v))
def Turned (wr : World) (y : V) (wx : World) : Prop := ∃ A n c, Bw wr wx ∧ Blk wx wr.heap.size 28 #[.int .i64 y.n, .slice A n c] ∧ KAt wx (fun b => wr.heap.size + 1 ≤ b ∧ b < wx.heap.size) (.slice A n c) y.ks
theorem turned_of {wr w5 w7 : World} {y : V} {A : Option Addr} {n c : Nat} {u0 u1 : Value} (h5 : Bw wr w5 ∧ Blk w5 wr.heap.size 28 #[u0, u1]) (g : Bw w5 w7) (hk : KAt w7 (fun b => w5.heap.size ≤ b ∧ b < w7.heap.size) (.slice A n c) y.ks) :
   Turned wr y ((w7.setCell ⟨wr.heap.size, 0, none⟩ (.int .i64 y.n)).setCell ⟨wr.heap.size, 1, none⟩ (.slice A n c)) := by
 have hl := h5.2.lt
 have hb := h5.2.below g.b hl
 refine ⟨A, n, c, ((h5.1.trans g).setCell (p := ⟨wr.heap.size, 0, none⟩) (Nat.le_refl _) _).setCell (p := ⟨wr.heap.size, 1, none⟩) (Nat.le_refl _) _, blk_set (i := 1) _ (blk_set (i := 0) _ hb), ?_⟩
 refine hk.keep (fun b hb => ⟨by have := hb.1; omega, by have := hb.2; simp [World.setCell]; exact this⟩) (fun p hp => ?_)
 have hp1 := hp.1
 rw [World.cell?_setCell_other _ _ _ _ (by intro e; subst e; simp at hp1; omega), World.cell?_setCell_other _ _ _ _ (by intro e; subst e; simp at hp1; omega)]
theorem oarr_step (t : T) (f : T → V → V) (hp0 : t.kind = 4 ∨ t.kind = 5 → ∃ p, t.parts = [p]) (ih : ∀ p ∈ t.parts, ArrSays p (f p)) :
   ArrSays t (fun v => .mk v.n (if t.kind = 5 then sortV (srtK f t v.ks) else srtK f t v.ks)) := by
 intro v rv pv s w h9 hT h
 obtain ⟨A, n, c, rfl, ln, bn, mn⟩ := h.form
 obtain ⟨A1, rn, c1, rfl, _, _⟩ := hT.1.form'
 obtain ⟨A2, pn, c2, rfl, ln2, bn2, mn2⟩ := hT.2.form
 unfold maxLen at mn mn2
 have h10 : v.ks.length ≤ 1000000 := by have := sizeL_length v.ks; have := v.size_eq; omega
 have HSL := Lib.hid (srtK_length f t v.ks)
 have HSG := Lib.hid (fun k h => srtK_get f t v.ks k h)
 rw [ln] at h10
 have HIH := Lib.hid ih
 have HP := Lib.hid hT.2
 have HK := Lib.hid h
 have LN := Lib.hid ln
 have LN2 := Lib.hid ln2
 have HP0 := Lib.hid hp0
 have HKS : Hid (∀ k (h : k < v.ks.length), v.ks[k].size ≤ 1000000) := Lib.hid (fun k h => by have := V.size_kid (List.getElem_mem h); omega)
 show Calls _ _ _ _ (ValPost w (.mk v.n (if t.kind = 5 then sortV (srtK f t v.ks) else srtK f t v.ks)))
 unfold aggT aggV
 have HTK : Hid (∀ k (h : k < v.ks.length), srtAt f t k v.ks[k] = if t.kind = 3 then (t.parts[k]?).elim v.ks[k] (fun p => f p v.ks[k]) else if t.kind = 4 ∨ t.kind = 5 then f t.p0 v.ks[k] else v.ks[k]) := Lib.hid (fun k h => rfl)
 have HST := Lib.hid (fun x => ArrI.start w #[.int .i64 t.kind, .int .i64 t.size, .slice A1 rn c1, .slice A2 pn c2] #[.int .i64 v.n, .slice A n c] x)
 clear h hT ln ln2 hp0 ih h9
 obtain ⟨i0, hi, hz0, hz1, hz2⟩ := info_parts infoVal
 generalize v.n = x at *
 generalize hkd : t.kind = kd at *
 generalize t.size = z at *
 have HKD := Lib.hid hkd
 clear hkd
 generalize srtK f t v.ks = L at *
 generalize hq : (if kd = 5 then sortV L else L) = L5 at *
 have HQ := Lib.hid hq
 clear hq
 have HST0 := Lib.hid (HST.out x)
 clear HST
 go_enter Tryz.func55, Tryz.ntmps55
 go_wp2
 go_loopw [14] (fun i wr => ∃ k : Nat, k ≤ n ∧ i = .int .i64 k ∧ Hid (∃ sv ss, ArrI wr w #[.int .i64 kd, .int .i64 z, .slice A1 rn c1, .slice A2 pn c2] x sv (L.take k) ss)) (fun i _ => n - (intOf i).toNat)
 case atStart => exact ⟨0, by omega, rfl, Lib.hid ⟨_, [], HST0.out⟩⟩
 case round =>
   obtain ⟨k, hk, rfl, HR⟩ := hrel
   obtain ⟨sv, ss, hI⟩ := HR.out
   obtain ⟨VA, vc, rfl, vb1, vb2⟩ := hI.row.form
   have hlk : (L.take k).length = k := by rw [List.length_take, HSL.out, LN.out]; omega
   rw [hlk] at hI vb1
   have HI0 := Lib.hid hI
   have t0 := hI.b0.cell 0
   have t3 := hI.b0.cell 3
   have tz := hI.b0.lt
   by_cases hlt : k < n
   · have e1 : k < v.ks.length := by rw [LN.out]; exact hlt
     obtain ⟨ad, sA, sn, sc, rfl, hb, q0, q1, sl, hs⟩ := (HK.out.bw hI.bw).at_ e1
     have HY : Hid (L.take (k + 1) = L.take k ++ [srtAt f t k v.ks[k]]) := Lib.hid (by
       have h1 := HSG.out k e1
       have h2 : k < L.length := by rw [HSL.out]; exact e1
       rw [List.take_succ_eq_append_getElem h2]
       rw [List.getElem?_eq_getElem h2] at h1
       rw [Option.some.inj h1])
     have HYK := Lib.hid (HTK.out k e1)
     have HOC : Hid (∀ W, Bw wr W → Calls Tryz.prog 91 #[.agg #[.int .i64 v.ks[k].n, .slice sA sn sc]] W (ValPost W v.ks[k])) := Lib.hid (fun W g => ocopy_any v.ks[k] (HKS.out k e1) _ W (hs.bw g))
     have HCA : Hid (∀ p ∈ t.parts, ∀ (r' p' : Value) W, Bw wr W → TB W W.heap.size r' p' p → Calls Tryz.prog 55 #[aggT p r' p', .agg #[.int .i64 v.ks[k].n, .slice sA sn sc]] W (ValPost W (f p v.ks[k]))) := Lib.hid (fun p hp r' p' W g hT => HIH.out p hp v.ks[k] r' p' _ W (HKS.out k e1) hT (hs.bw g))
     have HPW := Lib.hid (fun W (g : Bw wr W) => HP.out.bw (hI.bw.trans g))
     have HSZ : Hid (∀ W, Bw wr W → w.heap.size < W.heap.size ∧ W.cell? ⟨w.heap.size, 0, none⟩ = some (.int .i64 kd) ∧ W.cell? ⟨w.heap.size, 3, none⟩ = some (.slice A2 pn c2)) := Lib.hid (fun W g => by
       have h := HI0.out.keep g
       exact ⟨h.b0.lt, h.b0.cell 0, h.b0.cell 3⟩)
     have dz0 : (0 : Int) ≤ (k : Int) := by omega
     have dz1 : (k : Int) < (n : Int) := by omega
     clear hs sl hI HR hlk
     generalize hyk : v.ks[k] = yk at *
     clear hyk
     generalize hy : srtAt f t k yk = y at *
     clear hy
     generalize yk.n = xk at *
     go_upto_block 2 with fail
     refine wp_world (fun W => Hid (Bw wr W ∧ Blk W wr.heap.size 28 #[.int .i64 xk, .slice sA sn sc])) (Lib.hid ⟨(Bw.refl _).alloc _, Blk.new _ _ _⟩) ?_
     intro W5 HW5
     obtain ⟨t9, t0, t3⟩ := HSZ.out W5 HW5.out.1
     have p0 := HW5.out.2.cell 0
     have p1 := HW5.out.2.cell 1
     have p2 := HW5.out.2.frozen 0
     have p3 := HW5.out.2.frozen 1
     have p4 := HW5.out.2.lt
     go_cut [] from 19 to 53 (fun wx => Hid (Turned wr y wx))
     case first =>
       have hgr := HW5.out.1.size
       by_cases k3 : kd = 3
       · have dk3 : (kd == 3) = true := by simp [k3]
         have dk4 : (kd == 4) = false := by simp [k3]
         have dk5 : (kd == 5) = false := by simp [k3]
         by_cases hp : k < pn
         · have e2 : k < t.parts.length := by rw [LN2.out]; exact hp
           have d1 : decide ((k : Int) < (pn : Int)) = true := decide_eq_true (by omega)
           have HYV : Hid (y = f t.parts[k] yk) := Lib.hid (by rw [HYK.out, if_pos k3, List.getElem?_eq_getElem e2]; rfl)
           obtain ⟨ad2, A3, n3, c3, A4, n4, c4, rfl, hb2, u0, u1, u2, u3, hT2⟩ := (HPW.out W5 HW5.out.1).at_ e2
           have CM2 : Hid (Calls Tryz.prog 55 #[.agg #[.int .i64 t.parts[k].kind, .int .i64 t.parts[k].size, .slice A3 n3 c3, .slice A4 n4 c4], .agg #[.int .i64 xk, .slice sA sn sc]] W5.drew (ValPost W5.drew y)) := Lib.hid (by rw [HYV.out]; exact HCA.out _ (List.getElem_mem e2) _ _ W5.drew HW5.out.1.drew (TAt.bw hT2 (Bw.refl _).drew))
           have dz2 : (k : Int) < (pn : Int) := by omega
           unfold ValPost at CM2
           clear hT2 HYV HYK HOC HCA k3
           generalize t.parts[k].kind = pk at *
           generalize t.parts[k].size = pz at *
           generalize hyn : y.n = yn at *
           go_wp2_with fail
           go_region_law (go_simp; go_at_call 55; go_must (refine CM2.out.mono ?_; rintro e7 w7 ⟨s7, rfl, hk7, hg7⟩; obtain ⟨A7, n7, c7, rfl, ln7, _, _⟩ := hk7.form; have hg7' : Bw W5 w7 := (Bw.refl _).drew.trans hg7; have hb7 := HW5.out.2.below hg7'.b HW5.out.2.lt; have j0 := hb7.cell 0; have j1 := hb7.cell 1; have j2 := hb7.frozen 0; have j3 := hb7.frozen 1; have j4 := hb7.lt; have HRES := Lib.hid (turned_of HW5.out hg7' hk7); clear hk7 hg7 ln7 hg7' hb7))
           all_goals
             go_wp2_with fail
             go_meet
             rw [← hyn]
             exact HRES
         · have d1 : decide ((k : Int) < (pn : Int)) = false := decide_eq_false (by omega)
           have HYV : Hid (y = yk) := Lib.hid (by rw [HYK.out, if_pos k3, List.getElem?_eq_none (by rw [LN2.out]; omega)]; rfl)
           clear k3
           have HO2 : Hid (Calls Tryz.prog 91 #[.agg #[.int .i64 xk, .slice sA sn sc]] W5 (ValPost W5 y)) := Lib.hid (by rw [HYV.out]; exact HOC.out W5 HW5.out.1)
           unfold ValPost at HO2
           clear HYV HYK HOC HCA
           generalize hyn : y.n = yn at *
           go_wp2_with (go_at_call 91; go_must (refine HO2.out.mono ?_; rintro e7 w7 ⟨s7, rfl, hk7, hg7⟩; obtain ⟨A7, n7, c7, rfl, ln7, _, _⟩ := hk7.form; have hg7' : Bw W5 w7 := hg7; have hb7 := HW5.out.2.below hg7'.b HW5.out.2.lt; have j0 := hb7.cell 0; have j1 := hb7.cell 1; have j2 := hb7.frozen 0; have j3 := hb7.frozen 1; have j4 := hb7.lt; have HRES := Lib.hid (turned_of HW5.out hg7' hk7); clear hk7 hg7 ln7 hg7' hb7))
           go_meet
           rw [← hyn]
           exact HRES
       · have dk3 : (kd == 3) = false := by simp [k3]
         by_cases k45 : kd = 4 ∨ kd = 5
         · obtain ⟨p, hpp⟩ := HP0.out k45
           have hpw := HPW.out W5 HW5.out.1
           rw [hpp] at hpw
           obtain ⟨rfl, ad2, A3, n3, c3, A4, n4, c4, rfl, hb2, u0, u1, u2, u3, hT2⟩ := parts_one hpw
           have HYV : Hid (y = f p yk) := Lib.hid (by rw [HYK.out, if_neg k3, if_pos k45]; unfold T.p0; rw [hpp]; rfl)
           have CM2 : Hid (Calls Tryz.prog 55 #[.agg #[.int .i64 p.kind, .int .i64 p.size, .slice A3 n3 c3, .slice A4 n4 c4], .agg #[.int .i64 xk, .slice sA sn sc]] W5.drew (ValPost W5.drew y)) := Lib.hid (by rw [HYV.out]; exact HCA.out p (by rw [hpp]; simp) _ _ W5.drew HW5.out.1.drew (TAt.bw hT2 (Bw.refl _).drew))
           unfold ValPost at CM2
           clear hT2 hpw HYV HYK HOC HCA hpp k3
           generalize p.kind = pk at *
           generalize p.size = pz at *
           generalize hyn : y.n = yn at *
           have dk : (kd == 4) = true ∨ ((kd == 4) = false ∧ (kd == 5) = true) := by
             rcases k45 with rfl | rfl
             · exact .inl rfl
             · exact .inr ⟨rfl, rfl⟩
           clear k45
           rcases dk with dk4 | ⟨dk4, dk5⟩
           all_goals
             go_wp2_with fail
             go_region_law (go_simp; go_at_call 55; go_must (refine CM2.out.mono ?_; rintro e7 w7 ⟨s7, rfl, hk7, hg7⟩; obtain ⟨A7, n7, c7, rfl, ln7, _, _⟩ := hk7.form; have hg7' : Bw W5 w7 := (Bw.refl _).drew.trans hg7; have hb7 := HW5.out.2.below hg7'.b HW5.out.2.lt; have j0 := hb7.cell 0; have j1 := hb7.cell 1; have j2 := hb7.frozen 0; have j3 := hb7.frozen 1; have j4 := hb7.lt; have HRES := Lib.hid (turned_of HW5.out hg7' hk7); clear hk7 hg7 ln7 hg7' hb7))
             all_goals
               go_wp2_with fail
               go_meet
               rw [← hyn]
               exact HRES
         · have dk4 : (kd == 4) = false := by simp; omega
           have dk5 : (kd == 5) = false := by simp; omega
           have HYV : Hid (y = yk) := Lib.hid (by rw [HYK.out, if_neg k3, if_neg k45])
           clear k3 k45
           have HO2 : Hid (Calls Tryz.prog 91 #[.agg #[.int .i64 xk, .slice sA sn sc]] W5 (ValPost W5 y)) := Lib.hid (by rw [HYV.out]; exact HOC.out W5 HW5.out.1)
           unfold ValPost at HO2
           clear HYV HYK HOC HCA
           generalize hyn : y.n = yn at *
           go_wp2_with (go_at_call 91; go_must (refine HO2.out.mono ?_; rintro e7 w7 ⟨s7, rfl, hk7, hg7⟩; obtain ⟨A7, n7, c7, rfl, ln7, _, _⟩ := hk7.form; have hg7' : Bw W5 w7 := hg7; have hb7 := HW5.out.2.below hg7'.b HW5.out.2.lt; have j0 := hb7.cell 0; have j1 := hb7.cell 1; have j2 := hb7.frozen 0; have j3 := hb7.frozen 1; have j4 := hb7.lt; have HRES := Lib.hid (turned_of HW5.out hg7' hk7); clear hk7 hg7 ln7 hg7' hb7))
           go_meet
           rw [← hyn]
           exact HRES
     case rest =>
     obtain ⟨A7, n7, c7, hg7, hb7, hk7⟩ := hcut.out
     obtain ⟨W7, rfl⟩ : ∃ W7, W7 = wc := ⟨_, rfl⟩
     have HI7 := Lib.hid (HI0.out.keep hg7)
     have HK7 := Lib.hid hk7
     have HG7 := Lib.hid hg7
     have o0 := hb7.cell 0
     have o1 := hb7.cell 1
     have r0 := HI7.out.b3.cell 1
     have r1 := HI7.out.b3.lt
     have r2 := HI7.out.b0.lt
     have hgs := hg7.size
     clear hg7 hb7 hk7 hcut t9 t0 t3 p0 p1 p2 p3 p4 HW5 HOC HCA
     have HLK : Hid ((L.take k).length = k) := Lib.hid (by rw [List.length_take, HSL.out, LN.out]; omega)
     generalize hyn : y.n = yn at *
     have HYN := Lib.hid hyn
     clear hyn
     go_wp2_with (at_builtin; go_must (refine wpList_append_any _ rfl _ _ 26 rfl (w.heap.size + 1 + 1 + 1 + 1) 28 i0 _ 2 32 Tryz.underlying26 hi hz0 hz1 hz2 rfl (by decide) (.slice VA k vc) k (vCells (L.take k) ss) rfl (by have := HI7.out.row.own.alloc (.cells #[.int .i64 yn, .slice A7 n7 c7] 28); rwa [HLK.out] at this) (W7.heap.size + 1) (some ⟨W7.heap.size, 0, none⟩) 1 1 [.int .i64 yn, .slice A7 n7 c7] rfl (reads_new2 W7 _ _ _) (one2 _ _ _ _) (by unfold maxLen; omega) (by omega) (by simp; omega) ?_; intro v8 w8 hown8 hgr8 hl8; obtain ⟨A8, c8, rfl⟩ := own_form hown8; have hne8 : some (w.heap.size + 1 + 1 + 1) ≠ (Value.slice VA k vc).ownBlock := (fun e => by have := (HI7.out.row.own.lt _ e.symm).1; omega); have k8 := (HI7.out.b3.alloc (.cells #[.int .i64 yn, .slice A7 n7 c7] 28)).grown hgr8 hne8; have y8 := k8.cell 1; have z8 := k8.frozen 1; have l8 := k8.lt; (have HO8 := Lib.hid hown8); (have HG8 := Lib.hid hgr8); (have HL8 := Lib.hid hl8); clear hown8 hgr8 hl8 k8 hne8))
     go_roundw
     case rel =>
       refine ⟨k + 1, by omega, by go_num, Lib.hid ⟨.slice A8 (k + 1) c8, ss ++ [.slice A7 n7 c7], ?_⟩⟩
       rw [HY.out]
       refine (HI7.out.keep ((Bw.refl W7).alloc (.cells #[.int .i64 yn, .slice A7 n7 c7] 28))).push (y := y) (s := .slice A7 n7 c7) ?_ ?_ HG8.out HL8.out
       · refine KAt.keep (S := fun b => wr.heap.size + 1 ≤ b ∧ b < W7.heap.size) HK7.out (fun b hb => ⟨by have := HI0.out.b3.lt; omega, by simp; omega, fun e => ?_⟩) (fun p hp => World.cell?_alloc_lt W7 _ p hp.2)
         have := (HI0.out.row.own.lt b e).2; omega
       · rw [HLK.out, HYN.out]; exact HO8.out
     case measure => simp [intOf]; omega
   · obtain rfl : k = n := by omega
     have hfl : L.take k = L := List.take_of_length_le (by rw [HSL.out, LN.out]; omega)
     rw [hfl] at hI HI0
     have hll : L.length = k := by rw [HSL.out, LN.out]
     have HLL := Lib.hid hll
     have r0 := hI.b3.cell 0
     have r1 := hI.b3.cell 1
     have r4 := hI.b2.cell 0
     have r5 := hI.b2.cell 1
     have r6 := hI.b2.frozen 0
     have r7 := hI.b2.frozen 1
     by_cases k5 : kd = 5
     · have dk5 : (kd == 5) = true := by simp [k5]
       have HQ5 : Hid (L5 = sortV L) := Lib.hid (by rw [← HQ.out, if_pos k5])
       have SR := Lib.hid (sortRow_any hI.row (by omega))
       clear hI HR hlk hfl hll k5
       go_wp2_with (go_at_call 92; go_must (refine SR.out.mono ?_; rintro e8 w8 ⟨rfl, ⟨ss8, hr8⟩, hg8⟩; (have HI8 := Lib.hid (HI0.out.sorted hg8 hr8)); have s0 := HI8.out.b3.cell 0; have s1 := HI8.out.b3.cell 1; have s4 := HI8.out.b2.cell 0; have s5 := HI8.out.b2.cell 1; have s6 := HI8.out.b2.frozen 0; have s7 := HI8.out.b2.frozen 1; have s8 := HI8.out.b3.lt; clear hr8 hg8))
       obtain ⟨k1, k2, k3⟩ := HI8.out.out
       refine bodyPost_ret (results_cell_row (p := 4) (ty := 28) rfl _ _ (w.heap.size + 1 + 1) 28 _ (0, 0) _ rfl k3 Tryz.underlying28 rfl (by kernel_rfl)) rfl ?_
       rw [HQ5.out]
       exact ⟨_, rfl, k1, k2⟩
     · have dk5 : (kd == 5) = false := by simp [k5]
       have HQ5 : Hid (L5 = L) := Lib.hid (by rw [← HQ.out, if_neg k5])
       have s8 := hI.b3.lt
       clear hI HR hlk hfl hll k5
       go_wp2
       obtain ⟨k1, k2, k3⟩ := HI0.out.out
       refine bodyPost_ret (results_cell_row (p := 4) (ty := 28) rfl _ _ (w.heap.size + 1 + 1) 28 _ (0, 0) _ rfl k3 Tryz.underlying28 rfl (by kernel_rfl)) rfl ?_
       rw [HQ5.out]
       exact ⟨_, rfl, k1, k2⟩
theorem parts_all {d : Nat} {t : T} (hr : rightP (d + 1) t = true) : ∀ p ∈ t.parts, rightP d p = true := by
 intro p hp
 by_cases k3 : t.kind = 3
 · exact List.all_eq_true.1 (parts_right hr k3).1 p hp
 by_cases k45 : t.kind = 4 ∨ t.kind = 5
 · obtain ⟨h1, h2⟩ := p0_right hr k45
   rw [h2] at hp
   obtain rfl : p = t.p0 := by simpa using hp
   exact h1
 · exfalso
   simp only [rightP, Bool.and_eq_true] at hr
   have hr := hr.2
   by_cases k1 : t.kind = 1
   · rw [if_pos k1] at hr
     simp only [Bool.and_eq_true, List.isEmpty_iff] at hr
     rw [hr.1] at hp; simp at hp
   rw [if_neg k1] at hr
   by_cases k2 : t.kind = 2 ∨ t.kind = 6
   · rw [if_pos k2] at hr
     simp only [Bool.and_eq_true, List.isEmpty_iff] at hr
     rw [hr.1.1] at hp; simp at hp
   rw [if_neg k2] at hr
   by_cases k7 : t.kind = 7
   · rw [if_pos k7] at hr
     simp only [Bool.and_eq_true, List.isEmpty_iff] at hr
     rw [hr.1.1] at hp; simp at hp
   rw [if_neg k7, if_neg k3, if_neg k45] at hr
   simp at hr
theorem oarranged_any (d : Nat) : ∀ t, rightP d t = true → ArrSays t (srtP d t) := by
 induction d with
 | zero => intro t h; simp [rightP] at h
 | succ d ih =>
   intro t hr
   exact oarr_step t (srtP d) (fun h => ⟨_, (p0_right hr h).2⟩) (fun p hp => ih p (parts_all hr p hp))
theorem oSorted_any (t : T) (v : V) (rv pv s : Value) (w : World) (hT : TB w w.heap.size rv pv t) (h : KB w w.heap.size s v.ks) (sp : V × Int) (hsp : sortedP t v = sp) :
   Calls Tryz.prog 30 #[.agg #[.int .i64 t.kind, .int .i64 t.size, rv, pv], .agg #[.int .i64 v.n, s]] w (SortedPost w sp.1 sp.2) := by
 subst hsp
 obtain ⟨A, n, c, rfl, ln, bn, mn⟩ := h.form
 obtain ⟨A1, rn, c1, rfl, _, _⟩ := hT.1.form'
 obtain ⟨A2, pn, c2, rfl, _, _, _⟩ := hT.2.form
 have CK : Hid (∀ W, Bw w W → Calls Tryz.prog 18 #[.agg #[.int .i64 t.kind, .int .i64 t.size, .slice A1 rn c1, .slice A2 pn c2]] W (NumPost W (if rightP 8 t then 0 else 6))) := Lib.hid (fun W g => ocheck_any t _ _ W (TAt.bw hT g) _ rfl)
 have SZ : Hid (∀ W, Bw w W → Calls Tryz.prog 26 #[.agg #[.int .i64 v.n, .slice A n c]] W (NumPost W (min (v.size : Int) 129))) := Lib.hid (fun W g => osize_any v _ W (h.bw g))
 have SO : Hid (rightP 8 t = true → v.size ≤ 128 → ∀ W, Bw w W → Calls Tryz.prog 55 #[.agg #[.int .i64 t.kind, .int .i64 t.size, .slice A1 rn c1, .slice A2 pn c2], .agg #[.int .i64 v.n, .slice A n c]] W (ValPost W (srtP 8 t v))) := Lib.hid (fun hr h8 W g => oarranged_any 8 t hr v _ _ _ W (by omega) (TAt.bw hT g) (h.bw g))
 have VA : Hid (rightP 8 t = true → v.size ≤ 128 → ∀ s' W, Bw w W → KB W W.heap.size s' (srtP 8 t v).ks → Calls Tryz.prog 43 #[.agg #[.int .i64 t.kind, .int .i64 t.size, .slice A1 rn c1, .slice A2 pn c2], .agg #[.int .i64 (srtP 8 t v).n, s']] W (BoolPost W (validP t (srtP 8 t v)))) := Lib.hid (fun hr h8 s' W g hk => by
   have e : validP t (srtP 8 t v) = oneP 8 t (srtP 8 t v) := by unfold validP; rw [hr, srtP_size, decide_eq_true h8]; simp
   rw [e]
   exact oone_any 8 t hr _ _ _ _ W (TAt.bw hT g) hk)
 have TX := Lib.hid (tvz (w := w) (kd := t.kind) (z := t.size) (x := v.n) (r := .slice A1 rn c1) (p := .slice A2 pn c2) (s := .slice A n c))
 have HZ : Hid (∀ W, w.heap.size + 3 ≤ W.heap.size → KAt W (fun b => w.heap.size + 3 ≤ b ∧ b < W.heap.size) (.slice none 0 0) []) := Lib.hid (fun W _ => KAt.nil 0 none (by unfold maxLen; omega))
 clear h hT ln
 have hsz : (v.size ≤ 128) ↔ ((min (v.size : Int) 129) ≤ 128) := by omega
 have hm1 : (min (v.size : Int) 129) ≤ 129 := by omega
 rcases hr : rightP 8 t with _ | _
 · have e1 : sortedP t v = (zeroV, 6) := by unfold sortedP; rw [hr]; rfl
   rw [e1]
   rw [hr] at CK
   simp only [Bool.false_eq_true, if_false] at CK
   clear hr SO SZ VA e1 hsz hm1
   show Calls _ _ _ _ (SortedPost w zeroV 6)
   generalize v.n = x at *
   generalize t.kind = kd at *
   generalize t.size = z at *
   generalize hres : SortedPost w zeroV 6 = R
   go_enter Tryz.func30, Tryz.ntmps30
   go_wp2_with (go_at_call 18; go_must (refine (CK.out _ TX.out.1).mono ?_; rintro e w6 ⟨rfl, hg6⟩; (have HG6 := Lib.hid hg6); (obtain ⟨y9, -, y1, y2, y3, y4, y5, y6, yb⟩ := TX.out.2 _ hg6); have e2 := yb.cell 0; have e3 := yb.cell 1; have f2 := yb.frozen 0; have f3 := yb.frozen 1; (have HBB := Lib.hid (blk_set (i := 1) (.slice none 0 0) (blk_set (i := 0) (.int .i64 0) yb))); clear hg6 yb))
   refine bodyPost_ret (results_row_tmp (p := 4) (q := 5) (ty := 28) rfl _ _ (w.heap.size + 1 + 1) _ _ rfl (run_loadVar_row _ _ 28 28 _ (0, 0) _ HBB.out Tryz.underlying28 rfl (by kernel_rfl)) rfl) rfl ?_
   subst hres
   have := out2 (x := 0) (TX.out.1.trans HG6.out) (HZ.out _ y9)
   exact ⟨_, rfl, this.1, this.2⟩
 · rw [hr] at CK
   simp only [if_true] at CK
   have SO2 := Lib.hid (SO.out hr)
   clear SO
   by_cases h2 : (min (v.size : Int) 129) ≤ 128
   · have h8 := hsz.2 h2
     have SO3 := Lib.hid (SO2.out h8)
     clear SO2
     rcases hv : validP t (srtP 8 t v) with _ | _
     · have e1 : sortedP t v = (zeroV, 5) := by unfold sortedP; rw [hr, hv, if_pos rfl, if_pos h8]; rfl
       rw [e1]
       show Calls _ _ _ _ (SortedPost w zeroV 5)
       have VA2 := Lib.hid (VA.out hr h8)
       rw [hv] at VA2
       clear VA hv hr e1 hsz h8
       unfold ValPost at SO3
       generalize srtP 8 t v = sv at *
       generalize (min (v.size : Int) 129) = m at *
       generalize v.n = x at *
       generalize t.kind = kd at *
       generalize t.size = z at *
       have d2 : decide (m ≤ 128) = true := by simpa using h2
       have d3 : ¬ (128 : Int) < m := by omega
       generalize hres : SortedPost w zeroV 5 = R
       go_enter Tryz.func30, Tryz.ntmps30
       go_wp2_with (first | (go_at_call 18; go_must (refine (CK.out _ TX.out.1).mono ?_; rintro e w6 ⟨rfl, hg6⟩; (have HG6 := Lib.hid (TX.out.1.trans hg6)); (have HX6 := Lib.hid hg6); (obtain ⟨-, -, y1, y2, y3, y4, y5, y6, -⟩ := TX.out.2 _ hg6); clear hg6)) | (go_at_call 26; go_must (refine (SZ.out _ HG6.out).mono ?_; rintro e w7 ⟨rfl, hg7⟩; (have HG7 := Lib.hid (HG6.out.trans hg7)); (have HX7 := Lib.hid (HX6.out.trans hg7)); (obtain ⟨u9, -, u1, u2, u3, u4, u5, u6, yb⟩ := TX.out.2 _ HX7.out);  clear hg7 yb)) | (go_at_call 55; go_must (refine (SO3.out _ HG7.out).mono ?_; rintro e w8 ⟨s8, rfl, hk8, hg8⟩; obtain ⟨A8, n8, c8, rfl, -, -, -⟩ := hk8.form; (have HK8 := Lib.hid (KAt.keep (S' := fun b => w.heap.size + 3 ≤ b ∧ b < w8.heap.size) hk8 (fun b hb => ⟨Nat.le_trans u9 hb.1, hb.2⟩) (fun _ _ => rfl))); (have HX8 := Lib.hid (HX7.out.trans hg8)); (have HB8 := Lib.hid (Bw.alloc HX8.out (.cells #[.int .i64 sv.n, .slice A8 n8 c8] 28))); (obtain ⟨-, -, t1, t2, t3, t4, t5, t6, -⟩ := TX.out.2 _ HB8.out); (have b7 := Blk.new w8 28 #[.int .i64 sv.n, .slice A8 n8 c8]); have i7 := b7.cell 0; have i8 := b7.cell 1; (have HB7 := Lib.hid b7); (have HKB := Lib.hid (KAt.bw (hk8.keep (S' := fun b => b < w8.heap.size) (fun b hb => hb.2) (fun _ _ => rfl)) (Bw.alloc (Bw.refl w8) (.cells #[.int .i64 sv.n, .slice A8 n8 c8] 28)))); clear hk8 hg8 b7)) | (go_at_call 43; go_must (refine (VA2.out _ _ (TX.out.1.trans HB8.out) HKB.out).mono ?_; rintro e w9 ⟨rfl, hg9⟩; (have HX9 := Lib.hid (HB8.out.trans hg9)); (obtain ⟨u9', -, -, -, -, -, -, -, yb⟩ := TX.out.2 _ HX9.out); have e2 := yb.cell 0; have e3 := yb.cell 1; have f2 := yb.frozen 0; have f3 := yb.frozen 1; (have HBB := Lib.hid (blk_set (i := 1) (.slice none 0 0) (blk_set (i := 0) (.int .i64 0) yb))); clear hg9 yb)))
       refine bodyPost_ret (results_row_tmp (p := 4) (q := 5) (ty := 28) rfl _ _ (w.heap.size + 1 + 1) _ _ rfl (run_loadVar_row _ _ 28 28 _ (0, 0) _ HBB.out Tryz.underlying28 rfl (by kernel_rfl)) rfl) rfl ?_
       subst hres
       have := out2 (x := 0) (TX.out.1.trans HX9.out) (HZ.out _ u9')
       exact ⟨_, rfl, this.1, this.2⟩
     · have e1 : sortedP t v = (srtP 8 t v, 0) := by unfold sortedP; rw [hr, hv, if_pos rfl, if_pos h8, if_pos rfl]
       rw [e1]
       show Calls _ _ _ _ (SortedPost w (srtP 8 t v) 0)
       have VA2 := Lib.hid (VA.out hr h8)
       rw [hv] at VA2
       clear VA hv hr e1 hsz h8
       unfold ValPost at SO3
       generalize srtP 8 t v = sv at *
       generalize (min (v.size : Int) 129) = m at *
       generalize v.n = x at *
       generalize t.kind = kd at *
       generalize t.size = z at *
       have d2 : decide (m ≤ 128) = true := by simpa using h2
       have d3 : ¬ (128 : Int) < m := by omega
       generalize hres : SortedPost w sv 0 = R
       go_enter Tryz.func30, Tryz.ntmps30
       go_wp2_with (first | (go_at_call 18; go_must (refine (CK.out _ TX.out.1).mono ?_; rintro e w6 ⟨rfl, hg6⟩; (have HG6 := Lib.hid (TX.out.1.trans hg6)); (have HX6 := Lib.hid hg6); (obtain ⟨-, -, y1, y2, y3, y4, y5, y6, -⟩ := TX.out.2 _ hg6); clear hg6)) | (go_at_call 26; go_must (refine (SZ.out _ HG6.out).mono ?_; rintro e w7 ⟨rfl, hg7⟩; (have HG7 := Lib.hid (HG6.out.trans hg7)); (have HX7 := Lib.hid (HX6.out.trans hg7)); (obtain ⟨u9, -, u1, u2, u3, u4, u5, u6, yb⟩ := TX.out.2 _ HX7.out);  clear hg7 yb)) | (go_at_call 55; go_must (refine (SO3.out _ HG7.out).mono ?_; rintro e w8 ⟨s8, rfl, hk8, hg8⟩; obtain ⟨A8, n8, c8, rfl, -, -, -⟩ := hk8.form; (have HK8 := Lib.hid (KAt.keep (S' := fun b => w.heap.size + 3 ≤ b ∧ b < w8.heap.size) hk8 (fun b hb => ⟨Nat.le_trans u9 hb.1, hb.2⟩) (fun _ _ => rfl))); (have HX8 := Lib.hid (HX7.out.trans hg8)); (have HB8 := Lib.hid (Bw.alloc HX8.out (.cells #[.int .i64 sv.n, .slice A8 n8 c8] 28))); (obtain ⟨-, -, t1, t2, t3, t4, t5, t6, -⟩ := TX.out.2 _ HB8.out); (have b7 := Blk.new w8 28 #[.int .i64 sv.n, .slice A8 n8 c8]); have i7 := b7.cell 0; have i8 := b7.cell 1; (have HB7 := Lib.hid b7); (have HKB := Lib.hid (KAt.bw (hk8.keep (S' := fun b => b < w8.heap.size) (fun b hb => hb.2) (fun _ _ => rfl)) (Bw.alloc (Bw.refl w8) (.cells #[.int .i64 sv.n, .slice A8 n8 c8] 28)))); clear hk8 hg8 b7)) | (go_at_call 43; go_must (refine (VA2.out _ _ (TX.out.1.trans HB8.out) HKB.out).mono ?_; rintro e w9 ⟨rfl, hg9⟩; (have HX9 := Lib.hid (HB8.out.trans hg9)); (obtain ⟨u9', -, -, -, -, -, -, -, yb⟩ := TX.out.2 _ HX9.out); have e2 := yb.cell 0; have e3 := yb.cell 1; have f2 := yb.frozen 0; have f3 := yb.frozen 1; have b9 := HB7.out.below hg9.b HB7.out.lt; have i9 := b9.cell 0; have i10 := b9.cell 1; (have HK9 := Lib.hid (HK8.out.keep (S' := fun b => w.heap.size + 3 ≤ b ∧ b < w9.heap.size) (fun b hb => ⟨hb.1, Nat.lt_of_lt_of_le hb.2 ((Bw.alloc (Bw.refl w8) _).trans hg9).size⟩) (fun p hp => ((Bw.alloc (Bw.refl w8) _).trans hg9).b.cell hp.2))); (have HBB := Lib.hid (blk_set (i := 1) (.slice A8 n8 c8) (blk_set (i := 0) (.int .i64 sv.n) yb))); clear hg9 yb b9)))
       refine bodyPost_ret (results_row_tmp (p := 4) (q := 5) (ty := 28) rfl _ _ (w.heap.size + 1 + 1) _ _ rfl (run_loadVar_row _ _ 28 28 _ (0, 0) _ HBB.out Tryz.underlying28 rfl (by kernel_rfl)) rfl) rfl ?_
       subst hres
       have := out2 (x := sv.n) (TX.out.1.trans HX9.out) HK9.out
       exact ⟨_, rfl, this.1, this.2⟩
   · have h8 : ¬ v.size ≤ 128 := fun h => h2 (hsz.1 h)
     have e1 : sortedP t v = (zeroV, 5) := by unfold sortedP; rw [hr, if_pos rfl, if_neg h8]
     rw [e1]
     show Calls _ _ _ _ (SortedPost w zeroV 5)
     clear SO2 VA hr e1 hsz h8
     generalize (min (v.size : Int) 129) = m at *
     generalize v.n = x at *
     generalize t.kind = kd at *
     generalize t.size = z at *
     have d2 : decide (m > 128) = true := by simp; omega
     have d3 : (128 : Int) < m := by omega
     generalize hres : SortedPost w zeroV 5 = R
     go_enter Tryz.func30, Tryz.ntmps30
     go_wp2_with (first | (go_at_call 18; go_must (refine (CK.out _ TX.out.1).mono ?_; rintro e w6 ⟨rfl, hg6⟩; (have HG6 := Lib.hid (TX.out.1.trans hg6)); (have HX6 := Lib.hid hg6); (obtain ⟨-, -, y1, y2, y3, y4, y5, y6, -⟩ := TX.out.2 _ hg6); clear hg6)) | (go_at_call 26; go_must (refine (SZ.out _ HG6.out).mono ?_; rintro e w7 ⟨rfl, hg7⟩; (have HG7 := Lib.hid (HG6.out.trans hg7)); (have HX7 := Lib.hid (HX6.out.trans hg7)); (obtain ⟨u9, -, u1, u2, u3, u4, u5, u6, yb⟩ := TX.out.2 _ HX7.out); have e2 := yb.cell 0; have e3 := yb.cell 1; have f2 := yb.frozen 0; have f3 := yb.frozen 1; (have HBB := Lib.hid (blk_set (i := 1) (.slice none 0 0) (blk_set (i := 0) (.int .i64 0) yb))); clear hg7 yb)))
     refine bodyPost_ret (results_row_tmp (p := 4) (q := 5) (ty := 28) rfl _ _ (w.heap.size + 1 + 1) _ _ rfl (run_loadVar_row _ _ 28 28 _ (0, 0) _ HBB.out Tryz.underlying28 rfl (by kernel_rfl)) rfl) rfl ?_
     subst hres
     have := out2 (x := 0) HG7.out (HZ.out _ u9)
     exact ⟨_, rfl, this.1, this.2⟩
end Go.Proofs.YtlmnkcfnihhlgaaGreatDoor
