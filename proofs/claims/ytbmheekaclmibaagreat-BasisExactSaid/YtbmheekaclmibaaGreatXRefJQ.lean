/- Part of a proof of basisExact_holds. -/
import Derived.Test.YtbmheekaclmibaaGreatXNumAQ
import Derived.Test.YtbmheekaclmibaaGreatXRefBQ
import Derived.Test.YtbmheekaclmibaaGreatXPriAQ
set_option maxRecDepth 100000
set_option maxHeartbeats 16000000
namespace Go.Proofs.YtbmheekaclmibaaGreat
open Go.RowKit
set_option linter.unusedSimpArgs false
set_option linter.unusedVariables false
theorem r4small_any (t : V) (h9 : t.size ≤ 12) (s : Value) (w : World) (h : KB w w.heap.size s t.ks) : Calls Tryz.prog 168 #[.agg #[.int .i64 t.n, s]] w (BoolPost w true) := by
 obtain ⟨A, n, c, rfl, ln, _, _⟩ := h.form
 have hc : cntI t 12 ≤ 12 := by unfold cntI; omega
 have CN : Hid (∀ W, Bw w W → Calls Tryz.prog 180 #[.agg #[.int .i64 t.n, .slice A n c], .int .i64 12] W (NumPost W (cntI t 12))) := Lib.hid (fun W g => r4cnt_any t _ W 12 (by omega) (by omega) (h.bw g))
 clear h ln h9
 generalize cntI t 12 = m at *
 generalize t.n = x at *
 have d1 : decide (m ≤ 12) = true := by simpa using hc
 go_enter Tryz.func168, Tryz.ntmps168
 go_wp2_with (go_at_call 180; go_must (refine (CN.out _ ((Bw.refl _).alloc _)).mono ?_; rintro e w6 ⟨rfl, hg6⟩; (have HG6 := Lib.hid hg6); clear hg6))
 go_ret
 exact ⟨ret_bool (by first | rfl | exact d1), ((Bw.refl _).alloc _).trans HG6.out⟩
theorem tboxV {w : World} {x : Int} {s : Value} : ∀ W, Bw (w.alloc (.cells #[.int .i64 x, s] 95)) W → w.heap.size < W.heap.size ∧ Bw w W ∧ W.cell? ⟨w.heap.size, 0, none⟩ = some (.int .i64 x) ∧ W.cell? ⟨w.heap.size, 1, none⟩ = some s := by
 intro W g
 have b := (Blk.new w 95 #[.int .i64 x, s]).below g.b (by simp)
 exact ⟨b.lt, ((Bw.refl w).alloc _).trans g, b.cell 0, b.cell 1⟩
theorem r4labels_step (v : V) (ih : ∀ k ∈ v.ks, ∀ (s : Value) (W : World), KB W W.heap.size s k.ks → Calls Tryz.prog 169 #[aggV k s] W (BoolPost W (taggedP 16 k)))
   (s : Value) (w : World) (h : KB w w.heap.size s v.ks) : Calls Tryz.prog 169 #[.agg #[.int .i64 v.n, s]] w (BoolPost w (taggedP 16 v)) := by
 obtain ⟨A, n, c, rfl, ln, bn, mn⟩ := h.form
 unfold maxLen at mn
 have HK := Lib.hid h
 have HIH := Lib.hid ih
 have LN := Lib.hid ln
 have VX := Lib.hid (tboxV (w := w) (x := v.n) (s := .slice A n c))
 have HQ : Hid (taggedP 16 v = (decide (0 ≤ v.n) && decide (v.n < 16) && v.ks.all (taggedP 16))) := Lib.hid (taggedP_eq 16 v)
 clear h ih ln
 generalize taggedP 16 v = q at *
 generalize v.n = x at *
 go_enter Tryz.func169, Tryz.ntmps169
 go_wp2
 go_loopw [3] (fun i wr => ∃ k : Nat, k ≤ n ∧ i = .int .i64 k ∧ Hid (Bw (w.alloc (.cells #[.int .i64 x, .slice A n c] 95)) wr ∧ v.ks.all (taggedP 16) = (v.ks.drop k).all (taggedP 16))) (fun i _ => n - (intOf i).toNat)
 case atStart => exact ⟨0, by omega, by go_num, Lib.hid ⟨Bw.refl _, rfl⟩⟩
 case round =>
   obtain ⟨k, hk, rfl, HR⟩ := hrel
   obtain ⟨hg, hc⟩ := HR.out
   obtain ⟨y0, hw, y1, y2⟩ := VX.out wr hg
   by_cases hlt : k < n
   · have e1 : k < v.ks.length := by rw [LN.out]; exact hlt
     rw [all_step _ e1] at hc
     obtain ⟨ad, sA, sn, sc, rfl, hb, q0, q1, sl, hs⟩ := (HK.out.bw hw).at_ e1
     have CI : Hid (Calls Tryz.prog 169 #[.agg #[.int .i64 v.ks[k].n, .slice sA sn sc]] wr (BoolPost wr (taggedP 16 v.ks[k]))) := Lib.hid (HIH.out _ (List.getElem_mem e1) _ _ hs)
     have HC := Lib.hid hc
     have HG := Lib.hid hg
     have HW := Lib.hid hw
     clear hc hg hw HR hs sl
     generalize v.ks[k].n = xk at *
     rcases hq : taggedP 16 v.ks[k] with _ | _
     · rw [hq] at CI HC
       have HC2 : Hid (q = false) := Lib.hid (by rw [HQ.out, HC.out]; simp)
       go_wp2_with (go_at_call 169; go_must (refine CI.out.mono ?_; rintro e6 w6 ⟨rfl, hg6⟩; (have HG6 := Lib.hid hg6); clear hg6))
       go_ret
       exact ⟨ret_bool HC2.out.symm, HW.out.trans HG6.out⟩
     · rw [hq] at CI HC
       have HC2 : Hid (v.ks.all (taggedP 16) = (v.ks.drop (k + 1)).all (taggedP 16)) := Lib.hid HC.out
       go_wp2_with (go_at_call 169; go_must (refine CI.out.mono ?_; rintro e6 w6 ⟨rfl, hg6⟩; (have HG6 := Lib.hid hg6); clear hg6))
       go_roundw
       case rel => exact ⟨k + 1, by omega, by go_num, Lib.hid ⟨HG.out.trans HG6.out, HC2.out⟩⟩
       case measure => simp [intOf]; omega
   · obtain rfl : k = n := by omega
     have HC2 : Hid (q = (decide (0 ≤ x) && decide (x < 16))) := Lib.hid (by rw [HQ.out, hc, List.drop_eq_nil_of_le (by rw [LN.out]; omega)]; simp)
     have HW := Lib.hid hw
     clear hc hg hw HR
     by_cases x0 : 0 ≤ x
     · have d0 : decide (0 ≤ x) = true := by simpa using x0
       have HC3 : Hid (q = decide (x < 16)) := Lib.hid (by rw [HC2.out, d0]; rfl)
       go_wp2
       go_ret
       exact ⟨ret_bool HC3.out.symm, HW.out⟩
     · have d0 : decide (0 ≤ x) = false := by simpa using x0
       have HC3 : Hid (q = false) := Lib.hid (by rw [HC2.out, d0]; rfl)
       go_wp2
       go_ret
       exact ⟨ret_bool HC3.out.symm, HW.out⟩
theorem r4labels_any (v : V) : ∀ (s : Value) (w : World), KB w w.heap.size s v.ks → Calls Tryz.prog 169 #[aggV v s] w (BoolPost w (taggedP 16 v)) := by
 induction v using V.ind with
 | h n ks ih => exact fun s w h => r4labels_step (.mk n ks) (fun k hk s' W h' => ih k hk s' W h') s w h
theorem treeOk_tagged {t : V} (h : TreeOk t) : taggedP 16 t = true := by
 have key : ∀ t : V, (∀ x ∈ subs t, 0 ≤ x.n ∧ x.n < 16) → taggedP 16 t = true := by
   intro t
   induction t using V.ind with
   | h n ks ih =>
     intro hx
     rw [taggedP_eq]
     have h0 := hx (.mk n ks) (by rw [subs_eq]; simp)
     simp only [Bool.and_eq_true, decide_eq_true_eq, List.all_eq_true]
     refine ⟨h0, fun k hk => ih k hk fun x hx' => hx x ?_⟩
     rw [subs_eq]
     refine List.mem_cons_of_mem _ ?_
     change x ∈ subsL ks
     clear hx h0 ih
     induction ks with
     | nil => cases hk
     | cons y ys ihy =>
       change x ∈ subs y ++ subsL ys
       rcases List.mem_cons.1 hk with rfl | hk
       · exact List.mem_append_left _ hx'
       · exact List.mem_append_right _ (ihy hk)
 exact key t h.2
theorem r4Valid_any (t : V) (h9 : TreeOk t) (s : Value) (w : World) (h : KB w w.heap.size s t.ks) : Calls Tryz.prog 151 #[.agg #[.int .i64 t.n, s]] w (BoolPost w true) := by
 obtain ⟨A, n, c, rfl, ln, _, _⟩ := h.form
 have VX := Lib.hid (tboxV (w := w) (x := t.n) (s := .slice A n c))
 have HA : Hid (Bw w (w.alloc (.cells #[.int .i64 t.n, .slice A n c] 95))) := Lib.hid ((Bw.refl _).alloc _)
 have SM : Hid (∀ W, Bw w W → Calls Tryz.prog 168 #[.agg #[.int .i64 t.n, .slice A n c]] W (BoolPost W true)) := Lib.hid (fun W g => r4small_any t h9.1 _ W (h.bw g))
 have LA : Hid (∀ W, Bw w W → Calls Tryz.prog 169 #[.agg #[.int .i64 t.n, .slice A n c]] W (BoolPost W true)) := Lib.hid (fun W g => by rw [← treeOk_tagged h9]; exact r4labels_any t _ W (h.bw g))
 clear h ln h9
 generalize t.n = x at *
 go_enter Tryz.func151, Tryz.ntmps151
 go_wp2_with (first
   | (go_at_call 168; go_must ((with_reducible refine (SM.out _ HA.out).mono ?_); rintro e w6 ⟨rfl, hg6⟩; (have HG6 := Lib.hid hg6); (have VY := Lib.hid (VX.out _ HG6.out)); obtain ⟨y0, -, y1, y2⟩ := VY.out; clear hg6 VY))
   | (go_at_call 169; go_must ((with_reducible refine (LA.out _ (HA.out.trans HG6.out)).mono ?_); rintro e w7 ⟨rfl, hg7⟩; (have HG7 := Lib.hid hg7); clear hg7)))
 go_ret
 exact ⟨rfl, HA.out.trans (HG6.out.trans HG7.out)⟩

theorem own_bw {A W : World} {B size n : Nat} {e : TypeId} {v : Value} {xs : List Value} (h : A.ownsRow B e size v n xs) (g : Bw A W) : W.ownsRow B e size v n xs := by
 refine h.kept g.gr ?_
 rcases hv : v.ownBlock with _ | k
 · exact .inl rfl
 · exact .inr (by simp)
def WalkPost (w : World) (m : Nat) (e : Ending) (w' : World) : Prop := ∃ A c xs, e = .returned (.slice A m c) ∧ xs.length = m ∧ m ≤ c ∧ c ≤ maxLen ∧ IAt w' (fun b => w.heap.size ≤ b ∧ b < w'.heap.size) (.slice A m c) xs ∧ Bw w w'
theorem szL_take {l : List V} {k : Nat} (h : k < l.length) : sizeL (l.take (k + 1)) = sizeL (l.take k) + l[k].size := by
 rw [List.take_succ_eq_append_getElem h, sizeL_append]; simp [sizeL]
theorem r4walk_step (v : V) (h9 : v.size ≤ 1000000) (ih : ∀ k ∈ v.ks, ∀ (s : Value) (W : World), KB W W.heap.size s k.ks → Calls Tryz.prog 171 #[aggV k s] W (WalkPost W k.size)) (s : Value) (w : World) (h : KB w w.heap.size s v.ks) :
   Calls Tryz.prog 171 #[.agg #[.int .i64 v.n, s]] w (WalkPost w v.size) := by
 obtain ⟨A, n, c, rfl, ln, bn, mn⟩ := h.form
 unfold maxLen at mn
 have hsz : v.size = 1 + sizeL v.ks := by have := v.size_eq; omega
 have HSZ : Hid (∀ k, 1 + sizeL (v.ks.take k) ≤ 1000000) := Lib.hid (fun k => by have := sizeL_take_le v.ks k; omega)
 have HSE := Lib.hid hsz
 have HK := Lib.hid h
 have LN := Lib.hid ln
 have HIH := Lib.hid ih
 clear h ln ih hsz h9
 generalize v.n = vn
 obtain ⟨i0, hi, hz0, hz1, hz2⟩ := info_parts infoInt
 go_enter Tryz.func171, Tryz.ntmps171
 go_wp2
 go_loopw [3, 4] (fun s3 i wr => ∃ (k m : Nat), k ≤ n ∧ i = .int .i64 k ∧ m ≤ 1000000 ∧ Hid (m = 1 + sizeL (v.ks.take k) ∧ ∃ xs, wr.ownsRow (w.heap.size + 1) 3 1 s3 m (intVs xs) ∧ xs.length = m ∧ Bw w wr ∧ Blk wr w.heap.size 95 #[.int .i64 vn, .slice A n c])) (fun _ i _ => n - (intOf i).toNat)
 case atStart =>
   refine ⟨0, 1, by omega, rfl, by omega, Lib.hid ⟨by simp [sizeL], [vn], ?_, rfl, ((Bw.refl _).alloc _).alloc _, (Blk.new _ _ _).alloc _⟩⟩
   have := own_new (w.alloc (.cells #[.int .i64 vn, .slice A n c] 95)) 3 #[.int .i64 vn] 1 (n := 1) (xs := intVs [vn]) rfl rfl
   simpa only [World.size_alloc] using this
 case round =>
   obtain ⟨k, m, hk, rfl, hm9, HR⟩ := hrel
   obtain ⟨hm, xs, hv, hxl, hw, hbk⟩ := HR.out
   obtain ⟨VA, vc, rfl, _, _⟩ := own_bounds hv
   have b1 := hbk.cell 1
   have lb := hbk.lt
   by_cases hlt : k < n
   · have e1 : k < v.ks.length := by rw [LN.out]; exact hlt
     obtain ⟨ad, sA, sn, sc, rfl, hb, q0, q1, sl, hs⟩ := (HK.out.bw hw).at_ e1
     have hm2 : m + v.ks[k].size = 1 + sizeL (v.ks.take (k + 1)) := by rw [szL_take e1]; omega
     have hm3 : m + v.ks[k].size ≤ 1000000 := by rw [hm2]; exact HSZ.out _
     have CI : Hid (Calls Tryz.prog 171 #[.agg #[.int .i64 v.ks[k].n, .slice sA sn sc]] wr (WalkPost wr v.ks[k].size)) := Lib.hid (HIH.out _ (List.getElem_mem e1) _ _ hs)
     unfold WalkPost at CI
     have HM2 := Lib.hid hm2
     have HV := Lib.hid hv
     have HXL := Lib.hid hxl
     have HW := Lib.hid hw
     have HBK := Lib.hid hbk
     have hsw := hw.size
     clear hs sl hv hw HR hbk hm hm2 hxl
     generalize v.ks[k].n = x at *
     generalize v.ks[k].size = z at *
     go_wp2_with (first
       | (go_at_call 171; go_must (refine CI.out.mono ?_; rintro e w6 ⟨A6, c6, ys, rfl, hyl, hc6, hc6', hys, hg6⟩; (have HYL := Lib.hid hyl); (have HYS := Lib.hid hys); (have HG6 := Lib.hid hg6); (have hs6 := hg6.size); clear hg6 hys hyl))
       | (at_builtin; go_must (refine wpList_append_any _ rfl _ _ 22 rfl (w.heap.size + 1) 3 i0 _ 1 8 Tryz.underlying22 hi hz0 hz1 hz2 rfl (by decide) (.slice VA m vc) m (intVs xs) rfl (own_bw HV.out HG6.out) w6.heap.size A6 z c6 (intVs ys) rfl (IAt.reads (HYS.out.keep (fun b hb => hb.2) (fun _ _ => rfl))) (intVs_one _) (by unfold maxLen; omega) (by omega) (by omega) ?_; intro v7 w7 hown7 hgr7 hl7; obtain ⟨A7, c7, rfl⟩ := own_form hown7; (have HO7 := Lib.hid hown7); (have HG7 := Lib.hid hgr7); clear hown7 hgr7 hl7)))
     go_roundw
     case rel =>
       refine ⟨k + 1, m + z, by omega, by go_num, hm3, Lib.hid ⟨HM2.out, xs ++ ys, ?_, by simp [HXL.out, HYL.out], ?_, ?_⟩⟩
       · rw [← intVs_append]; exact HO7.out
       · exact Below.trans (HW.out.trans HG6.out) (below_own (Below.refl w.heap.size _) (own_base (own_bw HV.out HG6.out) (by omega)) HG7.out (by have := HG6.out.size; omega))
       · exact (HBK.out.below HG6.out.b HBK.out.lt).grown HG7.out (fun e => by have := ((own_bw HV.out HG6.out).lt _ e.symm).1; omega)
     case measure => simp [intOf]; omega
   · obtain rfl : k = n := by omega
     have HV := Lib.hid hv
     have HW := Lib.hid hw
     have HM : Hid (m = v.size) := Lib.hid (by rw [HSE.out, hm, List.take_of_length_le (by rw [LN.out]; omega)])
     clear hv hw HR hbk hm
     go_wp2
     go_ret
     obtain ⟨_, _, e, h1, h2⟩ := own_bounds HV.out
     injection e with e1 e2 e3
     subst e1 e3
     rw [← HM.out]
     exact ⟨VA, vc, xs, rfl, hxl, h1, h2, (own_IB HV.out hxl).keep (fun b hb => ⟨by have := hb.1; omega, hb.2⟩) (fun _ _ => rfl), HW.out⟩
theorem r4walk_any (v : V) : v.size ≤ 1000000 → ∀ (s : Value) (w : World), KB w w.heap.size s v.ks → Calls Tryz.prog 171 #[aggV v s] w (WalkPost w v.size) := by
 induction v using V.ind with
 | h n ks ih => exact fun h9 s w h => r4walk_step (.mk n ks) h9 (fun k hk s' W h' => ih k hk (by have h1 : k.size ≤ sizeL ks := sizeL_mem hk; have h2 := (V.mk n ks).size_eq; change _ = _ + sizeL ks at h2; omega) s' W h') s w h
theorem sub_step {xs bs : List V} {i k : Nat} (hi : i < xs.length) (hk : k < bs.length) : subT (xs.drop i) (bs.drop k) = if embT xs[i] bs[k] then subT (xs.drop (i + 1)) (bs.drop (k + 1)) else subT (xs.drop i) (bs.drop (k + 1)) := by
 rw [List.drop_eq_getElem_cons hk, List.drop_eq_getElem_cons hi, subT_eq, subT_eq, subT_eq]; rfl
theorem sub_nil {xs bs : List V} {i : Nat} (hi : xs.length ≤ i) : subT (xs.drop i) bs = true := by
 rw [List.drop_eq_nil_of_le hi, subT_eq]; simp [embG]
theorem sub_end {xs bs : List V} {i k : Nat} (hi : i < xs.length) (hk : bs.length ≤ k) : subT (xs.drop i) (bs.drop k) = false := by
 rw [List.drop_eq_nil_of_le hk, List.drop_eq_getElem_cons hi, subT_eq]; simp [embG]
structure RtI (W w : World) (x y : Int) (A : Option Addr) (n c : Nat) (B : Option Addr) (m d : Nat) (sv : Value) (len : Nat) (xs : List Int) : Prop where
 b0 : Blk W w.heap.size 95 #[.int .i64 x, .slice A n c]
 b1 : Blk W (w.heap.size + 1) 95 #[.int .i64 y, .slice B m d]
 row : W.ownsRow (w.heap.size + 2) 3 1 sv len (intVs xs)
 ln : xs.length = len
 bw : Bw w W
theorem RtI.keep {W W' w : World} {x y : Int} {A B : Option Addr} {n c m d : Nat} {sv : Value} {len : Nat} {xs : List Int} (h : RtI W w x y A n c B m d sv len xs) (g : Bw W W') : RtI W' w x y A n c B m d sv len xs :=
 ⟨h.b0.below g.b h.b0.lt, h.b1.below g.b h.b1.lt, own_bw h.row g, h.ln, h.bw.trans g⟩
theorem RtI.push {W w7 w : World} {x y : Int} {A B : Option Addr} {n c m d : Nat} {sv v7 : Value} {len k : Nat} {xs ys : List Int} (h : RtI W w x y A n c B m d sv len xs) (hown : w7.ownsRow (w.heap.size + 2) 3 1 v7 (len + k) (intVs xs ++ intVs ys)) (hg : W.grownBy w7 sv.ownBlock) (hl : ys.length = k) : RtI w7 w x y A n c B m d v7 (len + k) (xs ++ ys) := by
 have ne : ∀ r, r < w.heap.size + 2 → some r ≠ sv.ownBlock := fun r hr' e => by have := (h.row.lt r e.symm).1; omega
 have hl' := h.b1.lt
 exact ⟨h.b0.grown hg (ne _ (by omega)), h.b1.grown hg (ne _ (by omega)), by rwa [intVs_append] at hown, by simp [h.ln, hl], below_own (h.bw.b) (own_base h.row (by omega)) hg h.bw.size⟩
theorem RtI.start (w : World) (x y z : Int) (A : Option Addr) (n c : Nat) (B : Option Addr) (m d : Nat) : RtI (((w.alloc (.cells #[.int .i64 x, .slice A n c] 95)).alloc (.cells #[.int .i64 y, .slice B m d] 95)).alloc (.cells #[.int .i64 z] 3)) w x y A n c B m d (.slice (some ⟨w.heap.size + 1 + 1, 0, none⟩) 1 1) 1 [z] := by
 refine ⟨((Blk.new _ _ _).alloc _).alloc _, ?_, ?_, rfl, (((Bw.refl _).alloc _).alloc _).alloc _⟩
 · have := (Blk.new (w.alloc (.cells #[.int .i64 x, .slice A n c] 95)) 95 #[.int .i64 y, .slice B m d]).alloc (.cells #[.int .i64 z] 3)
   simpa only [World.size_alloc] using this
 · have := own_new ((w.alloc (.cells #[.int .i64 x, .slice A n c] 95)).alloc (.cells #[.int .i64 y, .slice B m d] 95)) 3 #[.int .i64 z] 1 (n := 1) (xs := intVs [z]) rfl rfl
   simpa only [World.size_alloc] using this
def InSays (b : V) : Prop := ∀ (a : V), a.size ≤ 1000 → ∀ (fr : Nat) (s1 s2 : Value) (W : World), fr + b.size ≤ 1000000 → KB W W.heap.size s1 a.ks → KB W W.heap.size s2 b.ks → Calls Tryz.prog 152 #[aggV a s1, aggV b s2, .int .i64 (fr : Int)] W (EmbPost W (embT a b) a.size)
theorem r4rooted_step (b a : V) (ha9 : a.size ≤ 1000) (ih : ∀ k ∈ b.ks, InSays k) (fr : Nat) (s1 s2 : Value) (w : World) (hfr : fr + b.size ≤ 1000000) (h1 : KB w w.heap.size s1 a.ks) (h2 : KB w w.heap.size s2 b.ks) :
   Calls Tryz.prog 170 #[.agg #[.int .i64 a.n, s1], .agg #[.int .i64 b.n, s2], .int .i64 (fr : Int)] w (EmbPost w (rootE a b) a.size) := by
 obtain ⟨A, n, c, rfl, ln, _, _⟩ := h1.form
 obtain ⟨B, m, d, rfl, lm, bm, mm⟩ := h2.form
 obtain ⟨_, _, _, e, _, bn, mn⟩ := h1.form
 injection e with e1 e2 e3
 subst e1 e2 e3
 unfold maxLen at mm mn
 have HSA : Hid (∀ k, 1 + sizeL (a.ks.take k) ≤ a.size) := Lib.hid (fun k => by have := sizeL_take_le a.ks k; have := a.size_eq; omega)
 have HSB : Hid (∀ k, fr + 1 + sizeL (b.ks.take k) ≤ fr + b.size) := Lib.hid (fun k => by have := sizeL_take_le b.ks k; have := b.size_eq; omega)
 have hfr1 : fr ≤ 1000000 := by omega
 have HFR := Lib.hid hfr
 have HA9 := Lib.hid ha9
 have HK1 := Lib.hid h1
 have HK2 := Lib.hid h2
 have LN := Lib.hid ln
 have LM := Lib.hid lm
 have HIH := Lib.hid ih
 have HRT : Hid (rootE a b = (a.n == b.n && subT a.ks b.ks)) := Lib.hid rfl
 generalize hq : subT a.ks b.ks = q at *
 have HQ := Lib.hid hq
 obtain ⟨i0, hi, hz0, hz1, hz2⟩ := info_parts infoInt
 generalize rootE a b = res at *
 have HST := Lib.hid (fun z => RtI.start w a.n b.n z A n c B m d)
 clear h1 h2 ih hfr ha9 hq ln lm
 generalize a.n = x at *
 generalize b.n = y at *
 by_cases hxy : x = y
 rotate_left
 · have d1 : (x == y) = false := by simpa using hxy
   have HR : Hid (res = false) := Lib.hid (by rw [HRT.out, d1]; rfl)
   go_enter Tryz.func170, Tryz.ntmps170
   go_wp2
   go_ret2
   exact ⟨.slice none 0 0, [], by rw [HR.out]; rfl, IAt.nil 0 none (by unfold maxLen; omega), by simp, ((Bw.refl _).alloc _).alloc _⟩
 have d1 : (x == y) = true := by simpa using hxy
 have d2 : (x != y) = false := by simpa using hxy
 have HR : Hid (res = q) := Lib.hid (by rw [HRT.out, d1]; rfl)
 clear hxy
 go_enter Tryz.func170, Tryz.ntmps170
 go_wp2
 go_loopw [8, 9, 10, 11] (fun so at_ kk ii wr => ∃ i k len p : Nat, i ≤ n ∧ k ≤ m ∧ len ≤ 1000 ∧ p ≤ 1000000 ∧ ii = .int .i64 i ∧ kk = .int .i64 k ∧ at_ = .int .i64 p ∧ Hid (∃ xs, RtI wr w x y A n c B m d so len xs ∧ p = fr + 1 + sizeL (b.ks.take k) ∧ len ≤ 1 + sizeL (a.ks.take i) ∧ q = subT (a.ks.drop i) (b.ks.drop k))) (fun _ _ _ ii _ => n - (intOf ii).toNat)
 case atStart => exact ⟨0, 0, 1, fr + 1, by omega, by omega, by omega, by have := HFR.out; have := b.size_pos; omega, rfl, rfl, by go_num, Lib.hid ⟨[(fr : Int)], HST.out _, by simp [sizeL], by simp [sizeL], HQ.out.symm⟩⟩
 case round =>
   obtain ⟨i, k, len, p, hi9, hk9, hlen9, hp9, rfl, rfl, rfl, HRL⟩ := hrel
   obtain ⟨xs, hI, hp, hlen, hqq⟩ := HRL.out
   have HI := Lib.hid hI
   have HP := Lib.hid hp
   have HLE := Lib.hid hlen
   have HQQ := Lib.hid hqq
   have z0 := hI.b0.cell 1
   have z1 := hI.b1.cell 1
   have lb0 := hI.b0.lt
   have lb1 := hI.b1.lt
   clear hI HRL hp hlen hqq
   by_cases hlt : i < n
   · have e1 : i < a.ks.length := by rw [LN.out]; exact hlt
     obtain ⟨ad, sA, sn, sc, rfl, hba, q0, q1, sl, hs⟩ := HK1.out.at_ e1
     have hz9 : sizeL (a.ks.take (i + 1)) = sizeL (a.ks.take i) + a.ks[i].size := szL_take e1
     have HZ9 := Lib.hid hz9
     have hz10 : 1 + sizeL (a.ks.take i) + a.ks[i].size ≤ 1000 := by have := HSA.out (i + 1); have := HA9.out; omega
     have HS := Lib.hid hs
     have HE1 := Lib.hid e1
     clear hz9 hs sl
     generalize hxk : a.ks[i] = ki at *
     have HXK := Lib.hid hxk
     clear hxk
     generalize hsti : sizeL (a.ks.take i) = st at *
     have HSTI := Lib.hid hsti
     clear hsti
     generalize hzk : ki.size = zk at *
     have HZK := Lib.hid hzk
     clear hzk e1
     generalize hxn : ki.n = xk at *
     have HXN := Lib.hid hxn
     clear hxn
     go_wp2
     go_loopw [8, 9, 10, 12] (fun so at_ kk ff wr2 => ∃ k len p : Nat, ∃ f : Bool, k ≤ m ∧ len ≤ 1000 ∧ p ≤ 1000000 ∧ kk = .int .i64 k ∧ at_ = .int .i64 p ∧ ff = .bool f ∧ Hid (∃ xs, RtI wr2 w x y (some ad) n c B m d so len xs ∧ p = fr + 1 + sizeL (b.ks.take k) ∧ len ≤ 1 + st + (if f then zk else 0) ∧ q = (if f then subT (a.ks.drop (i + 1)) (b.ks.drop k) else subT (a.ks.drop i) (b.ks.drop k)))) (fun _ _ kk _ _ => m - (intOf kk).toNat)
     case atStart => exact ⟨k, len, p, false, hk9, hlen9, hp9, rfl, rfl, rfl, Lib.hid ⟨xs, HI.out, HP.out, by have := HLE.out; simpa using this, HQQ.out⟩⟩
     case round =>
       obtain ⟨k2, len2, p2, f, hk2, hlen2, hp2, rfl, rfl, rfl, HRL2⟩ := hrel
       obtain ⟨xs2, hI2, hpe2, hle2, hqq2⟩ := HRL2.out
       obtain ⟨VA, vc, rfl, _, _⟩ := own_bounds hI2.row
       have y0 := hI2.b0.cell 1
       have y1 := hI2.b1.cell 1
       have lc0 := hI2.b0.lt
       have lc1 := hI2.b1.lt
       have hwb := hI2.bw
       have HI2 := Lib.hid hI2
       have HPE2 := Lib.hid hpe2
       have HLE2 := Lib.hid hle2
       have HQ2 := Lib.hid hqq2
       clear HRL2 hI2 hpe2 hle2 hqq2
       cases f with
       | true =>
         have HN : Hid (len2 ≤ 1 + sizeL (a.ks.take (i + 1)) ∧ q = subT (a.ks.drop (i + 1)) (b.ks.drop k2)) := Lib.hid ⟨by have h1 := HLE2.out; rw [if_pos rfl] at h1; have h2 := HZ9.out; omega, HQ2.out⟩
         clear hwb
         by_cases hkl : k2 < m
         · go_wp2
           go_roundw
           case rel => exact ⟨i + 1, k2, len2, p2, by omega, by omega, by omega, by omega, by go_num, rfl, rfl, Lib.hid ⟨xs2, HI2.out, HPE2.out, HN.out.1, HN.out.2⟩⟩
           case measure => simp [intOf]; omega
         · go_wp2
           go_roundw
           case rel => exact ⟨i + 1, k2, len2, p2, by omega, by omega, by omega, by omega, by go_num, rfl, rfl, Lib.hid ⟨xs2, HI2.out, HPE2.out, HN.out.1, HN.out.2⟩⟩
           case measure => simp [intOf]; omega
       | false =>
         by_cases hkl : k2 < m
         · have e2 : k2 < b.ks.length := by rw [LM.out]; exact hkl
           obtain ⟨bd, sB, sm, sd, rfl, hbb, r0, r1, slb, hsb⟩ := HK2.out.at_ e2
           have hsb9 : sizeL (b.ks.take (k2 + 1)) = sizeL (b.ks.take k2) + b.ks[k2].size := szL_take e2
           have hp3 : p2 + b.ks[k2].size = fr + 1 + sizeL (b.ks.take (k2 + 1)) := by rw [hsb9, HPE2.out]; omega
           have hp4 : p2 + b.ks[k2].size ≤ 1000000 := by have := HSB.out (k2 + 1); have := HFR.out; omega
           have hsub := sub_step (xs := a.ks) (bs := b.ks) HE1.out e2
           have hki : a.ks[i]'HE1.out = ki := HXK.out
           rw [hki] at hsub
           have CM : Hid (∀ W, Bw w W → Calls Tryz.prog 152 #[.agg #[.int .i64 xk, .slice sA sn sc], .agg #[.int .i64 b.ks[k2].n, .slice sB sm sd], .int .i64 (p2 : Int)] W (EmbPost W (embT ki b.ks[k2]) zk)) := Lib.hid (fun W g => by
             have := HIH.out _ (List.getElem_mem e2) ki (by rw [HZK.out]; omega) p2 (.slice sA sn sc) (.slice sB sm sd) W hp4 (HS.out.bw g) (hsb.bw g)
             rw [HZK.out] at this
             unfold aggV at this
             rw [HXN.out] at this
             exact this)
           have WK : Hid (∀ W, Bw w W → Calls Tryz.prog 171 #[.agg #[.int .i64 b.ks[k2].n, .slice sB sm sd]] W (WalkPost W b.ks[k2].size)) := Lib.hid (fun W g => r4walk_any _ (by omega) _ W (hsb.bw g))
           unfold WalkPost at WK
           have KF : Hid (∀ W, Bw w W → W.cell? (ad.add (i * 2)) = some (.int .i64 xk) ∧ W.cell? ⟨(ad.add (i * 2)).block, (ad.add (i * 2)).off + 1, none⟩ = some (.slice sA sn sc) ∧ W.cell? (bd.add (k2 * 2)) = some (.int .i64 b.ks[k2].n) ∧ W.cell? ⟨(bd.add (k2 * 2)).block, (bd.add (k2 * 2)).off + 1, none⟩ = some (.slice sB sm sd)) := Lib.hid (fun W g =>
             ⟨(g.b.cell (by rw [add_block]; exact hba)).trans q0, (g.b.cell (by simp only [add_block]; exact hba)).trans q1, (g.b.cell (by rw [add_block]; exact hbb)).trans r0, (g.b.cell (by simp only [add_block]; exact hbb)).trans r1⟩)
           have HP3 := Lib.hid hp3
           have HSUB := Lib.hid hsub
           clear hsb hsb9 hp3 hsub hki slb q0 q1 r0 r1
           generalize b.ks[k2].n = yk at *
           generalize b.ks[k2].size = zb at *
           have KS : Hid (∀ w', Bw wr w' → w'.cell? ⟨w.heap.size, 1, none⟩ = some (.slice (some ad) n c) ∧ w'.cell? ⟨w.heap.size + 1, 1, none⟩ = some (.slice (some bd) m d) ∧ w'.cell? (ad.add (i * 2)) = some (.int .i64 xk) ∧ w'.cell? ⟨(ad.add (i * 2)).block, (ad.add (i * 2)).off + 1, none⟩ = some (.slice sA sn sc) ∧ w'.cell? (bd.add (k2 * 2)) = some (.int .i64 yk) ∧ w'.cell? ⟨(bd.add (k2 * 2)).block, (bd.add (k2 * 2)).off + 1, none⟩ = some (.slice sB sm sd) ∧ Bw wr w') := Lib.hid (fun w' g =>
             ⟨(g.b.cell (p := ⟨w.heap.size, 1, none⟩) lc0).trans y0, (g.b.cell (p := ⟨w.heap.size + 1, 1, none⟩) lc1).trans y1, (KF.out w' (hwb.trans g)).1, (KF.out w' (hwb.trans g)).2.1, (KF.out w' (hwb.trans g)).2.2.1, (KF.out w' (hwb.trans g)).2.2.2, g⟩)
           have CM2 : Hid (∀ W, Bw wr W → Calls Tryz.prog 152 #[.agg #[.int .i64 xk, .slice sA sn sc], .agg #[.int .i64 yk, .slice sB sm sd], .int .i64 (p2 : Int)] W (EmbPost W (embT ki b.ks[k2]) zk)) := Lib.hid (fun W g => CM.out W (hwb.trans g))
           unfold EmbPost at CM2
           have HWB := Lib.hid hwb
           clear hwb CM
           generalize embT ki b.ks[k2] = g at *
           go_wp2_with fail
           go_region_held3 (fun w' => w'.cell? ⟨w.heap.size, 1, none⟩ = some (.slice (some ad) n c) ∧ w'.cell? ⟨w.heap.size + 1, 1, none⟩ = some (.slice (some bd) m d) ∧ w'.cell? (ad.add (i * 2)) = some (.int .i64 xk) ∧ w'.cell? ⟨(ad.add (i * 2)).block, (ad.add (i * 2)).off + 1, none⟩ = some (.slice sA sn sc) ∧ w'.cell? (bd.add (k2 * 2)) = some (.int .i64 yk) ∧ w'.cell? ⟨(bd.add (k2 * 2)).block, (bd.add (k2 * 2)).off + 1, none⟩ = some (.slice sB sm sd) ∧ Bw wr w') (first | (refine KS.out _ ?_; first | exact (Bw.refl _).drew | exact (Bw.refl _).drew.trans hg6)) (first | (go_at_call 152; (with_reducible refine (CM2.out _ (Bw.refl _).drew).mono ?_); rintro e w' ⟨rv, pl, rfl, hrv, hpl, hg6⟩; obtain ⟨A6, n6, c6, rfl, l6, m6⟩ := hrv.form'))
           have HW6 : Hid (Bw wr w') := Lib.hid ((Bw.refl _).drew.trans hg6)
           have HRV := Lib.hid hrv
           have HL6 := Lib.hid l6
           have hn6 : n6 ≤ zk := by omega
           have hsw6 := HW6.out.size
           have hwu : w.heap.size ≤ wr.heap.size := by omega
           clear hg6 hrv l6 hpl KS CM2
           have HI6 : Hid (RtI w' w x y (some ad) n c (some bd) m d (.slice VA len2 vc) len2 xs2) := Lib.hid (HI2.out.keep HW6.out)
           cases g with
           | true =>
             have HN : Hid (q = subT (a.ks.drop (i + 1)) (b.ks.drop (k2 + 1))) := Lib.hid (by rw [HQ2.out, if_neg (by simp), HSUB.out, if_pos rfl])
             go_wp2_with (first
               | (at_builtin; go_must (refine wpList_append_any _ rfl _ _ 22 rfl (w.heap.size + 2) 3 i0 _ 1 8 Tryz.underlying22 hi hz0 hz1 hz2 rfl (by decide) (.slice VA len2 vc) len2 (intVs xs2) rfl HI6.out.row w'.heap.size A6 n6 c6 (intVs pl) rfl (IAt.reads HRV.out) (intVs_one _) (by unfold maxLen; omega) (by omega) (by omega) ?_; intro v7 w7 hown7 hgr7 hl7; obtain ⟨A7, c7, rfl⟩ := own_form hown7; (have HI7 := Lib.hid (HI6.out.push hown7 hgr7 HL6.out)); (have t0 := HI7.out.b1.cell 1); obtain ⟨t1, t2, t3, t4⟩ := KF.out _ HI7.out.bw; clear hown7 hgr7 hl7))
               | (go_at_call 171; go_must (refine (WK.out _ HI7.out.bw).mono ?_; rintro e w8 ⟨A8, c8, ys, rfl, hyl, hc8, hc8', hys, hg8⟩; (have HG8 := Lib.hid hg8); clear hg8 hys hyl)))
             go_roundw
             case rel => exact ⟨k2 + 1, len2 + n6, p2 + zb, true, by omega, by have := HLE2.out; rw [if_neg (by simp)] at this; omega, hp4, by go_num, by go_num, rfl, Lib.hid ⟨xs2 ++ pl, HI7.out.keep HG8.out, HP3.out, by have := HLE2.out; rw [if_neg (by simp)] at this; rw [if_pos rfl]; omega, HN.out⟩⟩
             case measure => simp [intOf]; omega
           | false =>
             have HN : Hid (q = subT (a.ks.drop i) (b.ks.drop (k2 + 1))) := Lib.hid (by rw [HQ2.out, if_neg (by simp), HSUB.out, if_neg (by simp)])
             have t0 := HI6.out.b1.cell 1
             obtain ⟨t1, t2, t3, t4⟩ := KF.out _ HI6.out.bw
             go_wp2_with (go_at_call 171; go_must (refine (WK.out _ HI6.out.bw).mono ?_; rintro e w8 ⟨A8, c8, ys, rfl, hyl, hc8, hc8', hys, hg8⟩; (have HG8 := Lib.hid hg8); clear hg8 hys hyl))
             go_roundw
             case rel => exact ⟨k2 + 1, len2, p2 + zb, false, by omega, by omega, hp4, by go_num, by go_num, rfl, Lib.hid ⟨xs2, HI6.out.keep HG8.out, HP3.out, by have := HLE2.out; rw [if_neg (by simp)] at this; rw [if_neg (by simp)]; omega, HN.out⟩⟩
             case measure => simp [intOf]; omega
         · have HN : Hid (res = false) := Lib.hid (by rw [HR.out, HQ2.out, if_neg (by simp), sub_end HE1.out (by rw [LM.out]; omega)])
           clear hwb
           go_wp2
           go_ret2
           exact ⟨.slice none 0 0, [], by rw [HN.out]; rfl, IAt.nil 0 none (by unfold maxLen; omega), by simp, HI2.out.bw⟩
   · obtain rfl : i = n := by omega
     obtain ⟨VA, vc, rfl, _, _⟩ := own_bounds HI.out.row
     have HN : Hid (res = true) := Lib.hid (by rw [HR.out, HQQ.out, sub_nil (by rw [LN.out]; omega)])
     go_wp2
     go_ret2
     exact ⟨_, xs, by rw [HN.out]; rfl, (own_IB HI.out.row HI.out.ln).keep (fun b hb => hb.2) (fun _ _ => rfl), by have := HI.out.ln; have := HLE.out; have := HSA.out i; omega, HI.out.bw⟩
theorem emb_root (a b : V) : embT a b = (rootE a b || anyT a b.ks) := by cases b; rfl
theorem any_step {a : V} {bs : List V} {i : Nat} (h : i < bs.length) : anyT a (bs.drop i) = (embT a bs[i] || anyT a (bs.drop (i + 1))) := by
 rw [List.drop_eq_getElem_cons h]; rfl
theorem tbox2 {w : World} {x y : Int} {s u : Value} : Bw w ((w.alloc (.cells #[.int .i64 x, s] 95)).alloc (.cells #[.int .i64 y, u] 95)) ∧ ∀ W, Bw ((w.alloc (.cells #[.int .i64 x, s] 95)).alloc (.cells #[.int .i64 y, u] 95)) W →
   w.heap.size + 1 < W.heap.size ∧ Bw w W ∧ W.cell? ⟨w.heap.size, 0, none⟩ = some (.int .i64 x) ∧ W.cell? ⟨w.heap.size, 1, none⟩ = some s ∧ W.cell? ⟨w.heap.size + 1, 0, none⟩ = some (.int .i64 y) ∧ W.cell? ⟨w.heap.size + 1, 1, none⟩ = some u := by
 have b1 := (Blk.new w 95 #[.int .i64 x, s]).alloc (.cells #[.int .i64 y, u] 95)
 have b2 := Blk.new (w.alloc (.cells #[.int .i64 x, s] 95)) 95 #[.int .i64 y, u]
 simp only [World.size_alloc] at b2
 refine ⟨((Bw.refl _).alloc _).alloc _, fun W g => ?_⟩
 have b3 := b1.below g.b b1.lt
 have b4 := b2.below g.b b2.lt
 exact ⟨b4.lt, (((Bw.refl _).alloc _).alloc _).trans g, b3.cell 0, b3.cell 1, b4.cell 0, b4.cell 1⟩
theorem r4inside_step (b a : V) (ha9 : a.size ≤ 1000) (ih : ∀ k ∈ b.ks, InSays k) (fr : Nat) (s1 s2 : Value) (w : World) (hfr : fr + b.size ≤ 1000000) (h1 : KB w w.heap.size s1 a.ks) (h2 : KB w w.heap.size s2 b.ks) :
   Calls Tryz.prog 152 #[.agg #[.int .i64 a.n, s1], .agg #[.int .i64 b.n, s2], .int .i64 (fr : Int)] w (EmbPost w (embT a b) a.size) := by
 obtain ⟨A, n, c, rfl, ln, bn, mn⟩ := h1.form
 obtain ⟨B, m, d, rfl, lm, bm, mm⟩ := h2.form
 unfold maxLen at mm mn
 have HSB : Hid (∀ k, fr + 1 + sizeL (b.ks.take k) ≤ fr + b.size) := Lib.hid (fun k => by have := sizeL_take_le b.ks k; have := b.size_eq; omega)
 have hfr1 : fr ≤ 1000000 := by omega
 have HB1 : Hid (fr + 1 ≤ 1000000) := Lib.hid (by have := b.size_pos; omega)
 have TX := Lib.hid (tbox2 (w := w) (x := a.n) (y := b.n) (s := .slice A n c) (u := .slice B m d))
 have RO : Hid (∀ W, Bw w W → Calls Tryz.prog 170 #[.agg #[.int .i64 a.n, .slice A n c], .agg #[.int .i64 b.n, .slice B m d], .int .i64 (fr : Int)] W (EmbPost W (rootE a b) a.size)) := Lib.hid (fun W g => r4rooted_step b a ha9 ih fr _ _ W hfr (h1.bw g) (h2.bw g))
 have HFR := Lib.hid hfr
 have HA9 := Lib.hid ha9
 have HK1 := Lib.hid h1
 have HK2 := Lib.hid h2
 have LM := Lib.hid lm
 have HIH := Lib.hid ih
 have HRT : Hid (embT a b = (rootE a b || anyT a b.ks)) := Lib.hid (emb_root a b)
 generalize embT a b = res at *
 generalize rootE a b = ro at *
 unfold EmbPost at RO
 clear h1 h2 ih hfr ha9 ln lm
 generalize haz : a.size = az at *
 have HAZ := Lib.hid haz
 generalize hax : a.n = x at *
 have HAX := Lib.hid hax
 generalize b.n = y at *
 clear haz hax
 cases ro with
 | true =>
   have HN : Hid (res = true) := Lib.hid (by rw [HRT.out]; rfl)
   go_enter Tryz.func152, Tryz.ntmps152
   go_wp2_with (go_at_call 170; go_must ((with_reducible refine (RO.out _ TX.out.1).mono ?_); rintro e w6 ⟨rv, pl, rfl, hrv, hpl, hg6⟩; obtain ⟨A6, n6, c6, rfl, l6, m6⟩ := hrv.form'; (have HRV := Lib.hid hrv); (have HPL := Lib.hid hpl); (have HG6 := Lib.hid hg6); clear hg6 hrv hpl l6))
   go_ret2
   exact ⟨_, pl, by rw [HN.out]; rfl, HRV.out, HPL.out, TX.out.1.trans HG6.out⟩
 | false =>
   have HN : Hid (res = anyT a b.ks) := Lib.hid (by rw [HRT.out]; rfl)
   go_enter Tryz.func152, Tryz.ntmps152
   go_wp2_with (go_at_call 170; go_must ((with_reducible refine (RO.out _ TX.out.1).mono ?_); rintro e w6 ⟨rv, pl, rfl, hrv, hpl, hg6⟩; obtain ⟨A6, n6, c6, rfl, l6, m6⟩ := hrv.form'; (have HG6 := Lib.hid hg6); clear hg6 hrv hpl l6))
   go_loopw [10, 11] (fun at_ ii wr => ∃ i p : Nat, i ≤ m ∧ p ≤ 1000000 ∧ ii = .int .i64 i ∧ at_ = .int .i64 p ∧ Hid (Bw ((w.alloc (.cells #[.int .i64 x, .slice A n c] 95)).alloc (.cells #[.int .i64 y, .slice B m d] 95)) wr ∧ p = fr + 1 + sizeL (b.ks.take i) ∧ res = anyT a (b.ks.drop i))) (fun _ ii _ => m - (intOf ii).toNat)
   case atStart => exact ⟨0, fr + 1, by omega, HB1.out, rfl, by go_num, Lib.hid ⟨HG6.out, by simp [sizeL], HN.out⟩⟩
   case round =>
     obtain ⟨i, p, hi9, hp9, rfl, rfl, HRL⟩ := hrel
     obtain ⟨hg, hp, hq⟩ := HRL.out
     obtain ⟨y0, hw, y1, y2, y3, y4⟩ := TX.out.2 wr hg
     by_cases hlt : i < m
     · have e2 : i < b.ks.length := by rw [LM.out]; exact hlt
       obtain ⟨bd, sB, sm, sd, rfl, hbb, r0, r1, slb, hsb⟩ := HK2.out.at_ e2
       have hsb9 : sizeL (b.ks.take (i + 1)) = sizeL (b.ks.take i) + b.ks[i].size := szL_take e2
       have hp3 : p + b.ks[i].size = fr + 1 + sizeL (b.ks.take (i + 1)) := by rw [hsb9, hp]; omega
       have hp4 : p + b.ks[i].size ≤ 1000000 := by have := HSB.out (i + 1); have := HFR.out; omega
       rw [any_step e2] at hq
       have CM : Hid (∀ W, Bw wr W → Calls Tryz.prog 152 #[.agg #[.int .i64 x, .slice A n c], .agg #[.int .i64 b.ks[i].n, .slice sB sm sd], .int .i64 (p : Int)] W (EmbPost W (embT a b.ks[i]) az)) := Lib.hid (fun W g => by
         have := HIH.out _ (List.getElem_mem e2) a (by rw [HAZ.out]; exact HA9.out) p (.slice A n c) (.slice sB sm sd) W hp4 (HK1.out.bw (hw.trans g)) (hsb.bw (hw.trans g))
         rw [HAZ.out] at this
         unfold aggV at this
         rw [HAX.out] at this
         exact this)
       have WK : Hid (∀ W, Bw wr W → Calls Tryz.prog 171 #[.agg #[.int .i64 b.ks[i].n, .slice sB sm sd]] W (WalkPost W b.ks[i].size)) := Lib.hid (fun W g => r4walk_any _ (by omega) _ W (hsb.bw (hw.trans g)))
       unfold WalkPost at WK
       have KS : Hid (∀ w', Bw wr w' → w'.cell? ⟨w.heap.size, 0, none⟩ = some (.int .i64 x) ∧ w'.cell? ⟨w.heap.size, 1, none⟩ = some (.slice A n c) ∧ w'.cell? ⟨w.heap.size + 1, 1, none⟩ = some (.slice (some bd) m d) ∧ w'.cell? (bd.add (i * 2)) = some (.int .i64 b.ks[i].n) ∧ w'.cell? ⟨(bd.add (i * 2)).block, (bd.add (i * 2)).off + 1, none⟩ = some (.slice sB sm sd) ∧ Bw wr w') := Lib.hid (fun w' g =>
         ⟨(g.b.cell (p := ⟨w.heap.size, 0, none⟩) (by dsimp only; omega)).trans y1, (g.b.cell (p := ⟨w.heap.size, 1, none⟩) (by dsimp only; omega)).trans y2, (g.b.cell (p := ⟨w.heap.size + 1, 1, none⟩) y0).trans y4, ((hw.trans g).b.cell (by rw [add_block]; exact hbb)).trans r0, ((hw.trans g).b.cell (by simp only [add_block]; exact hbb)).trans r1, g⟩)
       unfold EmbPost at CM
       have HG := Lib.hid hg
       have HW := Lib.hid hw
       have HP3 := Lib.hid hp3
       have HQ := Lib.hid hq
       clear hg hw hp hq HRL hsb hsb9 hp3 slb r0 r1 hbb
       generalize b.ks[i].n = yk at *
       generalize b.ks[i].size = zb at *
       generalize embT a b.ks[i] = g at *
       go_wp2_with fail
       go_region_held3 (fun w' => w'.cell? ⟨w.heap.size, 0, none⟩ = some (.int .i64 x) ∧ w'.cell? ⟨w.heap.size, 1, none⟩ = some (.slice A n c) ∧ w'.cell? ⟨w.heap.size + 1, 1, none⟩ = some (.slice (some bd) m d) ∧ w'.cell? (bd.add (i * 2)) = some (.int .i64 yk) ∧ w'.cell? ⟨(bd.add (i * 2)).block, (bd.add (i * 2)).off + 1, none⟩ = some (.slice sB sm sd) ∧ Bw wr w') (first | (refine KS.out _ ?_; first | exact (Bw.refl _).drew | exact (Bw.refl _).drew.trans hg6)) (first | (go_at_call 152; (with_reducible refine (CM.out _ (Bw.refl _).drew).mono ?_); rintro e w' ⟨rv, pl, rfl, hrv, hpl, hg6⟩; obtain ⟨A7, n7, c7, rfl, l7, m7⟩ := hrv.form'))
       have HW6 : Hid (Bw wr w') := Lib.hid ((Bw.refl _).drew.trans hg6)
       have HRV := Lib.hid hrv
       have HPL := Lib.hid hpl
       clear hg6 hrv l7 hpl CM
       cases g with
       | true =>
         have HF : Hid (res = true) := Lib.hid (by rw [HQ.out]; rfl)
         go_wp2
         go_ret2
         exact ⟨_, pl, by rw [HF.out]; rfl, HRV.out, HPL.out, HW.out.trans HW6.out⟩
       | false =>
         have HF : Hid (res = anyT a (b.ks.drop (i + 1))) := Lib.hid (by rw [HQ.out]; rfl)
         have KS7 := Lib.hid (KS.out _ HW6.out)
         obtain ⟨k1, k2, k3, k4, k5, -⟩ := KS7.out
         clear KS7
         go_wp2_with (go_at_call 171; go_must (refine (WK.out _ HW6.out).mono ?_; rintro e w8 ⟨A8, c8, ys, rfl, hyl, hc8, hc8', hys, hg8⟩; (have HG8 := Lib.hid hg8); clear hg8 hys hyl))
         go_roundw
         case rel => exact ⟨i + 1, p + zb, by omega, hp4, by go_num, by go_num, Lib.hid ⟨HG.out.trans (HW6.out.trans HG8.out), HP3.out, HF.out⟩⟩
         case measure => simp [intOf]; omega
     · obtain rfl : i = m := by omega
       have HF : Hid (res = false) := Lib.hid (by rw [hq, List.drop_eq_nil_of_le (by rw [LM.out]; omega)]; rfl)
       have HW := Lib.hid hw
       clear hg hw hp hq HRL
       go_wp2
       go_ret2
       exact ⟨.slice none 0 0, [], by rw [HF.out]; rfl, IAt.nil 0 none (by unfold maxLen; omega), by simp, HW.out⟩
theorem r4inside_any (b : V) : InSays b := by
 induction b using V.ind with
 | h y bs ih => exact fun a ha fr s1 s2 w hfr h1 h2 => r4inside_step (.mk y bs) a ha (fun k hk => ih k hk) fr s1 s2 w hfr h1 h2
theorem r4leq_any (a b : V) (ha : TreeOk a) (hb : TreeOk b) (q : Bool) (hq : embT a b = q) (s1 s2 : Value) (w : World) (h1 : KB w w.heap.size s1 a.ks) (h2 : KB w w.heap.size s2 b.ks) :
   Calls Tryz.prog 91 #[.agg #[.int .i64 a.n, s1], .agg #[.int .i64 b.n, s2]] w (BoolPost w q) := by
 obtain ⟨A, n, c, rfl, _, _, _⟩ := h1.form
 obtain ⟨B, m, d, rfl, _, _, _⟩ := h2.form
 have TX := fun w => Lib.hid (tbox2 (w := w) (x := a.n) (y := b.n) (s := .slice A n c) (u := .slice B m d))
 have V1 : Hid (∀ W, Bw w W → Calls Tryz.prog 151 #[.agg #[.int .i64 a.n, .slice A n c]] W (BoolPost W true)) := Lib.hid (fun W g => r4Valid_any a ha _ W (h1.bw g))
 have V2 : Hid (∀ W, Bw w W → Calls Tryz.prog 151 #[.agg #[.int .i64 b.n, .slice B m d]] W (BoolPost W true)) := Lib.hid (fun W g => r4Valid_any b hb _ W (h2.bw g))
 have IN : Hid (∀ W, Bw w W → Calls Tryz.prog 152 #[.agg #[.int .i64 a.n, .slice A n c], .agg #[.int .i64 b.n, .slice B m d], .int .i64 0] W (EmbPost W q a.size)) := Lib.hid (fun W g => by
   rw [← hq]
   exact r4inside_any b a (by have := ha.1; omega) 0 _ _ W (by have := hb.1; omega) (h1.bw g) (h2.bw g))
 clear h1 h2 ha hb hq
 generalize a.n = x at *
 generalize b.n = y at *
 have EM : Hid (∀ W, Bw w W → Calls Tryz.prog 120 #[.agg #[.int .i64 x, .slice A n c], .agg #[.int .i64 y, .slice B m d]] W (EmbPost W q a.size)) := Lib.hid (fun W g => by
   have HG := Lib.hid g
   clear g
   have TW := TX W
   clear TX
   unfold EmbPost at IN
   go_enter Tryz.func120, Tryz.ntmps120
   go_wp2_with (first
     | (go_at_call 151; (with_reducible refine (V1.out _ (HG.out.trans TW.out.1)).mono ?_); rintro e w6 ⟨rfl, hg6⟩; (have HG6 := Lib.hid hg6); (have TY := Lib.hid (TW.out.2 _ HG6.out)); obtain ⟨y0, -, y1, y2, y3, y4⟩ := TY.out; clear hg6 TY)
     | (go_at_call 151; go_must ((with_reducible refine (V2.out _ (HG.out.trans (TW.out.1.trans HG6.out))).mono ?_); rintro e w7 ⟨rfl, hg7⟩; (have HG7 := Lib.hid (HG6.out.trans hg7)); (have TY := Lib.hid (TW.out.2 _ HG7.out)); obtain ⟨x0, -, x1, x2, x3, x4⟩ := TY.out; clear hg7 TY))
     | (go_at_call 152; go_must (refine (IN.out _ (HG.out.trans (TW.out.1.trans HG7.out))).mono ?_; rintro e w8 ⟨rv, pl, rfl, hrv, hpl, hg8⟩; obtain ⟨V8, n8, c8, rfl, l8, m8⟩ := hrv.form'; (have HRV := Lib.hid hrv); (have HPL := Lib.hid hpl); (have HG8 := Lib.hid hg8); clear hg8 hrv hpl l8)))
   go_ret2
   exact ⟨_, pl, rfl, HRV.out, HPL.out, TW.out.1.trans (HG7.out.trans HG8.out)⟩)
 have TW := TX w
 clear V1 V2 IN TX
 have EM2 := Lib.hid (EM.out _ TW.out.1)
 unfold EmbPost at EM2
 go_enter Tryz.func91, Tryz.ntmps91
 go_wp2_with (go_at_call 120; go_must (refine EM2.out.mono ?_; rintro e w8 ⟨rv, pl, rfl, hrv, hpl, hg8⟩; obtain ⟨V8, n8, c8, rfl, l8, m8⟩ := hrv.form'; (have HG8 := Lib.hid hg8); clear hg8 hrv hpl l8))
 go_ret
 exact ⟨rfl, TW.out.1.trans HG8.out⟩
end Go.Proofs.YtbmheekaclmibaaGreat
