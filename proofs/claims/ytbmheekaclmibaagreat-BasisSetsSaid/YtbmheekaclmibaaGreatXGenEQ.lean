/- Part of a proof of basisSets_holds. -/
import Derived.Test.YtbmheekaclmibaaGreatXGenCQ
import Derived.Test.YtbmheekaclmibaaGreatXRefGQ
set_option maxRecDepth 100000
set_option maxHeartbeats 16000000
namespace Go.Proofs.YtbmheekaclmibaaGreat
open Go.RowKit
set_option linter.unusedSimpArgs false
set_option linter.unusedVariables false
theorem dloose_any (b d : Nat) : ∀ (t : T), rightP d t = true → ∀ (m : Nat) (rv pv : Value) (w : World), m ≤ 12 → DeckOk w b → TAt w (TD b w) rv pv t → Calls Tryz.prog 52 #[.pointer (some ⟨b, 0, none⟩), .agg #[.int .i64 t.kind, .int .i64 t.size, rv, pv], .int .i64 m] w (MadePost w b (fun v => loosP d m t v = true)) := by
 induction d with
 | zero => intro t ht; simp [rightP] at ht
 | succ d ih => exact fun t ht m rv pv w hm hd hT => dloose_step b d t ht m hm rv pv w hd hT (fun m' t' rv' pv' W hm' ht' hd' hT' => ih t' ht' m' rv' pv' W hm' hd' hT')
theorem dsort_any (b : Nat) (t : T) (u : V) (rv pv s : Value) (W : World) (hT : TAt W (TD b W) rv pv t) (h : KB W W.heap.size s u.ks) : Calls Tryz.prog 51 #[.agg #[.int .i64 t.kind, .int .i64 t.size, rv, pv], .agg #[.int .i64 u.n, s]] W (SortedPost W (sortedP t u).1 (sortedP t u).2) :=
 r6Sorted_any t u rv pv s W (hT.keep (fun x hx => hx.2) (fun _ _ => rfl)) h _ rfl

theorem box_store {b : Nat} {W1 W : World} {g : Nat} {x : Int} {u0 u1 s : Value} {l : List V} (hb : b < W1.heap.size) (hg : GD b W1 W) (hB : Blk W g 39 #[u0, u1]) (hge : W1.heap.size ≤ g) (hk : KAt W (fun c => W1.heap.size ≤ c ∧ c < W.heap.size ∧ c ≠ g) s l) :
   W1.heap.size ≤ g ∧ Blk ((W.setCell ⟨g, 0, none⟩ (.int .i64 x)).setCell ⟨g, 1, none⟩ s) g 39 #[.int .i64 x, s] ∧ KAt ((W.setCell ⟨g, 0, none⟩ (.int .i64 x)).setCell ⟨g, 1, none⟩ s) (fun c => W1.heap.size ≤ c ∧ c < ((W.setCell ⟨g, 0, none⟩ (.int .i64 x)).setCell ⟨g, 1, none⟩ s).heap.size ∧ c ≠ g) s l ∧ GD b W1 ((W.setCell ⟨g, 0, none⟩ (.int .i64 x)).setCell ⟨g, 1, none⟩ s) := by
 have e1 := grownBy_setCell (p := ⟨g, 1, none⟩) (grownBy_setCell (p := ⟨g, 0, none⟩) (World.grownBy.refl W (some g)) (.inl rfl) (.int .i64 x)) (.inl rfl) s
 refine ⟨hge, blk_set (i := 1) s (blk_set (i := 0) (.int .i64 x) hB), hk.keep (fun c hc => ⟨hc.1, by have := hc.2.1; simp [World.setCell]; exact this, hc.2.2⟩) (fun q hq => ?_), hg.own e1 (fun r e => by injection e with e; omega) hb⟩
 exact World.cell?_of_block (e1.block q.block hq.2.1 (fun e => hq.2.2 (by injection e)))
theorem box_new {b : Nat} {W1 W : World} {x : Int} {s : Value} {l : List V} (hg : GD b W1 W) (hk : KAt W (fun c => W1.heap.size ≤ c ∧ c < W.heap.size) s l) :
   W1.heap.size ≤ W.heap.size ∧ Blk (W.alloc (.cells #[.int .i64 x, s] 39)) W.heap.size 39 #[.int .i64 x, s] ∧ KAt (W.alloc (.cells #[.int .i64 x, s] 39)) (fun c => W1.heap.size ≤ c ∧ c < (W.alloc (.cells #[.int .i64 x, s] 39)).heap.size ∧ c ≠ W.heap.size) s l ∧ GD b W1 (W.alloc (.cells #[.int .i64 x, s] 39)) :=
 ⟨hg.size, Blk.new _ _ _, hk.keep (fun c hc => ⟨hc.1, by have := hc.2; simp; omega, by have := hc.2; omega⟩) (fun p hp => World.cell?_alloc_lt W _ p hp.2), hg.bw ((Bw.refl _).alloc _)⟩
theorem dvalue_any (b : Nat) (t : T) (ht : rightP 8 t = true) (rv pv : Value) (w : World) (hd : DeckOk w b) (hT : TAt w (TD b w) rv pv t) :
   Calls Tryz.prog 21 #[.pointer (some ⟨b, 0, none⟩), .agg #[.int .i64 t.kind, .int .i64 t.size, rv, pv]] w (MadePost w b (fun v => lsz 8 3 t ≤ 128 → validP t v = true)) := by
 have hbl := hd.lt
 obtain ⟨A1, rn, c1, rfl, _, _⟩ := hT.1.form'
 obtain ⟨A2, pn, c2, rfl, lpn, _, _⟩ := hT.2.form
 have HG0 : Hid (GD b w ((w.alloc (.cells #[.int .i64 t.kind, .int .i64 t.size, .slice A1 rn c1, .slice A2 pn c2] 29)).alloc (.cells #[.int .i64 0, .slice none 0 0] 39))) := Lib.hid ((GD.refl hd).bw (((Bw.refl _).alloc _).alloc _))
 have HB := Lib.hid (fun W (h : GD b ((w.alloc (.cells #[.int .i64 t.kind, .int .i64 t.size, .slice A1 rn c1, .slice A2 pn c2] 29)).alloc (.cells #[.int .i64 0, .slice none 0 0] 39)) W) => tvb2 hbl h)
 have CL : Hid (∀ (m : Nat) W, m ≤ 12 → GD b w W → Calls Tryz.prog 52 #[.pointer (some ⟨b, 0, none⟩), .agg #[.int .i64 t.kind, .int .i64 t.size, .slice A1 rn c1, .slice A2 pn c2], .int .i64 m] W (MadePost W b (fun v => loosP 8 m t v = true))) := Lib.hid (fun m W hm g => dloose_any b 8 t ht m _ _ W hm g.2 (hT.td g))
 have CL3 : Hid (∀ W, GD b w W → Calls Tryz.prog 52 #[.pointer (some ⟨b, 0, none⟩), .agg #[.int .i64 t.kind, .int .i64 t.size, .slice A1 rn c1, .slice A2 pn c2], .int .i64 3] W (MadePost W b (fun v => loosP 8 3 t v = true))) := Lib.hid (fun W g => CL.out 3 W (by omega) g)
 have CL0 : Hid (∀ W, GD b w W → Calls Tryz.prog 52 #[.pointer (some ⟨b, 0, none⟩), .agg #[.int .i64 t.kind, .int .i64 t.size, .slice A1 rn c1, .slice A2 pn c2], .int .i64 0] W (MadePost W b (fun v => loosP 8 0 t v = true))) := Lib.hid (fun W g => CL.out 0 W (by omega) g)
 have CS : Hid (∀ (u : V) s W, GD b w W → KB W W.heap.size s u.ks → Calls Tryz.prog 51 #[.agg #[.int .i64 t.kind, .int .i64 t.size, .slice A1 rn c1, .slice A2 pn c2], .agg #[.int .i64 u.n, s]] W (SortedPost W (sortedP t u).1 (sortedP t u).2)) := Lib.hid (fun u s W g h => dsort_any b t u _ _ s W (hT.td g) h)
 have CV : Hid (∀ (u : V) s W, GD b w W → KB W W.heap.size s u.ks → Calls Tryz.prog 53 #[.agg #[.int .i64 t.kind, .int .i64 t.size, .slice A1 rn c1, .slice A2 pn c2], .agg #[.int .i64 u.n, s]] W (BoolPost W (validP t u))) := Lib.hid (fun u s W g h => r6Valid_any t u _ _ _ W ((hT.td g).keep (fun x hx => hx.2) (fun _ _ => rfl)) h _ rfl)
 have HLS : Hid (∀ u, loosP 8 3 t u = true → lsz 8 3 t ≤ 128 → sortedP t u = (srtP 8 t u, 0) ∧ validP t (srtP 8 t u) = true) := Lib.hid (fun u h h2 => loose_sorted (by omega) ht h2 h)
 clear hd hT
 unfold MadePost
 have hP : Hid (∀ u, (lsz 8 3 t ≤ 128 → validP t u = true) → (lsz 8 3 t ≤ 128 → validP t u = true)) := Lib.hid (fun u h => h)
 unfold MadePost at CL CL3 CL0
 unfold SortedPost at CS
 generalize hz : t.size = z at *
 generalize hkd : t.kind = kd at *
 clear hz hkd
 have B0 := HB.out _ (GD.refl HG0.out.2)
 have q0 := B0.2.1.cell 0
 have q1 := B0.2.1.cell 1
 have q2 := B0.2.1.cell 2
 have q3 := B0.2.1.cell 3
 clear B0
 go_enter Tryz.func21, Tryz.ntmps21
 go_upto_region 1 with fail
 generalize (w.alloc (.cells #[.int .i64 kd, .int .i64 z, .slice A1 rn c1, .slice A2 pn c2] 29)).alloc (.cells #[.int .i64 0, .slice none 0 0] 39) = W1 at *
 go_cut [5, 6] (fun s5 s6 wx => ∃ (g : Nat) (er : Int) (u : V) (s : Value), s5 = .pointer (some ⟨g, 0, none⟩) ∧ s6 = .int .i64 er ∧ Hid (loosP 8 3 t u = true ∧ W1.heap.size ≤ g ∧ Blk wx g 39 #[.int .i64 (sortedP t u).1.n, s] ∧ KAt wx (fun c => W1.heap.size ≤ c ∧ c < wx.heap.size ∧ c ≠ g) s (sortedP t u).1.ks ∧ GD b W1 wx))
 case first =>
   have HX0 : Hid (GD b W1 W1.drew) := Lib.hid (GD.refl HG0.out.2).drew
   have HX1 : Hid (GD b W1 (W1.alloc (.cells #[.int .i64 0, .slice none 0 0] 39)).drew) := Lib.hid ((GD.refl HG0.out.2).bw ((Bw.refl _).alloc _).drew)
   have QA := (fun o => (HB.out _ ((GD.refl HG0.out.2).bw ((Bw.refl _).alloc o))).2.1)
   have qa0 := (fun o => (QA o).cell 0)
   have qa1 := (fun o => (QA o).cell 1)
   have qa2 := (fun o => (QA o).cell 2)
   have qa3 := (fun o => (QA o).cell 3)
   clear QA
   have hbl1 : b < W1.heap.size := Nat.lt_of_lt_of_le hbl HG0.out.size
   go_region_law (first
     | (go_simp; go_at_call 52; have hq := CL3.out W1.drew (HG0.out.trans HX0.out); with_reducible refine hq.mono ?_; clear hq; rintro e w6 ⟨u, s6, rfl, hv6, hk6, hg6⟩; obtain ⟨A6, n6, c6, rfl, -, -, -⟩ := hk6.form; have HU := Lib.hid hv6; have HG6 := Lib.hid (HX0.out.trans hg6); have HK6 := Lib.hid (hk6.keep (S' := fun x => x < w6.heap.size) (fun x hx => hx.2) (fun _ _ => rfl)); have hsz6 := HG6.out.size; have yb := (HB.out _ HG6.out).2.1; have y0 := yb.cell 0; have y1 := yb.cell 1; have y2 := yb.cell 2; have y3 := yb.cell 3; have YA := (fun o => (HB.out _ (HG6.out.bw ((Bw.refl _).alloc o))).2.1); have ya0 := (fun o => (YA o).cell 0); have ya1 := (fun o => (YA o).cell 1); have ya2 := (fun o => (YA o).cell 2); have ya3 := (fun o => (YA o).cell 3); clear YA; clear hv6 hk6 hg6 yb)
     | (go_simp; go_at_call 52; have hq := CL3.out _ (HG0.out.trans HX1.out); with_reducible refine hq.mono ?_; clear hq; rintro e w6 ⟨u, s6, rfl, hv6, hk6, hg6⟩; obtain ⟨A6, n6, c6, rfl, -, -, -⟩ := hk6.form; have HU := Lib.hid hv6; have HG6 := Lib.hid (HX1.out.trans hg6); have HK6 := Lib.hid (hk6.keep (S' := fun x => x < w6.heap.size) (fun x hx => hx.2) (fun _ _ => rfl)); have hsz6 := HG6.out.size; have yb := (HB.out _ HG6.out).2.1; have y0 := yb.cell 0; have y1 := yb.cell 1; have y2 := yb.cell 2; have y3 := yb.cell 3; have YA := (fun o => (HB.out _ (HG6.out.bw ((Bw.refl _).alloc o))).2.1); have ya0 := (fun o => (YA o).cell 0); have ya1 := (fun o => (YA o).cell 1); have ya2 := (fun o => (YA o).cell 2); have ya3 := (fun o => (YA o).cell 3); clear YA; have hbx6 := (hg6.blk ((Blk.new W1 39 #[.int .i64 0, .slice none 0 0]).drew) (by omega)); have l6 := hbx6.lt; have HBX := Lib.hid hbx6; clear hbx6; clear hv6 hk6 hg6 yb)
     | (go_simp; go_at_call 51; have hq := CS.out u _ w6 (HG0.out.trans HG6.out) HK6.out; with_reducible refine hq.mono ?_; clear hq; rintro e w8 ⟨s8, rfl, hk8, hg8⟩; obtain ⟨A8, n8, c8, rfl, -, -, -⟩ := hk8.form; have HG8 := Lib.hid (HG6.out.bw hg8); have HK8 := Lib.hid hk8; have hsz8 := hg8.b.size; try (have hbx := HBX.out.below hg8.b HBX.out.lt; have e0 := hbx.cell 0; have e1 := hbx.cell 1; have f0 := hbx.frozen 0; have f1 := hbx.frozen 1; have HBX8 := Lib.hid hbx; have l8 := hbx.lt; clear hbx); clear hk8 hg8)
     | (go_simp; go_at_call 51; have hq := CS.out u _ (w6.alloc (.cells #[.int .i64 0, .slice none 0 0] 39)) (HG0.out.trans (HG6.out.bw ((Bw.refl _).alloc _))) (KAt.bw HK6.out ((Bw.refl _).alloc _)); with_reducible refine hq.mono ?_; clear hq; rintro e w8 ⟨s8, rfl, hk8, hg8⟩; obtain ⟨A8, n8, c8, rfl, -, -, -⟩ := hk8.form; have HG8 := Lib.hid ((HG6.out.bw ((Bw.refl _).alloc _)).bw hg8); have HK8 := Lib.hid hk8; have hsz8 := hg8.b.size; have hbx := (Blk.new w6 39 #[.int .i64 0, .slice none 0 0]).below hg8.b (by simp); have e0 := hbx.cell 0; have e1 := hbx.cell 1; have f0 := hbx.frozen 0; have f1 := hbx.frozen 1; have HBX8 := Lib.hid hbx; have l8 := hbx.lt; clear hbx hk8 hg8))
   all_goals
     go_wp2_with fail
     go_meet
     first
       | exact ⟨_, _, u, _, rfl, rfl, Lib.hid ⟨HU.out, box_store hbl1 HG8.out HBX8.out (by omega) (HK8.out.keep (fun c hc => ⟨by have h1 := hc.1; first | omega | (simp at h1; omega), hc.2, by have h1 := hc.1; first | omega | (simp at h1; omega)⟩) (fun _ _ => rfl))⟩⟩
       | exact ⟨_, _, u, _, rfl, rfl, Lib.hid ⟨HU.out, box_new HG8.out (HK8.out.keep (fun c hc => ⟨by have h1 := hc.1; omega, hc.2⟩) (fun _ _ => rfl))⟩⟩
 case rest =>
   obtain ⟨g, er, u, s, rfl, rfl, HC⟩ := hcut
   obtain ⟨hu, hge, hgb, hk, hg⟩ := HC.out
   obtain ⟨A8, n8, c8, rfl, -, -, -⟩ := hk.form
   obtain ⟨y1, y2, y3⟩ := HB.out _ hg
   have hs1 := (HB.out _ (GD.refl HG0.out.2)).1
   have x0 := y2.cell 0
   have x1 := y2.cell 1
   have x2 := y2.cell 2
   have x3 := y2.cell 3
   have g0 := hgb.cell 0
   have g1 := hgb.cell 1
   have CVC := Lib.hid (CV.out (sortedP t u).1 _ wc (HG0.out.trans hg) (hk.keep (fun x hx => hx.2.1) (fun _ _ => rfl)))
   have HVV : Hid (lsz 8 3 t ≤ 128 → validP t (sortedP t u).1 = true) := Lib.hid (fun h => by
     have := HLS.out u hu h
     rw [this.1]; exact this.2)
   have HK := Lib.hid hk
   have HG := Lib.hid hg
   have HGB := Lib.hid hgb
   clear HC hu hk hg y2 y3 hgb
   generalize (sortedP t u).1 = v at *
   rcases hv : validP t v with _ | _
   · rw [hv] at CVC
     have hns : Hid (¬ lsz 8 3 t ≤ 128) := Lib.hid (fun h => by have := HVV.out h; rw [hv] at this; exact absurd this (by simp))
     clear HVV
     go_wp2_with fail
     refine CVC.out.mono ?_
     rintro e w6 ⟨rfl, hg6⟩
     have hG6 := HG.out.bw hg6
     obtain ⟨y1, y2, y3⟩ := HB.out _ hG6
     have u0 := y2.cell 0
     have u1 := y2.cell 1
     have u2 := y2.cell 2
     have u3 := y2.cell 3
     have HGB6 := Lib.hid (HGB.out.below hg6.b HGB.out.lt)
     have HD6 : Hid (GD b W1 w6.drew) := Lib.hid hG6.drew
     have hbl1 : b < W1.heap.size := Nat.lt_of_lt_of_le hbl HG0.out.size
     clear hG6 y2 y3 hg6 HG HK HGB CVC
     go_wp2_with fail
     go_region_law (first
       | (go_simp; go_at_call 52; have hq := CL0.out w6.drew (HG0.out.trans HD6.out); with_reducible refine hq.mono ?_; clear hq; rintro e w7 ⟨u', s7, rfl, hv7, hk7, hg7⟩; obtain ⟨A7, n7, c7, rfl, -, -, -⟩ := hk7.form; have HG7 := Lib.hid (HD6.out.trans hg7); have HK7 := Lib.hid (hk7.keep (S' := fun x => x < w7.heap.size) (fun x hx => hx.2) (fun _ _ => rfl)); have yb := (HB.out _ HG7.out).2.1; have z0 := yb.cell 0; have z1 := yb.cell 1; have z2 := yb.cell 2; have z3 := yb.cell 3; have HGB7 := Lib.hid (hg7.blk HGB6.out.drew (by omega)); have l7 := HGB7.out.lt; clear hv7 hk7 hg7 yb)
       | (go_simp; go_at_call 51; have hq := CS.out u' _ w7 (HG0.out.trans HG7.out) HK7.out; with_reducible refine hq.mono ?_; clear hq; rintro e w8 ⟨s8, rfl, hk8, hg8⟩; obtain ⟨A9, n9, c9, rfl, -, -, -⟩ := hk8.form; have HG8 := Lib.hid (HG7.out.bw hg8); have HK8 := Lib.hid hk8; have hb8 := HGB7.out.below hg8.b HGB7.out.lt; have e0 := hb8.cell 0; have e1 := hb8.cell 1; have i0 := hb8.frozen 0; have i1 := hb8.frozen 1; have HB8 := Lib.hid hb8; have l8 := hb8.lt; clear hb8 hk8 hg8))
     all_goals
       have hst := box_store (x := (sortedP t u').1.n) hbl1 HG8.out HB8.out hge (HK8.out.keep (S' := fun c => W1.heap.size ≤ c ∧ c < w8.heap.size ∧ c ≠ g) (fun c hc => ⟨by have h1 := hc.1; omega, hc.2, by have h1 := hc.1; omega⟩) (fun _ _ => rfl))
       obtain ⟨-, ha, hka, hga⟩ := hst
       have a0 := ha.cell 0
       have a1 := ha.cell 1
       have yb := (HB.out _ hga).2.2
       have b0 := yb.cell 0
       have b1 := yb.cell 1
       have f0 := yb.frozen 0
       have f1 := yb.frozen 1
       have HBB := Lib.hid (blk_set (i := 1) (.slice A9 n9 c9) (blk_set (i := 0) (.int .i64 (sortedP t u').1.n) yb))
       have HGA := Lib.hid hga
       have HKA := Lib.hid hka
       clear ha hka hga yb
       go_wp2
       refine bodyPost_ret (results_cell_row (p := 4) (ty := 39) rfl _ _ (w.heap.size + 1) 39 _ (0, 0) _ rfl HBB.out Tryz.underlying39 rfl (by kernel_rfl)) rfl ?_
       have := out5 (x := (sortedP t u').1.n) (s := .slice A9 n9 c9) (l := (sortedP t u').1.ks) hbl (HG0.out.trans HGA.out) (HKA.out.keep (fun c hc => ⟨by have := hc.1; omega, hc.2.1⟩) (fun _ _ => rfl))
       exact ⟨(sortedP t u').1, _, rfl, fun h => absurd h hns.out, this.1, this.2⟩
   · rw [hv] at CVC
     go_wp2_with fail
     refine CVC.out.mono ?_
     rintro e w6 ⟨rfl, hg6⟩
     have hG6 := HG.out.bw hg6
     obtain ⟨y1, y2, y3⟩ := HB.out _ hG6
     have hb6 := HGB.out.below hg6.b HGB.out.lt
     have a0 := hb6.cell 0
     have a1 := hb6.cell 1
     have b0 := y3.cell 0
     have b1 := y3.cell 1
     have f0 := y3.frozen 0
     have f1 := y3.frozen 1
     have HBB := Lib.hid (blk_set (i := 1) (.slice A8 n8 c8) (blk_set (i := 0) (.int .i64 v.n) y3))
     have HG6 := Lib.hid (HG0.out.trans hG6)
     have HK6 := Lib.hid (HK.out.keep (w' := w6) (S' := fun c => w.heap.size + 1 + 1 ≤ c ∧ c < w6.heap.size) (fun c hc => ⟨by have := hc.1; omega, Nat.lt_of_lt_of_le hc.2.1 hg6.size⟩) (fun p hp => hg6.b.cell hp.2.1))
     clear hG6 y2 y3 hb6 hg6
     go_wp2
     refine bodyPost_ret (results_cell_row (p := 4) (ty := 39) rfl _ _ (w.heap.size + 1) 39 _ (0, 0) _ rfl HBB.out Tryz.underlying39 rfl (by kernel_rfl)) rfl ?_
     have := out5 (x := v.n) (s := .slice A8 n8 c8) (l := v.ks) hbl HG6.out HK6.out
     exact ⟨v, _, rfl, fun _ => hv, this.1, this.2⟩
end Go.Proofs.YtbmheekaclmibaaGreat
namespace Go.Proofs.YtbmheekaclmibaaGreat
open Go.RowKit
section
variable {P : Program} {ops : Array Oper} {Q : Exit → Act → World → Prop} {md : Region.Mode}
theorem count_set_false : ∀ (l : List Bool) (i : Nat) (h : i < l.length), l[i] = false → ((l.set i true).filter fun b => !b).length + 1 = (l.filter fun b => !b).length
 | [], i, h, _ => by simp at h
 | b :: r, 0, h, e => by simp at e; subst e; simp
 | b :: r, i + 1, h, e => by
   have := count_set_false r i (by simpa using h) (by simpa using e)
   cases b <;> simp at this ⊢ <;> omega
def leftN (l : Array Bool) : Nat := (l.toList.filter fun b => !b).length
theorem wpAny_inv (I : Array Bool → Act → World → Prop)
   (hs : ∀ l a w, I l a w → ∀ i ∈ Region.ready md ops l, wpOp P ops Q i (fun a' w' => I (l.setIfInBounds i true) a' w') a w)
   (hd : ∀ l a w, I l a w → Region.ready md ops l = [] → Q .normal a w) : ∀ (fuel : Nat) (l : Array Bool) (a : Act) (w : World), l.size = ops.size → leftN l ≤ fuel → I l a w → wpAny P md ops Q fuel l a w := by
 intro fuel
 induction fuel with
 | zero =>
   intro l a w hz hl h
   have hr : Region.ready md ops l = [] := by
     rcases e : Region.ready md ops l with _ | ⟨i, r⟩
     · rfl
     · exfalso
       have hi : i ∈ Region.ready md ops l := by rw [e]; simp
       have h1 := (mem_ready.1 hi).1
       have hlt : i < l.size := by
         rcases Nat.lt_or_ge i l.size with h2 | h2
         · exact h2
         · simp [Array.getElem?_eq_none h2] at h1
       have h2 : l.toList[i]'(by simpa using hlt) = false := by simpa [hlt] using h1
       have h3 := count_set_false l.toList i (by simpa using hlt) h2
       unfold leftN at hl
       omega
   exact ⟨hr, hd l a w h hr⟩
 | succ fuel ih =>
   intro l a w hz hl h
   refine ⟨fun hr => hd l a w h hr, fun i hi => ?_⟩
   have h1 := (mem_ready.1 hi).1
   have hlt : i < l.size := by
     rcases Nat.lt_or_ge i l.size with h2 | h2
     · exact h2
     · simp [Array.getElem?_eq_none h2] at h1
   have h2 : l.toList[i]'(by simpa using hlt) = false := by simpa [hlt] using h1
   have h3 := count_set_false l.toList i (by simpa using hlt) h2
   refine wpOp_mono (fun a' w' h' => ih _ a' w' (by simpa using hz) ?_ h') (hs l a w h i hi)
   unfold leftN at hl ⊢
   rw [Array.toList_setIfInBounds]
   omega
theorem wp_region_inv {id : Nat} {a : Act} {w : World} (hm : P.follows .mixedOrders = true) (I : Array Bool → Act → World → Prop)
   (hs : ∀ l a w, I l a w → ∀ i ∈ Region.ready .any ops l, wpOp P ops Q i (fun a' w' => I (l.setIfInBounds i true) a' w') a w)
   (hd : ∀ l a w, I l a w → Region.ready .any ops l = [] → Q .normal a w)
   (h0 : I (Array.replicate ops.size false) a w.drew) : (Code.region id ops true).wp P Q a w :=
 wp_region_any hm (wpAny_inv I hs hd _ _ _ _ (by simp) (by unfold leftN; simp) h0)
theorem wpOp_of {i : Nat} {o : Oper} {a : Act} {w : World} {K : Act → World → Prop} (hi : ops[i]? = some o) (hg : o.guard = none) (h : o.wp P a w K Q) : wpOp P ops Q i K a w := by
 unfold wpOp
 simp only [hi]
 rw [if_pos (by simp [Region.wanted, hg])]
 exact .inl h
end
set_option linter.unusedSimpArgs false
set_option linter.unusedVariables false
variable {K : Act → World → Prop} {Q : Exit → Act → World → Prop} {a : Act} {w : World} {d x y : Nat} {ty : TypeId} {pos : String} {af : Array Edge}
end Go.Proofs.YtbmheekaclmibaaGreat
namespace Go.Proofs.YtbmheekaclmibaaGreat
open Go.RowKit
set_option linter.unusedSimpArgs false
set_option linter.unusedVariables false
def ManyPost (w : World) (b most : Nat) (P : V → Prop) (e : Ending) (w' : World) : Prop := ∃ l s, e = .returned s ∧ l.length ≤ most ∧ (∀ v ∈ l, P v) ∧ KAt w' (FB w w') s l ∧ GD b w w'
structure ManyI (b : Nat) (W w : World) (kd z : Int) (r p sv : Value) (l : List V) (ss : List Value) : Prop where
 box : Blk W w.heap.size 29 #[.int .i64 kd, .int .i64 z, r, p]
 row : VRow W 39 (w.heap.size + 1) (w.heap.size + 1) sv l ss
 gd : GD b w W
section
variable {b : Nat} {W W' w w7 : World} {kd z : Int} {r p sv v7 : Value} {l : List V} {ss : List Value}
theorem ManyI.keep (h : ManyI b W w kd z r p sv l ss) (hb : b < w.heap.size) (g : GD b W W') : ManyI b W' w kd z r p sv l ss :=
 ⟨g.blk h.box (by omega), h.row.keep g.1 (fun r e => by
   injection e with e; subst e
   exact ⟨fun e => by have := (h.row.own.lt _ e).1; omega, by omega⟩), h.gd.trans g⟩
theorem ManyI.push (h : ManyI b W w kd z r p sv l ss) (hb : b < w.heap.size) {y : V} {s : Value}
   (hs : KAt W (fun c => w.heap.size + 1 ≤ c ∧ c < W.heap.size ∧ sv.ownBlock ≠ some c) s y.ks) (hown : w7.ownsRow (w.heap.size + 1) 39 2 v7 (l.length + 1) (vCells l ss ++ [.int .i64 y.n, s])) (hg : W.grownBy w7 sv.ownBlock) (hv : v7.ownBlock = sv.ownBlock ∨ v7.ownBlock = some W.heap.size) :
   ManyI b w7 w kd z r p v7 (l ++ [y]) (ss ++ [s]) := by
 have hr : ∀ r, sv.ownBlock = some r → w.heap.size + 1 ≤ r := fun r e => (h.row.own.lt r e).1
 exact ⟨h.box.grown hg (fun e => by have := hr _ e.symm; omega), h.row.push hs hown hg hv, h.gd.own hg (fun r e => by have := hr r e; omega) hb⟩
end
theorem ManyI.start {b : Nat} {w : World} {kd z : Int} {r p : Value} (hd : DeckOk w b) : ManyI b (w.alloc (.cells #[.int .i64 kd, .int .i64 z, r, p] 29)) w kd z r p (.slice none 0 0) [] [] :=
 ⟨Blk.new _ _ _, VRow.nil _ _ _ _, (GD.refl hd).bw ((Bw.refl _).alloc _)⟩
theorem dvalues_any (b : Nat) (t : T) (ht : rightP 8 t = true) (most : Nat) (hm : most ≤ 90) (rv pv : Value) (w : World) (hd : DeckOk w b) (hT : TAt w (TD b w) rv pv t) :
   Calls Tryz.prog 13 #[.pointer (some ⟨b, 0, none⟩), .agg #[.int .i64 t.kind, .int .i64 t.size, rv, pv], .int .i64 most] w (ManyPost w b most (fun v => lsz 8 3 t ≤ 128 → validP t v = true)) := by
 have hbl := hd.lt
 obtain ⟨A1, rn, c1, rfl, _, _⟩ := hT.1.form'
 obtain ⟨A2, pn, c2, rfl, lpn, _, _⟩ := hT.2.form
 have HST := Lib.hid (ManyI.start (w := w) (kd := t.kind) (z := t.size) (r := .slice A1 rn c1) (p := .slice A2 pn c2) hd)
 have CV : Hid (∀ W, GD b w W → Calls Tryz.prog 21 #[.pointer (some ⟨b, 0, none⟩), .agg #[.int .i64 t.kind, .int .i64 t.size, .slice A1 rn c1, .slice A2 pn c2]] W (MadePost W b (fun v => lsz 8 3 t ≤ 128 → validP t v = true))) := Lib.hid (fun W g => dvalue_any b t ht _ _ W g.2 (hT.td g))
 have CN := Lib.hid (fun W (h : DeckOk W b) => next_any W b h ((most : Int) + 1) (by omega) (by omega))
 clear hd hT ht
 unfold ManyPost
 unfold MadePost at CV
 generalize hP : (fun v => lsz 8 3 t ≤ 128 → validP t v = true) = P at *
 generalize t.size = z at *
 generalize t.kind = kd at *
 obtain ⟨i0, hi, hz0, hz1, hz2⟩ := info_parts infoVal
 have B0 := HST.out.box
 have b0 := B0.cell 0
 clear B0
 go_enter Tryz.func13, Tryz.ntmps13
 go_wp2_with fail
 have CN3 := Lib.hid (CN.out _ HST.out.gd.2)
 refine CN3.out.mono ?_
 rintro e w6 ⟨r, rfl, hr0, hr1, hd6, hg6⟩
 have HST6 := Lib.hid (HST.out.keep hbl ⟨hg6, hd6⟩)
 obtain ⟨m0, rfl⟩ : ∃ m0 : Nat, r = (m0 : Int) := ⟨r.toNat, by omega⟩
 have hm0 : m0 ≤ most := by omega
 clear hr0 hr1 hd6 hg6 HST CN3 CN
 go_wp2_with fail
 go_loopw [7, 8] (fun s7 i wr => ∃ k : Nat, k ≤ most ∧ i = .int .i64 k ∧ Hid (∃ l ss, ManyI b wr w kd z (.slice A1 rn c1) (.slice A2 pn c2) s7 l ss ∧ l.length + k ≤ most ∧ ∀ v ∈ l, P v)) (fun _ i _ => (intOf i).toNat)
 case atStart => exact ⟨m0, hm0, by go_num, Lib.hid ⟨[], [], HST6.out, by simpa using hm0, by simp⟩⟩
 case round =>
   obtain ⟨k, hk, rfl, HR⟩ := hrel
   obtain ⟨l, ss, hI, hl, ho⟩ := HR.out
   have HI0 := Lib.hid hI
   have HO := Lib.hid ho
   obtain ⟨VA, vc, rfl, vb1, vb2⟩ := hI.row.form
   have HL := Lib.hid hl
   have hlb : l.length ≤ 90 := by omega
   by_cases hk0 : 0 < k
   · have lb := hI.box.lt
     have q0 := hI.box.cell 0
     have q1 := hI.box.cell 1
     have q2 := hI.box.cell 2
     have q3 := hI.box.cell 3
     have CVW := Lib.hid (CV.out wr hI.gd)
     clear HR hl hI ho
     go_wp2_with (first
       | (go_at_call 21; go_must (refine CVW.out.mono ?_; rintro e w9 ⟨y, s9, rfl, hy9, hk9, hg9⟩; obtain ⟨A9, n9, c9, rfl, ln9, _, _⟩ := hk9.form; obtain ⟨yn, hyn⟩ : (∃ yn, y.n = yn) := ⟨_, rfl⟩; rw [hyn]; (have HYN := Lib.hid hyn); (have HY9 := Lib.hid hy9); (have HK9 := Lib.hid hk9); (have HI9 := Lib.hid (HI0.out.keep hbl hg9)); (have HG9 := Lib.hid hg9); have hs9 := hg9.size; clear hyn hy9 hk9 hg9 ln9))
       | (at_builtin; go_must (refine wpList_append_any _ rfl _ _ 31 rfl (w.heap.size + 1) 39 i0 _ 2 32 Tryz.underlying31 hi hz0 hz1 hz2 rfl (by decide) (.slice VA l.length vc) l.length (vCells l ss) rfl (HI9.out.row.own.alloc (.cells #[.int .i64 yn, .slice A9 n9 c9] 39)) (w9.heap.size + 1) (some ⟨w9.heap.size, 0, none⟩) 1 1 [.int .i64 yn, .slice A9 n9 c9] rfl (reads_new2 w9 _ _ _) (one2 _ _ _ _) (by unfold maxLen; omega) (by omega) (by simp; omega) ?_; intro v7 w7 hown7 hgr7 hl7; obtain ⟨A7, c7, rfl⟩ := own_form hown7; (have HO7 := Lib.hid hown7); (have HG7 := Lib.hid hgr7); (have HL7 := Lib.hid hl7); clear hown7 hgr7 hl7)))
     go_roundw
     case rel =>
       refine ⟨k - 1, by omega, by go_num, Lib.hid ⟨l ++ [y], ss ++ [.slice A9 n9 c9], ?_, by have := HL.out; simp; omega, fun x hx => ?_⟩⟩
       · have hI9 := HI9.out
         have g1 : GD b w9 (w9.alloc (.cells #[.int .i64 yn, .slice A9 n9 c9] 39)) := (GD.refl hI9.gd.2).bw ((Bw.refl _).alloc _)
         refine (hI9.keep hbl g1).push hbl (y := y) (s := .slice A9 n9 c9) ?_ (by rw [HYN.out]; exact HO7.out) HG7.out HL7.out
         refine HK9.out.keep (fun c hc => ⟨by have := hc.1; have := HI0.out.box.lt; omega, by simp; have := hc.2; omega, fun e => ?_⟩) (fun p hp => World.cell?_alloc_lt w9 _ p hp.2)
         have h3 := (HI0.out.row.own.lt c e).2
         have := hc.1
         omega
       · rcases List.mem_append.1 hx with hx | hx
         · exact HO.out x hx
         · obtain rfl := List.mem_singleton.1 hx
           exact HY9.out
     case measure => simp [intOf]; omega
   · obtain rfl : k = 0 := by omega
     clear hI ho HR hl
     go_wp2
     go_ret
     exact ⟨l, _, rfl, by have := HL.out; omega, HO.out, (HI0.out.row.kat (Nat.le_refl _)).keep (fun c hc => ⟨by have := hc.1; omega, hc.2⟩) (fun _ _ => rfl), HI0.out.gd⟩
def IntsArg (w : World) (A : Option Addr) (n : Nat) : Prop := ∃ zs : List Int, ∀ k, k < n → ∃ ad : Addr, A = some ad ∧ ad.block < w.heap.size ∧ w.cell? (ad.add k) = some (.int .i64 (zs.getD k 0))
theorem new_arg (w W : World) (A : Option Addr) (n c : Nat) (hn : n ≤ 400) (h : IntsArg w A n) (g : Bw w W) : Calls Tryz.prog 11 #[.slice A n c] W (NewPost W) := by
 obtain ⟨zs, hz⟩ := h
 refine new_any W A n c zs hn (fun k hk => ?_)
 obtain ⟨ad, e, hl, hc⟩ := hz k hk
 exact ⟨ad, e, Nat.lt_of_lt_of_le hl g.size, (g.b.cell (by rw [add_block]; exact hl)).trans hc⟩
def Dealt1 (w : World) (b : Nat) (t : T) (e : Ending) (w' : World) : Prop := ∃ v A n c, e = .returned (.agg #[.int .i64 v.n, .slice A n c]) ∧ validP t v = true ∧ KAt w' (TD b w') (.slice A n c) v.ks ∧ GD b w w'
theorem dealt1_any (w : World) (b : Nat) (t : T) (ht : rightP 8 t = true) (hs : lsz 8 3 t ≤ 128) (rv pv : Value) (hd : DeckOk w b) (hT : TAt w (TD b w) rv pv t) :
   Calls Tryz.prog 21 #[.pointer (some ⟨b, 0, none⟩), .agg #[.int .i64 t.kind, .int .i64 t.size, rv, pv]] w (Dealt1 w b t) := by
 have hb := hd.lt
 refine (dvalue_any b t ht rv pv w hd hT).mono ?_
 rintro e w' ⟨v, s, rfl, h1, h2, h3⟩
 obtain ⟨A, n, c, rfl, -, -, -⟩ := h2.form
 exact ⟨v, A, n, c, rfl, h1 hs, h2.keep (fun x hx => ⟨by have := hx.1; omega, hx.2⟩) (fun _ _ => rfl), h3⟩
theorem KAt.td {b : Nat} {w w' : World} {v : Value} {l : List V} (h : KAt w (TD b w) v l) (g : GD b w w') : KAt w' (TD b w') v l := h.keep (fun x hx => ⟨hx.1, Nat.lt_of_lt_of_le hx.2 g.size⟩) (fun q hq => g.cell hq.2 hq.1)
theorem KAt.kb_ {b : Nat} {w : World} {v : Value} {l : List V} (h : KAt w (TD b w) v l) : KB w w.heap.size v l := h.keep (fun x hx => hx.2) (fun _ _ => rfl)
def DealtV (w : World) (b most : Nat) (t : T) (e : Ending) (w' : World) : Prop := ∃ l A n c, e = .returned (.slice A n c) ∧ l.length = n ∧ n ≤ most ∧ (∀ v ∈ l, validP t v = true) ∧ KB w' w'.heap.size (.slice A n c) l ∧ GD b w w'
theorem dealtV_any (w : World) (b most : Nat) (mi : Int) (hmi : mi = (most : Int)) (hm : most ≤ 90) (t : T) (ht : rightP 8 t = true) (hs : lsz 8 3 t ≤ 128) (rv pv : Value) (hd : DeckOk w b) (hT : TAt w (TD b w) rv pv t) :
   Calls Tryz.prog 13 #[.pointer (some ⟨b, 0, none⟩), .agg #[.int .i64 t.kind, .int .i64 t.size, rv, pv], .int .i64 mi] w (DealtV w b most t) := by
 subst hmi
 refine (dvalues_any b t ht most hm rv pv w hd hT).mono ?_
 rintro e w' ⟨l, s, rfl, hl, hv, hk, hg⟩
 obtain ⟨A, n, c, rfl, ln, _, _⟩ := hk.form
 exact ⟨l, A, n, c, rfl, ln, by omega, fun v h => hv v h hs, hk.keep (fun x hx => hx.2) (fun _ _ => rfl), hg⟩
theorem put_getD {a : Act} {d0 d : Nat} {v : Value} (h : d0 < a.tmps.size) : (a.put (some d0) v).tmps[d]?.getD undef = if d = d0 then v else a.tmps[d]?.getD undef := by
 show (a.tmps.setIfInBounds d0 v)[d]?.getD undef = _
 by_cases e : d = d0
 · subst e; rw [if_pos rfl]; simp [h]
 · rw [if_neg e, Array.getElem?_setIfInBounds_ne (fun x => e x.symm)]
theorem put_size {a : Act} {d0 : Nat} {v : Value} : (a.put (some d0) v).tmps.size = a.tmps.size := by show (a.tmps.setIfInBounds d0 v).size = _; simp
theorem put_defers {a : Act} {d0 : Nat} {v : Value} : (a.put (some d0) v).defers = a.defers := rfl
theorem act_ext {a a' : Act} (hd : a.defers = a'.defers) (hs : a.tmps.size = a'.tmps.size) (h : ∀ d : Nat, a.tmps[d]?.getD undef = a'.tmps[d]?.getD undef) : a = a' := by
 obtain ⟨x, y⟩ := a
 obtain ⟨x', y'⟩ := a'
 simp only at hd hs h
 subst hd
 congr 1
 apply Array.ext hs
 intro i h1 h2
 have := h i
 simpa [h1, h2] using this
def slOf (s : Option Addr × Nat × Nat) : Value := .slice s.1 s.2.1 s.2.2
structure Jr (k b0 s0 N : Nat) (a0 : Act) (b : Nat) (W0 : World) (aT : Value) (t : T) (L : Nat → Prop) (X : Nat → V) (Sl : Nat → Option Addr × Nat × Nat) (G : Nat → Nat) (a : Act) (W : World) : Prop where
 df : a.defers = a0.defers
 sz : a.tmps.size = N
 oth : ∀ d : Nat, (d < b0 ∨ (b0 + k ≤ d ∧ d < s0) ∨ s0 + 3 * k ≤ d) → a.tmps[d]?.getD undef = a0.tmps[d]?.getD undef
 gd : GD b W0 W
 mv : ∀ j, j < k → L (3 * j) → a.tmps[s0 + 3 * j]?.getD undef = .pointer (some ⟨b, 0, none⟩)
 ld : ∀ j, j < k → L (3 * j + 1) → a.tmps[s0 + 3 * j + 1]?.getD undef = aT
 cl : ∀ j, j < k → L (3 * j + 2) → a.tmps[s0 + 3 * j + 2]?.getD undef = .agg #[.int .i64 (X j).n, slOf (Sl j)] ∧ validP t (X j) = true ∧ KAt W (fun x => W0.heap.size ≤ x ∧ x < W.heap.size ∧ ∀ i, i < k → L (3 * k + i) → x ≠ G i) (slOf (Sl j)) (X j).ks
 al : ∀ j, j < k → L (3 * k + j) → a.tmps[b0 + j]?.getD undef = .pointer (some ⟨G j, 0, none⟩) ∧ W0.heap.size ≤ G j ∧ G j < W.heap.size
 ne : ∀ i j, i < k → j < k → i ≠ j → L (3 * k + i) → L (3 * k + j) → G i ≠ G j
 bz : ∀ j, j < k → L (3 * k + j) → ¬ L (4 * k + j) → Blk W (G j) 39 #[.int .i64 0, .slice none 0 0]
 bf : ∀ j, j < k → L (4 * k + j) → Blk W (G j) 39 #[.int .i64 (X j).n, slOf (Sl j)]
 st : ∀ j, j < k → L (4 * k + j) → L (3 * j + 2) ∧ L (3 * k + j)
abbrev ins (L : Nat → Prop) (i0 : Nat) : Nat → Prop := fun i => i = i0 ∨ L i
theorem ins_out {L : Nat → Prop} {i0 i : Nat} (h : i = i0 ∨ L i) (hne : i ≠ i0) : L i := h.resolve_left hne
section
variable {k b0 s0 N : Nat} {a0 : Act} {b : Nat} {W0 : World} {aT : Value} {t : T} {L : Nat → Prop} {X : Nat → V} {Sl : Nat → Option Addr × Nat × Nat} {G : Nat → Nat} {a : Act} {W : World}
theorem Jr.slot (h : Jr k b0 s0 N a0 b W0 aT t L X Sl G a W) (hb : b0 + k ≤ s0) (hN : s0 + 3 * k ≤ N) {j0 r : Nat} (hj : j0 < k) (hr : r < 2) {v : Value} (hv0 : r = 0 → v = .pointer (some ⟨b, 0, none⟩)) (hv1 : r = 1 → v = aT) :
   Jr k b0 s0 N a0 b W0 aT t (ins L (3 * j0 + r)) X Sl G (a.put (some (s0 + 3 * j0 + r)) v) W := by
 have hlt : s0 + 3 * j0 + r < a.tmps.size := by rw [h.sz]; omega
 refine ⟨h.df, by rw [put_size]; exact h.sz, fun d hd => ?_, h.gd, fun j hj' hl => ?_, fun j hj' hl => ?_, fun j hj' hl => ?_, fun j hj' hl => ?_, fun i j hi hj' hne h1 h2 => ?_, fun j hj' h1 h2 => ?_, fun j hj' h1 => ?_, fun j hj' h1 => ?_⟩
 · rw [put_getD hlt, if_neg (by omega)]; exact h.oth d hd
 · rw [put_getD hlt]
   by_cases e : s0 + 3 * j = s0 + 3 * j0 + r
   · rw [if_pos e]; exact hv0 (by omega)
   · rw [if_neg e]
     rcases hl with hl | hl
     · omega
     · exact h.mv j hj' hl
 · rw [put_getD hlt]
   by_cases e : s0 + 3 * j + 1 = s0 + 3 * j0 + r
   · rw [if_pos e]; exact hv1 (by omega)
   · rw [if_neg e]
     rcases hl with hl | hl
     · omega
     · exact h.ld j hj' hl
 · have hl' : L (3 * j + 2) := ins_out hl (by omega)
   obtain ⟨q1, q2, q3⟩ := h.cl j hj' hl'
   rw [put_getD hlt, if_neg (by omega)]
   exact ⟨q1, q2, q3.keep (fun x hx => ⟨hx.1, hx.2.1, fun i hi hl2 => hx.2.2 i hi (ins_out hl2 (by omega))⟩) (fun _ _ => rfl)⟩
 · have hl' : L (3 * k + j) := ins_out hl (by omega)
   rw [put_getD hlt, if_neg (by omega)]
   exact h.al j hj' hl'
 · exact h.ne i j hi hj' hne (ins_out h1 (by omega)) (ins_out h2 (by omega))
 · exact h.bz j hj' (ins_out h1 (by omega)) (fun hx => h2 (.inr hx))
 · exact h.bf j hj' (ins_out h1 (by omega))
 · obtain ⟨q1, q2⟩ := h.st j hj' (ins_out h1 (by omega))
   exact ⟨.inr q1, .inr q2⟩
theorem Jr.call (h : Jr k b0 s0 N a0 b W0 aT t L X Sl G a W) (hb : b0 + k ≤ s0) (hN : s0 + 3 * k ≤ N) (hbl : b < W0.heap.size) {j0 : Nat} (hj : j0 < k) (hnot : ¬ L (3 * j0 + 2)) {W' : World} {v : V} {A : Option Addr} {n c : Nat} (hg : GD b W W') (hv : validP t v = true) (hk : KAt W' (FB W W') (.slice A n c) v.ks) :
   Jr k b0 s0 N a0 b W0 aT t (ins L (3 * j0 + 2)) (fun j => if j = j0 then v else X j) (fun j => if j = j0 then (A, n, c) else Sl j) G (a.put (some (s0 + 3 * j0 + 2)) (.agg #[.int .i64 v.n, .slice A n c])) W' := by
 have hlt : s0 + 3 * j0 + 2 < a.tmps.size := by rw [h.sz]; omega
 have hs := h.gd.size
 have hs2 := hg.size
 have kb : ∀ {g cs}, Blk W g 39 cs → W0.heap.size ≤ g → Blk W' g 39 cs := fun hB hge => hg.blk hB (by omega)
 refine ⟨h.df, by rw [put_size]; exact h.sz, fun d hd => ?_, h.gd.trans hg, fun j hj' hl => ?_, fun j hj' hl => ?_, fun j hj' hl => ?_, fun j hj' hl => ?_, fun i j hi hj' hne h1 h2 => ?_, fun j hj' h1 h2 => ?_, fun j hj' h1 => ?_, fun j hj' h1 => ?_⟩
 · rw [put_getD hlt, if_neg (by omega)]; exact h.oth d hd
 · rw [put_getD hlt, if_neg (by omega)]
   exact h.mv j hj' (ins_out hl (by omega))
 · rw [put_getD hlt, if_neg (by omega)]
   exact h.ld j hj' (ins_out hl (by omega))
 · by_cases e : j = j0
   · subst e
     rw [put_getD hlt, if_pos rfl]
     simp only [if_true]
     refine ⟨rfl, hv, hk.keep (fun x hx => ⟨by have := hx.1; omega, hx.2, fun i hi hl2 => ?_⟩) (fun _ _ => rfl)⟩
     have := (h.al i hi (ins_out hl2 (by omega))).2.2
     have := hx.1
     omega
   · rw [put_getD hlt, if_neg (by omega)]
     simp only [if_neg e]
     obtain ⟨q1, q2, q3⟩ := h.cl j hj' (ins_out hl (by omega))
     exact ⟨q1, q2, q3.keep (fun x hx => ⟨hx.1, by omega, fun i hi hl2 => hx.2.2 i hi (ins_out hl2 (by omega))⟩) (fun p hp => hg.cell hp.2.1 (by have := hp.1; omega))⟩
 · rw [put_getD hlt, if_neg (by omega)]
   obtain ⟨q1, q2, q3⟩ := h.al j hj' (ins_out hl (by omega))
   exact ⟨q1, q2, by omega⟩
 · exact h.ne i j hi hj' hne (ins_out h1 (by omega)) (ins_out h2 (by omega))
 · have h1' : L (3 * k + j) := ins_out h1 (by omega)
   exact kb (h.bz j hj' h1' (fun hx => h2 (.inr hx))) (h.al j hj' h1').2.1
 · have h1' : L (4 * k + j) := ins_out h1 (by omega)
   obtain ⟨q1, q2⟩ := h.st j hj' h1'
   have e : j ≠ j0 := fun e => hnot (by rw [← e]; exact q1)
   simp only [if_neg e]
   exact kb (h.bf j hj' h1') (h.al j hj' q2).2.1
 · obtain ⟨q1, q2⟩ := h.st j hj' (ins_out h1 (by omega))
   exact ⟨.inr q1, .inr q2⟩
theorem Jr.alloc (h : Jr k b0 s0 N a0 b W0 aT t L X Sl G a W) (hb : b0 + k ≤ s0) (hN : s0 + 3 * k ≤ N) (hbl : b < W0.heap.size) {j0 : Nat} (hj : j0 < k) (hnot : ¬ L (3 * k + j0)) :
   Jr k b0 s0 N a0 b W0 aT t (ins L (3 * k + j0)) X Sl (fun j => if j = j0 then W.heap.size else G j) (a.put (some (b0 + j0)) (.pointer (some ⟨W.heap.size, 0, none⟩))) (W.alloc (.cells #[.int .i64 0, .slice none 0 0] 39)) := by
 have hlt : b0 + j0 < a.tmps.size := by rw [h.sz]; omega
 have hs := h.gd.size
 have hz : (W.alloc (.cells #[.int .i64 0, .slice none 0 0] 39)).heap.size = W.heap.size + 1 := World.size_alloc _ _
 refine ⟨h.df, by rw [put_size]; exact h.sz, fun d hd => ?_, h.gd.bw ((Bw.refl _).alloc _), fun j hj' hl => ?_, fun j hj' hl => ?_, fun j hj' hl => ?_, fun j hj' hl => ?_, fun i j hi hj' hne h1 h2 => ?_, fun j hj' h1 h2 => ?_, fun j hj' h1 => ?_, fun j hj' h1 => ?_⟩
 · rw [put_getD hlt, if_neg (by omega)]; exact h.oth d hd
 · rw [put_getD hlt, if_neg (by omega)]
   exact h.mv j hj' (ins_out hl (by omega))
 · rw [put_getD hlt, if_neg (by omega)]
   exact h.ld j hj' (ins_out hl (by omega))
 · rw [put_getD hlt, if_neg (by omega)]
   obtain ⟨q1, q2, q3⟩ := h.cl j hj' (ins_out hl (by omega))
   refine ⟨q1, q2, q3.keep (fun x hx => ⟨hx.1, by rw [hz]; omega, fun i hi hl2 => ?_⟩) (fun p hp => World.cell?_alloc_lt W _ p hp.2.1)⟩
   by_cases e : i = j0
   · simp only [if_pos e]; have := hx.2.1; omega
   · simp only [if_neg e]
     exact hx.2.2 i hi (ins_out hl2 (by omega))
 · by_cases e : j = j0
   · subst e
     rw [put_getD hlt, if_pos rfl]
     simp only [if_true]
     exact ⟨trivial, hs, by rw [hz]; omega⟩
   · rw [put_getD hlt, if_neg (by omega)]
     simp only [if_neg e]
     obtain ⟨q1, q2, q3⟩ := h.al j hj' (ins_out hl (by omega))
     exact ⟨q1, q2, by rw [hz]; omega⟩
 · by_cases e1 : i = j0
   · have e2 : j ≠ j0 := by omega
     simp only [if_pos e1, if_neg e2]
     have := (h.al j hj' (ins_out h2 (by omega))).2.2
     omega
   · simp only [if_neg e1]
     by_cases e2 : j = j0
     · simp only [if_pos e2]
       have := (h.al i hi (ins_out h1 (by omega))).2.2
       omega
     · simp only [if_neg e2]
       exact h.ne i j hi hj' hne (ins_out h1 (by omega)) (ins_out h2 (by omega))
 · by_cases e : j = j0
   · simp only [if_pos e]; exact Blk.new _ _ _
   · simp only [if_neg e]
     exact (h.bz j hj' (ins_out h1 (by omega)) (fun hx => h2 (.inr hx))).alloc _
 · have h1' : L (4 * k + j) := ins_out h1 (by omega)
   obtain ⟨q1, q2⟩ := h.st j hj' h1'
   have e : j ≠ j0 := fun e => hnot (by rw [← e]; exact q2)
   simp only [if_neg e]
   exact (h.bf j hj' h1').alloc _
 · obtain ⟨q1, q2⟩ := h.st j hj' (ins_out h1 (by omega))
   exact ⟨.inr q1, .inr q2⟩
theorem Jr.store (h : Jr k b0 s0 N a0 b W0 aT t L X Sl G a W) (hbl : b < W0.heap.size) {j0 : Nat} (hj : j0 < k) (hc : L (3 * j0 + 2)) (ha : L (3 * k + j0)) (hnot : ¬ L (4 * k + j0)) :
   Jr k b0 s0 N a0 b W0 aT t (ins L (4 * k + j0)) X Sl G a ((W.setCell ⟨G j0, 0, none⟩ (.int .i64 (X j0).n)).setCell ⟨G j0, 1, none⟩ (slOf (Sl j0))) := by
 have hz := h.bz j0 hj ha hnot
 obtain ⟨-, g1, g2⟩ := h.al j0 hj ha
 have hsz : ((W.setCell ⟨G j0, 0, none⟩ (.int .i64 (X j0).n)).setCell ⟨G j0, 1, none⟩ (slOf (Sl j0))).heap.size = W.heap.size := by simp [World.setCell]
 have hgb : W.grownBy ((W.setCell ⟨G j0, 0, none⟩ (.int .i64 (X j0).n)).setCell ⟨G j0, 1, none⟩ (slOf (Sl j0))) (some (G j0)) := grownBy_setCell (p := ⟨G j0, 1, none⟩) (grownBy_setCell (p := ⟨G j0, 0, none⟩) (World.grownBy.refl _ _) (.inl rfl) _) (.inl rfl) _
 have far : ∀ {g : Nat} {cs}, Blk W g 39 cs → g ≠ G j0 → Blk ((W.setCell ⟨G j0, 0, none⟩ (.int .i64 (X j0).n)).setCell ⟨G j0, 1, none⟩ (slOf (Sl j0))) g 39 cs := fun hB hne => (hB.far hne _).far hne _
 refine ⟨h.df, h.sz, h.oth, h.gd.own hgb (fun r e => by injection e with e; subst e; exact g1) hbl, fun j hj' hl => ?_, fun j hj' hl => ?_, fun j hj' hl => ?_, fun j hj' hl => ?_, fun i j hi hj' hne h1 h2 => ?_, fun j hj' h1 h2 => ?_, fun j hj' h1 => ?_, fun j hj' h1 => ?_⟩
 · exact h.mv j hj' (ins_out hl (by omega))
 · exact h.ld j hj' (ins_out hl (by omega))
 · obtain ⟨q1, q2, q3⟩ := h.cl j hj' (ins_out hl (by omega))
   refine ⟨q1, q2, q3.keep (fun x hx => ⟨hx.1, by rw [hsz]; exact hx.2.1, fun i hi hl2 => hx.2.2 i hi (ins_out hl2 (by omega))⟩) (fun p hp => ?_)⟩
   have hne : p.block ≠ G j0 := hp.2.2 j0 hj ha
   exact World.cell?_of_block (hgb.block p.block hp.2.1 (fun e => hne (by injection e)))
 · obtain ⟨q1, q2, q3⟩ := h.al j hj' (ins_out hl (by omega))
   exact ⟨q1, q2, by rw [hsz]; exact q3⟩
 · exact h.ne i j hi hj' hne (ins_out h1 (by omega)) (ins_out h2 (by omega))
 · have h1' : L (3 * k + j) := ins_out h1 (by omega)
   have hnj : j ≠ j0 := fun e => h2 (.inl (by rw [e]))
   exact far (h.bz j hj' h1' (fun hx => h2 (.inr hx))) (h.ne j j0 hj' hj hnj h1' ha)
 · by_cases e : j = j0
   · subst e
     exact blk_set (i := 1) _ (blk_set (i := 0) _ hz)
   · have h1' : L (4 * k + j) := ins_out h1 (by omega)
     exact far (h.bf j hj' h1') (h.ne j j0 hj' hj e (h.st j hj' h1').2 ha)
 · rcases h1 with e | e
   · obtain rfl : j = j0 := by omega
     exact ⟨.inr hc, .inr ha⟩
   · obtain ⟨q1, q2⟩ := h.st j hj' e
     exact ⟨.inr q1, .inr q2⟩
end
abbrev o_on_lt (x y : Nat) : Prop := x < y
def depB (ops : Array Oper) (i m : Nat) : Bool := match ops[i]? with | some o => o.after.any (fun e => Region.binds .any e && e.on == m) | none => false
def acycB (ops : Array Oper) : Bool := (List.range ops.size).all fun i => match ops[i]? with | some o => o.after.all (fun e => !Region.binds .any e || decide (e.on < i)) | none => true
theorem dep_listed {ops : Array Oper} {l : Array Bool} {i m : Nat} (hd : depB ops i m = true) (hi : i ∈ Region.ready .any ops l) : l.getD m false = true := by
 obtain ⟨_, o, ho, h⟩ := mem_ready.1 hi
 unfold depB at hd
 rw [ho] at hd
 simp only [Array.any_eq_true, Bool.and_eq_true, beq_iff_eq] at hd
 obtain ⟨q, hq, h1, h2⟩ := hd
 have := h o.after[q] (Array.getElem_mem hq) h1
 rwa [h2] at this
theorem all_listed {ops : Array Oper} {l : Array Bool} (ha : acycB ops = true) (hz : l.size = ops.size) (hr : Region.ready .any ops l = []) : ∀ i, i < ops.size → l.getD i false = true := by
 intro i
 induction i using Nat.strongRecOn with
 | _ i ih =>
   intro hi
   by_cases h : l.getD i false = true
   · exact h
   · exfalso
     have ho : ops[i]? = some ops[i] := by simp [hi]
     have hin : i ∈ Region.ready .any ops l := mem_ready.2 ⟨by
       have hil : i < l.size := by omega
       simp [hil] at h ⊢
       exact h, ops[i], ho, fun e he hb => by
       have h1 := List.all_eq_true.1 ha i (by simpa using hi)
       rw [ho] at h1
       simp only [Array.all_eq_true] at h1
       obtain ⟨q, hq, rfl⟩ := Array.getElem_of_mem he
       have h2 := h1 q hq
       rw [hb] at h2
       have h3 : o_on_lt (ops[i].after[q]).on i := by simpa [o_on_lt] using h2
       exact ih _ h3 (Nat.lt_trans h3 hi)⟩
     rw [hr] at hin
     simp at hin
end Go.Proofs.YtbmheekaclmibaaGreat
