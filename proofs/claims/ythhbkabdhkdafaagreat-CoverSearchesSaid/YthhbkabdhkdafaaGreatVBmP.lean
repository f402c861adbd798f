/- Part of a proof of coverSearches_holds. -/
import Derived.Test.YthhbkabdhkdafaaGreatVBiP
set_option linter.unusedSimpArgs false
set_option linter.unusedVariables false
set_option maxRecDepth 100000
set_option maxHeartbeats 16000000
namespace Go.Proofs.YthhbkabdhkdafaaGreat
section
open Go.RowKit
theorem forall_and10 {α : Type} {a b c d e f g h i j : α → Prop} (H : ∀ x, a x ∧ b x ∧ c x ∧ d x ∧ e x ∧ f x ∧ g x ∧ h x ∧ i x ∧ j x) : (∀ x, a x) ∧ (∀ x, b x) ∧ (∀ x, c x) ∧ (∀ x, d x) ∧ (∀ x, e x) ∧ (∀ x, f x) ∧ (∀ x, g x) ∧ (∀ x, h x) ∧ (∀ x, i x) ∧ (∀ x, j x) :=
 ⟨fun x => (H x).1, fun x => (H x).2.1, fun x => (H x).2.2.1, fun x => (H x).2.2.2.1, fun x => (H x).2.2.2.2.1, fun x => (H x).2.2.2.2.2.1, fun x => (H x).2.2.2.2.2.2.1, fun x => (H x).2.2.2.2.2.2.2.1, fun x => (H x).2.2.2.2.2.2.2.2.1, fun x => (H x).2.2.2.2.2.2.2.2.2⟩
theorem step1_any (u : Value) (A : Option Addr) (x : Int) (n c : Nat) (w : World) : Calls Tryz.prog 71 #[.agg #[.int .i64 x, .slice A n c]] w (BoolPost w true) := by
 go_enter Tryz.func71, Tryz.ntmps71
 go_wp2
 go_ret
 exact ⟨rfl, (Bw.refl _).alloc _⟩
theorem bkadd_any (m : Mdl) (hm : MdlOk m) (s : Sk) (hs : SkOk m s) (v x : V) (hv : oneP 8 m.t v = true) (hx : oneP 8 m.t x = true) (r : Int) (B kb : Nat) (sv pv rv kv tp bv ov fv s1 s2 : Value) (w : World) (hfm : ∃ A1 n c1 A2 k c2 A3 q c3 A4 z c4, sv = .slice A1 n c1 ∧ pv = .slice A2 k c2 ∧ rv = .slice A3 q c3 ∧ kv = .slice A4 z c4)
   (hI : SkI w B kb sv pv rv kv tp bv ov fv s) (hT : PAt w (· < B) tp m.t.parts) (h1 : KAt w (Dk w 0 (some kb) ov fv) s1 v.ks) (h2 : KAt w (Dk w 0 (some kb) ov fv) s2 x.ks) :
   Calls Tryz.prog 188 #[.pointer (some ⟨kb, 0, none⟩), .agg #[.int .i64 v.n, s1], .int .i64 r, .agg #[.int .i64 x.n, s2]] w (AddPost w B kb sv pv rv kv tp ov fv (addS m.t s v r x)) := by
 obtain ⟨A1, n, c1, A2, k, c2, A3, q, c3, A4, z, c4, rfl, rfl, rfl, rfl⟩ := hfm
 obtain ⟨Sb, db, So, do_, Sf, df, rfl, rfl, rfl⟩ := hI.own.sat.form
 obtain ⟨At, nt, ct, rfl, _, _, _⟩ := hT.form
 obtain ⟨A5, n5, c5, rfl, _, _, _⟩ := h1.form
 obtain ⟨A6, n6, c6, rfl, _, _, _⟩ := h2.form
 obtain ⟨nb, hnb⟩ : ∃ nb, s.ba.length = nb := ⟨_, rfl⟩
 obtain ⟨no, hno⟩ : ∃ no, s.og.length = no := ⟨_, rfl⟩
 obtain ⟨nf, hnf⟩ : ∃ nf, s.fr.length = nf := ⟨_, rfl⟩
 rw [hnb, hno, hnf] at hI
 rw [hno, hnf] at h1 h2 ⊢
 have hBs := hI.B_lt
 have hkl := hI.lt
 have hlo := hI.lo
 have hTB : TB w w.heap.size (.slice none 0 0) (.slice At nt ct) m.t := ⟨IAt.nil _ _ (Nat.zero_le _), hT.more hBs⟩
 have hbs : KB w w.heap.size (.slice Sb nb db) s.ba := hI.own.sat.b
 have h1B : KB w w.heap.size (.slice A5 n5 c5) v.ks := h1.keep (fun b hb => hb.2.1) (fun _ _ => rfl)
 have h2B : KB w w.heap.size (.slice A6 n6 c6) x.ks := h2.keep (fun b hb => hb.2.1) (fun _ _ => rfl)
 have CH : Hid (∀ W, Bw w W → Calls Tryz.prog 69 #[.agg #[.int .i64 3, .int .i64 0, .slice none 0 0, .slice At nt ct], .slice Sb nb db, .agg #[.int .i64 v.n, .slice A5 n5 c5]] W (BoolPost W (hasP m.t s.ba v))) := Lib.hid (fun W g => by
   have := bHas_any m.t s.ba v (.slice none 0 0) (.slice At nt ct) _ _ W (TAt.bw hTB g) (hbs.bw g) (h1B.bw g)
   have e : hasB m.t s.ba v = hasP m.t s.ba v := by simp [hasB, hs.ba, validM hm hv]
   rw [e] at this
   exact this)
 have CI : Hid (∀ W, Bw w W → Calls Tryz.prog 251 #[.agg #[.int .i64 3, .int .i64 0, .slice none 0 0, .slice At nt ct], .slice Sb nb db, .agg #[.int .i64 v.n, .slice A5 n5 c5]] W (InsPost W (limB (minimalP (belowP 8 m.t) (s.ba ++ [v]))).1 ((limB (minimalP (belowP 8 m.t) (s.ba ++ [v]))).2 == 0 && !hasP m.t s.ba v) (limB (minimalP (belowP 8 m.t) (s.ba ++ [v]))).2)) := Lib.hid (fun W g => by
   have := bInsert_any m.t s.ba v (.slice none 0 0) (.slice At nt ct) _ _ W (TAt.bw hTB g) (hbs.bw g) (h1B.bw g)
   have e : insP m.t s.ba v = ((limB (minimalP (belowP 8 m.t) (s.ba ++ [v]))).1, (limB (minimalP (belowP 8 m.t) (s.ba ++ [v]))).2 == 0 && !hasP m.t s.ba v, (limB (minimalP (belowP 8 m.t) (s.ba ++ [v]))).2) := by
     unfold insP
     rw [if_pos hs.ba, if_pos (validM hm hv)]
     rfl
   rw [e] at this
   exact this)
 have CV1 : Hid (∀ W s, KB W W.heap.size s v.ks → Calls Tryz.prog 68 #[.agg #[.int .i64 v.n, s]] W (ValPost W v)) := Lib.hid (fun W s hk => sown_any v (by have := one_size hm hv; omega) s W hk)
 have CV2 : Hid (∀ W s, KB W W.heap.size s x.ks → Calls Tryz.prog 68 #[.agg #[.int .i64 x.n, s]] W (ValPost W x)) := Lib.hid (fun W s hk => sown_any x (by have := one_size hm hx; omega) s W hk)
 have CK : Hid (∀ W, Calls Tryz.prog 71 #[.agg #[.int .i64 v.n, .slice A5 n5 c5]] W (BoolPost W true)) := Lib.hid (fun W => step1_any (.bool true) _ _ _ _ W)
 have HI := Lib.hid hI
 have HK1 := Lib.hid h1
 have HK2 := Lib.hid h2
 have hol : no ≤ 512 := by have := hs.ol; omega
 have hfl : nf ≤ 512 := by have := hs.flen; omega
 have hbk := hI.blk
 clear hT hTB hbs h1B h2B hI h1 h2 hs hm hv hx
 unfold AddPost
 generalize hres : addS m.t s v r x = res
 have HRES := Lib.hid hres
 clear hres
 unfold addS at HRES
 generalize limB (minimalP (belowP 8 m.t) (s.ba ++ [v])) = lb at *
 generalize hasP m.t s.ba v = hh at *
 unfold BoolPost at CH CK
 unfold InsPost at CI
 unfold ValPost at CV1 CV2
 obtain ⟨us, hus⟩ : ∃ us, s.us = us := ⟨_, rfl⟩
 rw [hus] at hbk
 have HEQ := Lib.hid (And.intro hus (And.intro hnb (And.intro hno hnf)))
 obtain ⟨vn, hvn⟩ : ∃ vn, v.n = vn := ⟨_, rfl⟩
 obtain ⟨xn, hxn⟩ : ∃ xn, x.n = xn := ⟨_, rfl⟩
 rw [hvn] at CH CI CV1 CK
 rw [hxn] at CV2
 rw [hvn, hxn]
 have HVN := Lib.hid (And.intro hvn hxn)
 have HBK0 := Lib.hid hbk
 clear hus hnb hno hnf hvn hxn hbk
 have BX : Hid (Bw w ((w.alloc (.cells #[.int .i64 vn, .slice A5 n5 c5] 31)).alloc (.cells #[.int .i64 xn, .slice A6 n6 c6] 31)) ∧ ∀ W, Bw ((w.alloc (.cells #[.int .i64 vn, .slice A5 n5 c5] 31)).alloc (.cells #[.int .i64 xn, .slice A6 n6 c6] 31)) W → Bw w W ∧ w.heap.size < W.heap.size ∧ w.heap.size + 1 < W.heap.size ∧ W.cell? ⟨w.heap.size, 0, none⟩ = some (.int .i64 vn) ∧ W.cell? ⟨w.heap.size, 1, none⟩ = some (.slice A5 n5 c5) ∧ W.cell? ⟨w.heap.size + 1, 0, none⟩ = some (.int .i64 xn) ∧ W.cell? ⟨w.heap.size + 1, 1, none⟩ = some (.slice A6 n6 c6)) := Lib.hid ⟨(((Bw.refl _).alloc _).alloc _), fun W g => by
   have h0 := (Blk.new w 31 #[.int .i64 vn, .slice A5 n5 c5])
   have k0 := (h0.alloc (.cells #[.int .i64 xn, .slice A6 n6 c6] 31)).below g.b (h0.alloc (.cells #[.int .i64 xn, .slice A6 n6 c6] 31)).lt
   have h1 := (Blk.new (w.alloc (.cells #[.int .i64 vn, .slice A5 n5 c5] 31)) 31 #[.int .i64 xn, .slice A6 n6 c6])
   simp only [World.size_alloc] at h1
   have k1 := h1.below g.b h1.lt
   exact ⟨(((Bw.refl _).alloc _).alloc _).trans g, k0.lt, k1.lt, k0.cell 0, k0.cell 1, k1.cell 0, k1.cell 1⟩⟩
 have B0 := BX.out.1
 have HB0 := Lib.hid B0
 clear B0
 rcases hh with _ | _
 · go_enter Tryz.func188, Tryz.ntmps188
   go_wp2_with fail
   refine wp_world (fun W => Hid (Bw ((w.alloc (.cells #[.int .i64 vn, .slice A5 n5 c5] 31)).alloc (.cells #[.int .i64 xn, .slice A6 n6 c6] 31)) W)) (Lib.hid (Bw.refl _)) ?_
   intro W HW
   have HBK := Lib.hid (HBK0.out.below (HB0.out.trans HW.out).b HBK0.out.lt)
   have D1 : Hid (∀ W', Bw W W' → Calls Tryz.prog 69 #[.agg #[.int .i64 3, .int .i64 0, .slice none 0 0, .slice At nt ct], .slice Sb nb db, .agg #[.int .i64 vn, .slice A5 n5 c5]] W' (fun e w' => e = .returned (.bool false) ∧ Bw W' w')) := Lib.hid (fun W' g => CH.out W' ((HB0.out.trans HW.out).trans g))
   clear CH
   have KS0 : Hid (∀ w', Bw W w' → w'.cell? ⟨kb, 0, none⟩ = some (.slice Sb nb db) ∧ w'.cell? ⟨kb, 14, none⟩ = some (.int .i64 3) ∧ w'.cell? ⟨kb, 15, none⟩ = some (.int .i64 0) ∧ w'.cell? ⟨kb, 16, none⟩ = some (.slice none 0 0) ∧ w'.cell? ⟨kb, 17, none⟩ = some (.slice At nt ct) ∧ w'.cell? ⟨kb, 18, none⟩ = some (.func (.func 71) #[] #[]) ∧ w'.cell? ⟨w.heap.size, 0, none⟩ = some (.int .i64 vn) ∧ w'.cell? ⟨w.heap.size, 1, none⟩ = some (.slice A5 n5 c5) ∧ Bw W w') := Lib.hid (fun w' g => by
     have b := HBK0.out.below ((HB0.out.trans HW.out).trans g).b HBK0.out.lt
     obtain ⟨-, ylt0, ylt1, y0_0, y0_1, y1_0, y1_1⟩ := BX.out.2 _ (HW.out.trans g)
     exact ⟨b.cell 0, b.cell 14, b.cell 15, b.cell 16, b.cell 17, b.cell 18, y0_0, y0_1, g⟩)
   have hkl0 : kb < W.heap.size ∧ w.heap.size + 1 < W.heap.size := by
     have := (HB0.out.trans HW.out).size
     obtain ⟨-, ylt0, ylt1, y0_0, y0_1, y1_0, y1_1⟩ := BX.out.2 _ HW.out
     exact ⟨by omega, ylt1⟩
   obtain ⟨hkl01, hkl02⟩ := hkl0
   have eg : ∀ args w, (callFunc 71 args).run Tryz.prog w = .ok (.enter 71 args) w := enters_of Tryz.func71 (by kernel_rfl) rfl
   go_region_held3 (fun w' => w'.cell? ⟨kb, 0, none⟩ = some (.slice Sb nb db) ∧ w'.cell? ⟨kb, 14, none⟩ = some (.int .i64 3) ∧ w'.cell? ⟨kb, 15, none⟩ = some (.int .i64 0) ∧ w'.cell? ⟨kb, 16, none⟩ = some (.slice none 0 0) ∧ w'.cell? ⟨kb, 17, none⟩ = some (.slice At nt ct) ∧ w'.cell? ⟨kb, 18, none⟩ = some (.func (.func 71) #[] #[]) ∧ w'.cell? ⟨w.heap.size, 0, none⟩ = some (.int .i64 vn) ∧ w'.cell? ⟨w.heap.size, 1, none⟩ = some (.slice A5 n5 c5) ∧ Bw W w') (first | (refine KS0.out _ ?_; first | exact (Bw.refl _).drew | exact (Bw.refl _).drew.trans hg5 | exact ((Bw.refl _).drew.trans hg5).trans hg6)) (first | (go_at_call 69; (with_reducible refine (D1.out _ (Bw.refl _).drew).mono ?_); rintro e w5 ⟨rfl, hg5⟩) | (go_at_fn 71; (with_reducible refine (CK.out _).mono ?_); rintro e w6 ⟨rfl, hg6⟩))
   have HG6 : Hid (Bw ((w.alloc (.cells #[.int .i64 vn, .slice A5 n5 c5] 31)).alloc (.cells #[.int .i64 xn, .slice A6 n6 c6] 31)) w6) := Lib.hid (HW.out.trans (((Bw.refl _).drew.trans hg5).trans hg6))
   clear hg5 hg6 KS0 D1 HBK HW
   go_wp2_with fail
   refine wp_world (fun W => Hid (Bw ((w.alloc (.cells #[.int .i64 vn, .slice A5 n5 c5] 31)).alloc (.cells #[.int .i64 xn, .slice A6 n6 c6] 31)) W)) (Lib.hid HG6.out) ?_
   intro W1 HW1
   have KS : Hid (∀ w', Bw W1 w' → w'.cell? ⟨kb, 0, none⟩ = some (.slice Sb nb db) ∧ w'.cell? ⟨kb, 14, none⟩ = some (.int .i64 3) ∧ w'.cell? ⟨kb, 15, none⟩ = some (.int .i64 0) ∧ w'.cell? ⟨kb, 16, none⟩ = some (.slice none 0 0) ∧ w'.cell? ⟨kb, 17, none⟩ = some (.slice At nt ct) ∧ w'.cell? ⟨w.heap.size, 0, none⟩ = some (.int .i64 vn) ∧ w'.cell? ⟨w.heap.size, 1, none⟩ = some (.slice A5 n5 c5) ∧ Bw W1 w') := Lib.hid (fun w' g => by
     have b := HBK0.out.below ((HB0.out.trans HW1.out).trans g).b HBK0.out.lt
     obtain ⟨-, ylt0, ylt1, y0_0, y0_1, y1_0, y1_1⟩ := BX.out.2 _ (HW1.out.trans g)
     exact ⟨b.cell 0, b.cell 14, b.cell 15, b.cell 16, b.cell 17, y0_0, y0_1, g⟩)
   have hkl1 : kb < W1.heap.size ∧ w.heap.size + 1 < W1.heap.size := by
     have := (HB0.out.trans HW1.out).size
     obtain ⟨-, ylt0, ylt1, y0_0, y0_1, y1_0, y1_1⟩ := BX.out.2 _ HW1.out
     exact ⟨by omega, ylt1⟩
   obtain ⟨hkl2, hkl3⟩ := hkl1
   have CI2 : Hid (∀ W, Bw W1 W → Calls Tryz.prog 251 #[.agg #[.int .i64 3, .int .i64 0, .slice none 0 0, .slice At nt ct], .slice Sb nb db, .agg #[.int .i64 vn, .slice A5 n5 c5]] W (fun e w' => ∃ s, e = .returned (.tuple #[s, .bool (lb.2 == 0 && !false), .int .i64 lb.2]) ∧ KAt w' (fun b => W.heap.size ≤ b ∧ b < w'.heap.size) s lb.1 ∧ Bw W w')) := Lib.hid (fun W g => CI.out W ((HB0.out.trans HW1.out).trans g))
   clear CI CK
   obtain ⟨lv, le⟩ := lb
   dsimp only at CI2
   obtain ⟨ib, hib⟩ : ∃ ib, (le == 0 && !false) = ib := ⟨_, rfl⟩
   rw [hib] at CI2
   clear hib
   go_region_held3 (fun w' => w'.cell? ⟨kb, 0, none⟩ = some (.slice Sb nb db) ∧ w'.cell? ⟨kb, 14, none⟩ = some (.int .i64 3) ∧ w'.cell? ⟨kb, 15, none⟩ = some (.int .i64 0) ∧ w'.cell? ⟨kb, 16, none⟩ = some (.slice none 0 0) ∧ w'.cell? ⟨kb, 17, none⟩ = some (.slice At nt ct) ∧ w'.cell? ⟨w.heap.size, 0, none⟩ = some (.int .i64 vn) ∧ w'.cell? ⟨w.heap.size, 1, none⟩ = some (.slice A5 n5 c5) ∧ Bw W1 w') (first | (refine KS.out _ ?_; first | exact (Bw.refl _).drew | exact (Bw.refl _).drew.trans hg7)) (first | (go_at_call 251; (with_reducible refine (CI2.out _ (Bw.refl _).drew).mono ?_); rintro e w7 ⟨s7, rfl, hk7, hg7⟩; obtain ⟨A7, n7, c7, rfl, l7, _, _⟩ := hk7.form))
   have HG7 : Hid (Bw w w7) := Lib.hid ((HB0.out.trans HW1.out).trans ((Bw.refl _).drew.trans hg7))
   have HX7 : Hid (Bw ((w.alloc (.cells #[.int .i64 vn, .slice A5 n5 c5] 31)).alloc (.cells #[.int .i64 xn, .slice A6 n6 c6] 31)) w7) := Lib.hid (HW1.out.trans ((Bw.refl _).drew.trans hg7))
   have HK7 : Hid (KAt w7 (fun b => w.heap.size ≤ b ∧ b < w7.heap.size) (.slice A7 n7 c7) lv) := Lib.hid (hk7.keep (fun b hb => ⟨by have h3 : W1.heap.size ≤ b := hb.1; omega, hb.2⟩) (fun _ _ => rfl))
   have HBK7 := Lib.hid (HBK0.out.below HG7.out.b HBK0.out.lt)
   clear hg7 hk7 KS CI2
   by_cases hle : le = 0
   · subst hle
     have b0 := HBK7.out.cell 0
     have b1 := HBK7.out.cell 1
     have bf := HBK7.out.frozen 0
     have bl := HBK7.out.lt
     by_cases h512 : 512 ≤ no
     · have hb512 : decide ((512 : Int) ≤ (no : Int)) = true := by simp; omega
       have HR1 : Hid (res = (s, 1)) := Lib.hid (by have := HRES.out; rw [HEQ.out.2.2.1] at this; simpa [h512] using this.symm)
       go_wp2
       go_ret
       rw [HR1.out]
       exact ⟨_, _, _, rfl, HI.out.bw HG7.out, Below.mono HG7.out.b hBs, Keeps.refl HG7.out⟩
     · have hb512 : decide ((512 : Int) ≤ (no : Int)) = false := by simp; omega
       have HR1 : Hid (res = (⟨lv, s.og ++ [⟨v, r, x⟩], s.fr ++ [v], s.us⟩, 0)) := Lib.hid (by have := HRES.out; rw [HEQ.out.2.2.1] at this; simpa [h512] using this.symm)
       go_upto_region 9 with fail
       have hput : w7.grownBy (w7.setCell ⟨kb, 0, none⟩ (.slice A7 n7 c7)) (some kb) := skput (s := s) (by rw [HEQ.out.1]; exact HBK7.out) 0 _
       obtain ⟨-, ylt0, ylt1, y0_0, y0_1, y1_0, y1_1⟩ := BX.out.2 _ HX7.out
       have hbv := (Blk.new w 31 #[.int .i64 vn, .slice A5 n5 c5]).alloc (.cells #[.int .i64 xn, .slice A6 n6 c6] 31)
       have hbv7 := (hbv.below HX7.out.b hbv.lt).grown hput (fun e => by injection e with e; omega)
       have hbn := Blk.new (w.alloc (.cells #[.int .i64 vn, .slice A5 n5 c5] 31)) 31 #[.int .i64 xn, .slice A6 n6 c6]
       rw [World.size_alloc] at hbn
       have hbn7 := (hbn.below HX7.out.b hbn.lt).grown hput (fun e => by injection e with e; omega)
       clear ylt0 ylt1 y0_0 y0_1 y1_0 y1_1
       refine wp_world (fun W => Hid (SkI W B kb (.slice A1 n c1) (.slice A2 k c2) (.slice A3 q c3) (.slice A4 z c4) (.slice At nt ct) (.slice A7 n7 c7) (.slice So no do_) (.slice Sf nf df) ⟨lv, s.og, s.fr, s.us⟩ ∧ Below B w W ∧ Keeps w W kb (.slice So no do_) (.slice Sf nf df) (.slice So no do_) (.slice Sf nf df) ∧ Blk W w.heap.size 31 #[.int .i64 vn, .slice A5 n5 c5] ∧ Blk W (w.heap.size + 1) 31 #[.int .i64 xn, .slice A6 n6 c6] ∧ w.heap.size ≤ W.heap.size)) (Lib.hid ⟨⟨by rw [show (⟨lv, s.og, s.fr, s.us⟩ : Sk).us = us from HEQ.out.1]; exact blk_set (i := 0) _ HBK7.out, ((HI.out.own.bw HG7.out).setB (HI.out.own.fresh HG7.out HK7.out hBs)).put hput, HI.out.lo⟩, below_gb (Below.mono HG7.out.b hBs) hput (Nat.le_trans hBs HG7.out.size) (fun r e => by injection e with e; omega), (Keeps.refl HG7.out).trans (Keeps.put hput), hbv7, hbn7, Nat.le_trans HG7.out.size hput.size⟩) ?_
       clear hput hbv hbv7 hbn hbn7 b0 b1 bf bl
       intro W2 HW2
       go_cut [] from 64 to 80 (fun wx => Hid (∃ A8 c8, SkI wx B kb (.slice A1 n c1) (.slice A2 k c2) (.slice A3 q c3) (.slice A4 z c4) (.slice At nt ct) (.slice A7 n7 c7) (.slice A8 (no + 1) c8) (.slice Sf nf df) ⟨lv, s.og ++ [⟨v, r, x⟩], s.fr, s.us⟩ ∧ Below B w wx ∧ Keeps w wx kb (.slice So no do_) (.slice Sf nf df) (.slice A8 (no + 1) c8) (.slice Sf nf df) ∧ Blk wx w.heap.size 31 #[.int .i64 vn, .slice A5 n5 c5]))
       case first => as_aux_lemma =>
         have hI2 := HW2.out.1
         obtain ⟨ps, hrow, hpe⟩ := hI2.own.o
         have hpl : ps.length = no := by have := congrArg List.length hpe; simp at this; have := HEQ.out.2.2.1; omega
         have HROW := Lib.hid hrow
         have HPE := Lib.hid hpe
         have HPL := Lib.hid hpl
         have HV1 := Lib.hid (HW2.out.2.2.1 _ _ HK1.out)
         have HV2 := Lib.hid (HW2.out.2.2.1 _ _ HK2.out)
         have HF : Hid (∀ W', Bw W2 W' → (W'.cell? ⟨kb, 1, none⟩ = some (.slice So no do_) ∧ kb < W'.heap.size ∧ W'.cell? ⟨w.heap.size, 0, none⟩ = some (.int .i64 vn) ∧ W'.cell? ⟨w.heap.size, 1, none⟩ = some (.slice A5 n5 c5) ∧ w.heap.size < W'.heap.size ∧ W'.cell? ⟨w.heap.size + 1, 0, none⟩ = some (.int .i64 xn) ∧ W'.cell? ⟨w.heap.size + 1, 1, none⟩ = some (.slice A6 n6 c6) ∧ w.heap.size + 1 < W'.heap.size)) := Lib.hid (fun W' g => by
           have b1 := hI2.blk.below g.b hI2.blk.lt
           have b2 := HW2.out.2.2.2.1.below g.b HW2.out.2.2.2.1.lt
           have b3 := HW2.out.2.2.2.2.1.below g.b HW2.out.2.2.2.2.1.lt
           exact ⟨b1.cell 1, b1.lt, b2.cell 0, b2.cell 1, b2.lt, b3.cell 0, b3.cell 1, b3.lt⟩)
         have CV3 : Hid (∀ W, Bw W2 W → Calls Tryz.prog 68 #[.agg #[.int .i64 vn, .slice A5 n5 c5]] W (fun e w' => ∃ s, e = .returned (.agg #[.int .i64 vn, s]) ∧ KAt w' (fun b => W.heap.size ≤ b ∧ b < w'.heap.size) s v.ks ∧ Bw W w')) := Lib.hid (fun W g => CV1.out W _ ((HV1.out.keep (fun b hb => hb.2.1) (fun _ _ => rfl) : KB W2 W2.heap.size _ _).bw g))
         have CV4 : Hid (∀ W, Bw W2 W → Calls Tryz.prog 68 #[.agg #[.int .i64 xn, .slice A6 n6 c6]] W (fun e w' => ∃ s, e = .returned (.agg #[.int .i64 xn, s]) ∧ KAt w' (fun b => W.heap.size ≤ b ∧ b < w'.heap.size) s x.ks ∧ Bw W w')) := Lib.hid (fun W g => CV2.out W _ ((HV2.out.keep (fun b hb => hb.2.1) (fun _ _ => rfl) : KB W2 W2.heap.size _ _).bw g))
         obtain ⟨-, p2, -, -, p5, -, -, p8⟩ := HF.out W2 (Bw.refl _)
         have hBs2 := hI2.B_lt
         have HI2 := Lib.hid hI2
         have hn5 : no ≤ 511 := by omega
         obtain ⟨i0, hi, hz0, hz1, hz2⟩ := info_parts infoOriB
         clear hI2 hrow hpe hpl HV1 HV2 CV1 CV2
         have KS9 : Hid (∀ W, Bw W2 W → W.cell? ⟨kb, 1, none⟩ = some (.slice So no do_) ∧ W.cell? ⟨w.heap.size, 0, none⟩ = some (.int .i64 vn) ∧ W.cell? ⟨w.heap.size, 1, none⟩ = some (.slice A5 n5 c5) ∧ W.cell? ⟨w.heap.size + 1, 0, none⟩ = some (.int .i64 xn) ∧ W.cell? ⟨w.heap.size + 1, 1, none⟩ = some (.slice A6 n6 c6)) := Lib.hid (fun W g => by obtain ⟨a1, _, a3, a4, _, a6, a7, _⟩ := HF.out W g; exact ⟨a1, a3, a4, a6, a7⟩)
         have KA9 : Hid (∀ (A W : World), Bw W2 A → A.grownBy W (Value.slice So no do_).ownBlock → W.cell? ⟨kb, 1, none⟩ = some (.slice So no do_) ∧ W.cell? ⟨w.heap.size, 0, none⟩ = some (.int .i64 vn) ∧ W.cell? ⟨w.heap.size, 1, none⟩ = some (.slice A5 n5 c5) ∧ W.cell? ⟨w.heap.size + 1, 0, none⟩ = some (.int .i64 xn) ∧ W.cell? ⟨w.heap.size + 1, 1, none⟩ = some (.slice A6 n6 c6)) := Lib.hid (fun A W g hg => by
           have n1 := ((HI2.out.own.ko kb rfl).1)
           have n2 : ∀ j, w.heap.size ≤ j → (Value.slice So no do_).ownBlock ≠ some j := fun j hj e => by have := ((HI.out.own.olt).1 _ e).2; omega
           have h1 := (HI2.out.blk.below g.b HI2.out.blk.lt).grown hg (fun e => n1 e.symm)
           have h2 := (HW2.out.2.2.2.1.below g.b HW2.out.2.2.2.1.lt).grown hg (fun e => n2 _ (Nat.le_refl _) e.symm)
           have h3 := (HW2.out.2.2.2.2.1.below g.b HW2.out.2.2.2.2.1.lt).grown hg (fun e => n2 _ (Nat.le_succ _) e.symm)
           exact ⟨h1.cell 1, h2.cell 0, h2.cell 1, h3.cell 0, h3.cell 1⟩)
         refine wp_region_noPanic ?_
         refine wp_region_tail (S := fun W' => W'.cell? ⟨kb, 1, none⟩ = some (.slice So no do_) ∧ W'.cell? ⟨w.heap.size, 0, none⟩ = some (.int .i64 vn) ∧ W'.cell? ⟨w.heap.size, 1, none⟩ = some (.slice A5 n5 c5) ∧ W'.cell? ⟨w.heap.size + 1, 0, none⟩ = some (.int .i64 xn) ∧ W'.cell? ⟨w.heap.size + 1, 1, none⟩ = some (.slice A6 n6 c6)) [14, 15, 16, 17] mixedO ?_ (fun hHeld => ?_)
         · exact KS9.out _ (Bw.refl _).drew
         have HH := Lib.hid hHeld
         clear hHeld
         refine wpAnyT_take (i := 0) (oi := _) (v := ?v1) (by simp only [oiA, oiS, oiZ]; exact rfl) (by kernel_rfl) (by kernel_rfl) (by kernel_rfl) (by kernel_rfl) (fun _ _ _ h => h) (Or.inl ⟨by rfl, ?hy1⟩) HH.out ?rest1
         case hy1 => ((intro W hSw); (obtain - := hSw); go_simp; (first | done | with_reducible rfl))
         (try simp only [Act.put, puA, puZ, puS])
         refine wpAnyT_take (i := 1) (oi := _) (v := ?v2) (by simp only [oiA, oiS, oiZ]; exact rfl) (by kernel_rfl) (by kernel_rfl) (by kernel_rfl) (by kernel_rfl) (fun _ _ _ h => h) (Or.inl ⟨by rfl, ?hy2⟩) HH.out ?rest2
         case hy2 => ((intro W hSw); (obtain - := hSw); go_simp; (first | done | with_reducible rfl))
         (try simp only [Act.put, puA, puZ, puS])
         refine wpAnyT_take (i := 2) (oi := _) (v := ?v3) (by simp only [oiA, oiS, oiZ]; exact rfl) (by kernel_rfl) (by kernel_rfl) (by kernel_rfl) (by kernel_rfl) (fun _ _ _ h => h) (Or.inl ⟨by rfl, ?hy3⟩) HH.out ?rest3
         case hy3 => ((intro W hSw); (obtain - := hSw); go_simp; (first | done | with_reducible rfl))
         (try simp only [Act.put, puA, puZ, puS])
         refine wpAnyT_take (i := 3) (oi := _) (v := ?v4) (by simp only [oiA, oiS, oiZ]; exact rfl) (by kernel_rfl) (by kernel_rfl) (by kernel_rfl) (by kernel_rfl) (fun _ _ _ h => h) (Or.inl ⟨by rfl, ?hy4⟩) HH.out ?rest4
         case hy4 => ((intro W hSw); (obtain - := hSw); go_simp; (first | done | with_reducible rfl))
         (try simp only [Act.put, puA, puZ, puS])
         refine wpAnyT_take (i := 4) (oi := _) (v := ?v5) (by simp only [oiA, oiS, oiZ]; exact rfl) (by kernel_rfl) (by kernel_rfl) (by kernel_rfl) (by kernel_rfl) (fun _ _ _ h => h) (Or.inl ⟨by rfl, ?hy5⟩) HH.out ?rest5
         case hy5 => ((intro W hSw); (obtain - := hSw); go_simp; (first | done | with_reducible rfl))
         (try simp only [Act.put, puA, puZ, puS])
         refine wpAnyT_take (i := 5) (oi := _) (v := .slice So no do_) (by simp only [oiA, oiS, oiZ]; exact rfl) (by kernel_rfl) (by kernel_rfl) (by kernel_rfl) (by kernel_rfl) (fun _ _ _ h => h) (Or.inl ⟨by rfl, ?hy6⟩) HH.out ?rest6
         case hy6 => ((intro W hSw); (obtain ⟨q1, -⟩ := hSw); go_simp; (first | done | with_reducible rfl))
         (try simp only [Act.put, puA, puZ, puS])
         refine wpAnyT_take (i := 6) (oi := _) (v := .agg #[.int .i64 vn, .slice A5 n5 c5]) (by simp only [oiA, oiS, oiZ]; exact rfl) (by kernel_rfl) (by kernel_rfl) (by kernel_rfl) (by kernel_rfl) (fun _ _ _ h => h) (Or.inl ⟨by rfl, ?hy7⟩) HH.out ?rest7
         case hy7 => ((intro W hSw); (obtain ⟨-, q1, q2, -⟩ := hSw); go_simp; (first | done | with_reducible rfl))
         (try simp only [Act.put, puA, puZ, puS])
         refine wpAnyT_take (i := 8) (oi := _) (v := ?v8) (by simp only [oiA, oiS, oiZ]; exact rfl) (by kernel_rfl) (by kernel_rfl) (by kernel_rfl) (by kernel_rfl) (fun _ _ _ h => h) (Or.inl ⟨by rfl, ?hy8⟩) HH.out ?rest8
         case hy8 => ((intro W hSw); (obtain - := hSw); go_simp; (first | done | with_reducible rfl))
         (try simp only [Act.put, puA, puZ, puS])
         refine wpAnyT_take (i := 9) (oi := _) (v := .agg #[.int .i64 xn, .slice A6 n6 c6]) (by simp only [oiA, oiS, oiZ]; exact rfl) (by kernel_rfl) (by kernel_rfl) (by kernel_rfl) (by kernel_rfl) (fun _ _ _ h => h) (Or.inl ⟨by rfl, ?hy9⟩) HH.out ?rest9
         case hy9 => ((intro W hSw); (obtain ⟨-, -, -, q1, q2⟩ := hSw); go_simp; (first | done | with_reducible rfl))
         (try simp only [Act.put, puA, puZ, puS])
         refine wpAnyT_ready (rs := [7]) (by kernel_rfl) (by simp) ?_
         refine AllReadyT.cons (o := _) (by simp only [oiA, oiS, oiZ]; exact rfl) (fun K hK => ?_) ?_
         · go_simp
           go_at_call 68
           (with_reducible refine (CV3.out _ (Bw.refl _).drew).mono ?_)
           rintro e w8 ⟨s8, rfl, hk8, hg8⟩
           obtain ⟨A8, n8, c8, rfl, _, _, _⟩ := hk8.form
           have hA : Bw W2 w8 := (Bw.refl _).drew.trans hg8
           have HK8 := Lib.hid hk8
           have HA := Lib.hid hA
           clear hk8 hg8 hA
           refine hK.out _ _ ?_ (fun hHeld2 => ?_)
           · exact KS9.out _ HA.out
           clear hK K HH
           have HH := Lib.hid hHeld2
           clear hHeld2
           (try simp only [Act.put, puA, puZ, puS])
           refine wpAnyT_ready (rs := [10]) (by kernel_rfl) (by simp) ?_
           refine AllReadyT.cons (o := _) (by simp only [oiA, oiS, oiZ]; exact rfl) (fun K hK => ?_) ?_
           · go_simp
             go_at_call 68
             (with_reducible refine (CV4.out _ HA.out).mono ?_)
             rintro e w9 ⟨s9, rfl, hk9, hg9⟩
             obtain ⟨A9, n9, c9, rfl, _, _, _⟩ := hk9.form
             have hA9 : Bw W2 w9 := HA.out.trans hg9
             have HK9 := Lib.hid (hk9.keep (S' := fun b => W2.heap.size ≤ b ∧ b < w9.heap.size) (fun b hb => ⟨Nat.le_trans HA.out.size hb.1, hb.2⟩) (fun _ _ => rfl))
             have HK89 := Lib.hid (HK8.out.keep (w' := w9) (S' := fun b => W2.heap.size ≤ b ∧ b < w9.heap.size) (fun b hb => ⟨hb.1, Nat.lt_of_lt_of_le hb.2 hg9.size⟩) (fun p hp => hg9.b.cell hp.2))
             have HA9 := Lib.hid hA9
             have hs9 := hA9.size
             clear hk9 hg9 hA9
             refine hK.out _ _ ?_ (fun hHeld2 => ?_)
             · exact KS9.out _ HA9.out
             clear hK K HH
             have HH := Lib.hid hHeld2
             clear hHeld2
             (try simp only [Act.put, puA, puZ, puS])
             refine wpAnyT_take (i := 11) (oi := _) (v := .agg #[.int .i64 vn, .slice A8 n8 c8, .int .i64 r, .int .i64 xn, .slice A9 n9 c9]) (by simp only [oiA, oiS, oiZ]; exact rfl) (by kernel_rfl) (by kernel_rfl) (by kernel_rfl) (by kernel_rfl) (fun _ _ _ h => h) (Or.inl ⟨by rfl, ?hy10⟩) HH.out ?rest10
             case hy10 => ((intro W hSw); (obtain - := hSw); go_simp; (first | done | with_reducible rfl))
             (try simp only [Act.put, puA, puZ, puS])
             refine wpAnyT_ready (rs := [12]) (by kernel_rfl) (by simp) ?_
             refine AllReadyT.cons (o := _) (by simp only [oiA, oiS, oiZ]; exact rfl) (fun K hK => ?_) ?_
             · refine wp_build_one rfl 65 112 _ rfl (.agg #[.int .i64 vn, .slice A8 n8 c8, .int .i64 r, .int .i64 xn, .slice A9 n9 c9]) 5 Tryz.underlying65 i0 _ hi hz0 hz1 (by decide) (by decide) _ rfl rfl (by simp [Act.eval]) ?_
               refine hK.out _ _ ?_ (fun hHeld2 => ?_)
               · exact KS9.out _ (HA9.out.alloc _)
               clear hK K HH
               have HH := Lib.hid hHeld2
               clear hHeld2
               (try simp only [Act.put, puA, puZ, puS])
               refine wpAnyT_ready (rs := [13]) (by kernel_rfl) (by simp) ?_
               refine AllReadyT.cons (o := _) (by simp only [oiA, oiS, oiZ]; exact rfl) (fun K hK => ?_) ?_
               · refine step_append_any _ rfl (.tmp 69) (.tmp 76) 65 rfl B 112 i0 _ 5 72 Tryz.underlying65 hi hz0 hz1 hz2 rfl (by decide) (.slice So no do_) no (ps.flatMap encO.enc) (by simp [Act.eval, Act.put]) (by have := (HROW.out.bw HA9.out (D' := fun _ => True) (fun b hb => ⟨trivial, hb.2.1⟩)).own.alloc (.cells #[.int .i64 vn, .slice A8 n8 c8, .int .i64 r, .int .i64 xn, .slice A9 n9 c9] 112); rwa [HPL.out] at this) (w9.heap.size + 1) (some ⟨w9.heap.size, 0, none⟩) 1 1 [.int .i64 vn, .slice A8 n8 c8, .int .i64 r, .int .i64 xn, .slice A9 n9 c9] (by simp [Act.eval, Act.put]) (reads_new5 w9 _ _ _ _ _ _) (ori5 _ _ _ _ _ _ _ _ _) (by unfold maxLen; omega) (by omega) (by simp; omega) ?_
                 intro v10 w10 hown10 hgr10 hl10
                 obtain ⟨A10, c10, rfl⟩ := own_form hown10
                 have hpu := HI2.out.push9 (A := w9.alloc (.cells #[.int .i64 vn, .slice A8 n8 c8, .int .i64 r, .int .i64 xn, .slice A9 n9 c9] 112)) (W := w10) (HA9.out.alloc _) HROW.out HPE.out (x := ⟨v, r, x⟩) (s1 := .slice A8 n8 c8) (s2 := .slice A9 n9 c9) (v' := .slice A10 (no + 1) c10) (HK89.out.keep (fun b hb => ⟨hb.1, by rw [World.size_alloc]; exact Nat.lt_succ_of_lt hb.2⟩) (fun p hp => World.cell?_alloc_lt w9 _ p hp.2)) (HK9.out.keep (fun b hb => ⟨hb.1, by rw [World.size_alloc]; exact Nat.lt_succ_of_lt hb.2⟩) (fun p hp => World.cell?_alloc_lt w9 _ p hp.2)) (by rw [HPL.out, show (⟨v, r, x⟩ : Ori).v.n = vn from HVN.out.1, show (⟨v, r, x⟩ : Ori).nx.n = xn from HVN.out.2]; exact hown10) hgr10 hl10
                 obtain ⟨u1, u2, u3⟩ := hpu.2.2.2.2
                 have HPU := Lib.hid hpu
                 have HS10 : Hid (w10.cell? ⟨kb, 1, none⟩ = some (.slice So no do_) ∧ w10.cell? ⟨w.heap.size, 0, none⟩ = some (.int .i64 vn) ∧ w10.cell? ⟨w.heap.size, 1, none⟩ = some (.slice A5 n5 c5) ∧ w10.cell? ⟨w.heap.size + 1, 0, none⟩ = some (.int .i64 xn) ∧ w10.cell? ⟨w.heap.size + 1, 1, none⟩ = some (.slice A6 n6 c6)) := Lib.hid (KA9.out _ _ (HA9.out.alloc _) hgr10)
                 clear hown10 hgr10 hl10 hpu
                 refine hK.out _ _ ?_ (fun hHeld2 => ?_)
                 · exact HS10.out
                 clear hK K HH
                 have HH := Lib.hid hHeld2
                 clear hHeld2
                 (try simp only [Act.put, puA, puZ, puS])
                 refine wpAnyT_free (i := 14) (oi := _) (v := ?v11) (by simp only [oiA, oiS, oiZ]; exact rfl) (by kernel_rfl) (by kernel_rfl) rfl (by kernel_rfl) (fun _ _ _ h => h) (Or.inl ⟨by rfl, ?hy11⟩) ?rest11
                 case hy11 => ((intro W hSw); go_simp; (first | done | with_reducible rfl))
                 (try simp only [Act.put, puA, puZ, puS])
                 refine wpAnyT_free (i := 15) (oi := _) (v := ?v12) (by simp only [oiA, oiS, oiZ]; exact rfl) (by kernel_rfl) (by kernel_rfl) rfl (by kernel_rfl) (fun _ _ _ h => h) (Or.inl ⟨by rfl, ?hy12⟩) ?rest12
                 case hy12 => ((intro W hSw); go_simp; (first | done | with_reducible rfl))
                 (try simp only [Act.put, puA, puZ, puS])
                 refine wpAnyT_free (i := 16) (oi := _) (v := ?v13) (by simp only [oiA, oiS, oiZ]; exact rfl) (by kernel_rfl) (by kernel_rfl) rfl (by kernel_rfl) (fun _ _ _ h => h) (Or.inl ⟨by rfl, ?hy13⟩) ?rest13
                 case hy13 => ((intro W hSw); go_simp; (first | done | with_reducible rfl))
                 (try simp only [Act.put, puA, puZ, puS])
                 refine wpAnyT_ready (rs := [17]) (by kernel_rfl) (by simp) ?_
                 refine AllReadyT.last (o := _) (by simp only [oiA, oiS, oiZ]; exact rfl) rfl (fun K hK => ?_) ?_
                 · go_simp
                   refine hK.out _ _ ?_
                   clear hK K
                   (try simp only [Act.put, puA, puZ, puS])
                   refine wpAnyT_done (by kernel_rfl) ?_ _
                   refine NoPanic.normal ?_
                   go_simp
                   go_wp2_with fail
                   go_meet
                   exact Lib.hid ⟨A10, c10, HPU.out.1, HW2.out.2.1.trans (HPU.out.2.1), HW2.out.2.2.1.trans HPU.out.2.2.1, HPU.out.2.2.2.1 _ _ _ HW2.out.2.2.2.1 (by omega) (fun e => by have := ((HI.out.own.olt).1 _ e).2; omega)⟩
                 exact AllReadyT.nil
               exact AllReadyT.nil
             exact AllReadyT.nil
           exact AllReadyT.nil
         exact AllReadyT.nil
       case rest => as_aux_lemma =>
         obtain ⟨A8, c8, hI8, hbl8, hke8, hbv8⟩ := hcut.out
         have HI8 := Lib.hid hI8
         have HBL8 := Lib.hid hbl8
         have HKE8 := Lib.hid hke8
         have HBV8 := Lib.hid hbv8
         clear hI8 hbl8 hke8 hbv8 hcut HW2
         go_wp2_with fail
         refine wp_world (fun W => Hid (SkI W B kb (.slice A1 n c1) (.slice A2 k c2) (.slice A3 q c3) (.slice A4 z c4) (.slice At nt ct) (.slice A7 n7 c7) (.slice A8 (no + 1) c8) (.slice Sf nf df) ⟨lv, s.og ++ [⟨v, r, x⟩], s.fr, s.us⟩ ∧ Below B w W ∧ Keeps w W kb (.slice So no do_) (.slice Sf nf df) (.slice A8 (no + 1) c8) (.slice Sf nf df) ∧ Blk W w.heap.size 31 #[.int .i64 vn, .slice A5 n5 c5])) (Lib.hid ⟨HI8.out, HBL8.out, HKE8.out, HBV8.out⟩) ?_
         clear HI8 HBL8 HKE8 HBV8
         intro W3 HW3
         obtain ⟨hI8, hbl8, hke8, hbv8⟩ := HW3.out
         have HI8 := Lib.hid hI8
         have HBL8 := Lib.hid hbl8
         have HKE8 := Lib.hid hke8
         have HBV8 := Lib.hid hbv8
         clear hbl8 hke8 hbv8 HW3
         obtain ⟨qs, hrow, hpe⟩ := hI8.own.f
         have hpl : qs.length = nf := by have := congrArg List.length hpe; simp at this; have := HEQ.out.2.2.2; omega
         have HROW := Lib.hid hrow
         have HPE := Lib.hid hpe
         have HPL := Lib.hid hpl
         have HV1 := Lib.hid (HKE8.out _ _ HK1.out)
         have HF : Hid (∀ W', Bw W3 W' → (W'.cell? ⟨kb, 2, none⟩ = some (.slice Sf nf df) ∧ kb < W'.heap.size ∧ W'.cell? ⟨w.heap.size, 0, none⟩ = some (.int .i64 vn) ∧ W'.cell? ⟨w.heap.size, 1, none⟩ = some (.slice A5 n5 c5) ∧ w.heap.size < W'.heap.size)) := Lib.hid (fun W' g => by
           have b1 := HI8.out.blk.below g.b HI8.out.blk.lt
           have b2 := HBV8.out.below g.b HBV8.out.lt
           exact ⟨b1.cell 2, b1.lt, b2.cell 0, b2.cell 1, b2.lt⟩)
         have CV3 : Hid (∀ W, Bw W3 W → Calls Tryz.prog 68 #[.agg #[.int .i64 vn, .slice A5 n5 c5]] W (fun e w' => ∃ s, e = .returned (.agg #[.int .i64 vn, s]) ∧ KAt w' (fun b => W.heap.size ≤ b ∧ b < w'.heap.size) s v.ks ∧ Bw W w')) := Lib.hid (fun W g => CV1.out W _ ((HV1.out.keep (fun b hb => hb.2.1) (fun _ _ => rfl) : KB W3 W3.heap.size _ _).bw g))
         obtain ⟨-, p2, -, -, p5⟩ := HF.out W3 (Bw.refl _)
         have hBs3 := HI8.out.B_lt
         obtain ⟨i0, hi, hz0, hz1, hz2⟩ := info_parts infoVal
         clear hI8 hrow hpe hpl HV1 CV1 CV2
         have HN : Hid (∀ A, Bw W3 A → A.ownsRow B 31 2 (.slice Sf nf df) nf (pCells qs)) := Lib.hid (fun A g => by
           have := (HROW.out.bw g (D' := fun _ => True) (fun b hb => ⟨trivial, hb.2.1⟩)).own
           rw [HPL.out] at this; exact this)
         have KS10 : Hid (∀ W, Bw W3 W → W.cell? ⟨kb, 2, none⟩ = some (.slice Sf nf df) ∧ W.cell? ⟨w.heap.size, 0, none⟩ = some (.int .i64 vn) ∧ W.cell? ⟨w.heap.size, 1, none⟩ = some (.slice A5 n5 c5)) := Lib.hid (fun W g => by obtain ⟨a1, _, a3, a4, _⟩ := HF.out W g; exact ⟨a1, a3, a4⟩)
         have KA10 : Hid (∀ (A W : World), Bw W3 A → A.grownBy W (Value.slice Sf nf df).ownBlock → W.cell? ⟨kb, 2, none⟩ = some (.slice Sf nf df) ∧ W.cell? ⟨w.heap.size, 0, none⟩ = some (.int .i64 vn) ∧ W.cell? ⟨w.heap.size, 1, none⟩ = some (.slice A5 n5 c5)) := Lib.hid (fun A W g hg => by
           have n1 := ((HI8.out.own.ko kb rfl).2.1)
           have n2 : (Value.slice Sf nf df).ownBlock ≠ some w.heap.size := fun e => by have := ((HI.out.own.olt).2 _ e).2; omega
           have h1 := (HI8.out.blk.below g.b HI8.out.blk.lt).grown hg (fun e => n1 e.symm)
           have h2 := (HBV8.out.below g.b HBV8.out.lt).grown hg (fun e => n2 e.symm)
           exact ⟨h1.cell 2, h2.cell 0, h2.cell 1⟩)
         refine wp_region_noPanic ?_
         refine wp_region_tail (S := fun W' => W'.cell? ⟨kb, 2, none⟩ = some (.slice Sf nf df) ∧ W'.cell? ⟨w.heap.size, 0, none⟩ = some (.int .i64 vn) ∧ W'.cell? ⟨w.heap.size, 1, none⟩ = some (.slice A5 n5 c5)) [10, 11, 12, 13, 14, 15] mixedO ?_ (fun hHeld => ?_)
         · exact KS10.out _ (Bw.refl _).drew
         have HH := Lib.hid hHeld
         clear hHeld
         refine wpAnyT_take (i := 0) (oi := _) (v := ?v14) (by simp only [oiA, oiS, oiZ]; exact rfl) (by kernel_rfl) (by kernel_rfl) (by kernel_rfl) (by kernel_rfl) (fun _ _ _ h => h) (Or.inl ⟨by rfl, ?hy14⟩) HH.out ?rest14
         case hy14 => ((intro W hSw); (obtain - := hSw); go_simp; (first | done | with_reducible rfl))
         (try simp only [Act.put, puA, puZ, puS])
         refine wpAnyT_take (i := 1) (oi := _) (v := ?v15) (by simp only [oiA, oiS, oiZ]; exact rfl) (by kernel_rfl) (by kernel_rfl) (by kernel_rfl) (by kernel_rfl) (fun _ _ _ h => h) (Or.inl ⟨by rfl, ?hy15⟩) HH.out ?rest15
         case hy15 => ((intro W hSw); (obtain - := hSw); go_simp; (first | done | with_reducible rfl))
         (try simp only [Act.put, puA, puZ, puS])
         refine wpAnyT_take (i := 2) (oi := _) (v := ?v16) (by simp only [oiA, oiS, oiZ]; exact rfl) (by kernel_rfl) (by kernel_rfl) (by kernel_rfl) (by kernel_rfl) (fun _ _ _ h => h) (Or.inl ⟨by rfl, ?hy16⟩) HH.out ?rest16
         case hy16 => ((intro W hSw); (obtain - := hSw); go_simp; (first | done | with_reducible rfl))
         (try simp only [Act.put, puA, puZ, puS])
         refine wpAnyT_take (i := 3) (oi := _) (v := ?v17) (by simp only [oiA, oiS, oiZ]; exact rfl) (by kernel_rfl) (by kernel_rfl) (by kernel_rfl) (by kernel_rfl) (fun _ _ _ h => h) (Or.inl ⟨by rfl, ?hy17⟩) HH.out ?rest17
         case hy17 => ((intro W hSw); (obtain - := hSw); go_simp; (first | done | with_reducible rfl))
         (try simp only [Act.put, puA, puZ, puS])
         refine wpAnyT_take (i := 4) (oi := _) (v := .slice Sf nf df) (by simp only [oiA, oiS, oiZ]; exact rfl) (by kernel_rfl) (by kernel_rfl) (by kernel_rfl) (by kernel_rfl) (fun _ _ _ h => h) (Or.inl ⟨by rfl, ?hy18⟩) HH.out ?rest18
         case hy18 => ((intro W hSw); (obtain ⟨q1, -⟩ := hSw); go_simp; (first | done | with_reducible rfl))
         (try simp only [Act.put, puA, puZ, puS])
         refine wpAnyT_take (i := 5) (oi := _) (v := .agg #[.int .i64 vn, .slice A5 n5 c5]) (by simp only [oiA, oiS, oiZ]; exact rfl) (by kernel_rfl) (by kernel_rfl) (by kernel_rfl) (by kernel_rfl) (fun _ _ _ h => h) (Or.inl ⟨by rfl, ?hy19⟩) HH.out ?rest19
         case hy19 => ((intro W hSw); (obtain ⟨-, q1, q2⟩ := hSw); go_simp; (first | done | with_reducible rfl))
         (try simp only [Act.put, puA, puZ, puS])
         refine wpAnyT_take (i := 7) (oi := _) (v := ?v20) (by simp only [oiA, oiS, oiZ]; exact rfl) (by kernel_rfl) (by kernel_rfl) (by kernel_rfl) (by kernel_rfl) (fun _ _ _ h => h) (Or.inl ⟨by rfl, ?hy20⟩) HH.out ?rest20
         case hy20 => ((intro W hSw); (obtain - := hSw); go_simp; (first | done | with_reducible rfl))
         (try simp only [Act.put, puA, puZ, puS])
         refine wpAnyT_ready (rs := [6, 8]) (by kernel_rfl) (by simp) ?_
         refine AllReadyT.cons (o := _) (by simp only [oiA, oiS, oiZ]; exact rfl) (fun K hK => ?_) ?_
         · go_simp
           go_at_call 68
           (with_reducible refine (CV3.out _ (Bw.refl _).drew).mono ?_)
           rintro e w8 ⟨s8, rfl, hk8, hg8⟩
           obtain ⟨A9, n9, c9, rfl, _, _, _⟩ := hk8.form
           have hA : Bw W3 w8 := (Bw.refl _).drew.trans hg8
           have HK8 := Lib.hid (hk8.keep (w' := w8.alloc (.cells #[.int .i64 0, .slice none 0 0] 31)) (S' := fun b => W3.heap.size ≤ b ∧ b < (w8.alloc (.cells #[.int .i64 0, .slice none 0 0] 31)).heap.size) (fun b hb => ⟨hb.1, by rw [World.size_alloc]; exact Nat.lt_succ_of_lt hb.2⟩) (fun p hp => World.cell?_alloc_lt w8 _ p hp.2))
           have HA := Lib.hid hA
           have hs8 := hA.size
           clear hk8 hg8 hA
           refine hK.out _ _ ?_ (fun hHeld2 => ?_)
           · exact KS10.out _ HA.out
           clear hK K HH
           have HH := Lib.hid hHeld2
           clear hHeld2
           (try simp only [Act.put, puA, puZ, puS])
           refine wpAnyT_ready (rs := [8]) (by kernel_rfl) (by simp) ?_
           refine AllReadyT.cons (o := _) (by simp only [oiA, oiS, oiZ]; exact rfl) (fun K hK => ?_) ?_
           · go_simp
             refine hK.out _ _ ?_ (fun hHeld2 => ?_)
             · exact KS10.out _ (HA.out.alloc _)
             clear hK K HH
             have HH := Lib.hid hHeld2
             clear hHeld2
             (try simp only [Act.put, puA, puZ, puS])
             refine wpAnyT_ready (rs := [9]) (by kernel_rfl) (by simp) ?_
             refine AllReadyT.cons (o := _) (by simp only [oiA, oiS, oiZ]; exact rfl) (fun K hK => ?_) ?_
             · refine step_append_any _ rfl (.tmp 85) (.tmp 89) 29 rfl B 31 i0 _ 2 32 Tryz.underlying29 hi hz0 hz1 hz2 rfl (by decide) (.slice Sf nf df) nf (pCells qs) (by simp [Act.eval, Act.put]) (HN.out _ (HA.out.alloc (.cells #[.int .i64 0, .slice none 0 0] 31))) (w8.heap.size + 1) (some ⟨w8.heap.size, 0, none⟩) 1 1 [.int .i64 0, .slice none 0 0] (by simp [Act.eval, Act.put]) (reads_new2 w8 _ _ _) (one2 _ _ _ _) (by unfold maxLen; omega) (by omega) (by simp; omega) ?_
               intro v10 w10 hown10 hgr10 hl10
               obtain ⟨g10, c10, rfl, _, _, _, _⟩ := own_one hown10 (by omega)
               have hpu := HI8.out.push10b (A := w8.alloc (.cells #[.int .i64 0, .slice none 0 0] 31)) (W := w10) (HA.out.alloc _) HROW.out HPE.out (x := v) (s1 := .slice A9 n9 c9) HK8.out HPL.out hown10 hgr10 hl10 vn HVN.out.1
               have HPU := Lib.hid hpu
               obtain ⟨-, -, k0, k1, kf, kl, k2, k3, k4, k5, k6, k7, k8, k9⟩ := hpu
               have kf0 := kf (nf * 2)
               have kf1 := kf (nf * 2 + 1)
               have ix1 : (nf : Int) < (nf : Int) + 1 := (by omega)
               have ix2 : (0 : Int) ≤ (nf : Int) := (by omega)
               have ix3 : nf < nf + 1 := Nat.lt_succ_self _
               have HS10 : Hid (w10.cell? ⟨kb, 2, none⟩ = some (.slice Sf nf df) ∧ w10.cell? ⟨w.heap.size, 0, none⟩ = some (.int .i64 vn) ∧ w10.cell? ⟨w.heap.size, 1, none⟩ = some (.slice A5 n5 c5)) := Lib.hid (KA10.out _ _ (HA.out.alloc _) hgr10)
               clear hown10 hgr10 hl10 kf
               refine hK.out _ _ ?_ (fun hHeld2 => ?_)
               · exact HS10.out
               clear hK K HH
               have HH := Lib.hid hHeld2
               clear hHeld2
               (try simp only [Act.put, puA, puZ, puS])
               refine wpAnyT_free (i := 10) (oi := _) (v := ?v21) (by simp only [oiA, oiS, oiZ]; exact rfl) (by kernel_rfl) (by kernel_rfl) rfl (by kernel_rfl) (fun _ _ _ h => h) (Or.inl ⟨by rfl, ?hy21⟩) ?rest21
               case hy21 => ((intro W hSw); go_simp; (first | done | with_reducible rfl))
               (try simp only [Act.put, puA, puZ, puS])
               refine wpAnyT_free (i := 12) (oi := _) (v := ?v22) (by simp only [oiA, oiS, oiZ]; exact rfl) (by kernel_rfl) (by kernel_rfl) rfl (by kernel_rfl) (fun _ _ _ h => h) (Or.inl ⟨by rfl, ?hy22⟩) ?rest22
               case hy22 => ((intro W hSw); go_simp; (first | done | with_reducible rfl))
               (try simp only [Act.put, puA, puZ, puS])
               refine wpAnyT_free (i := 13) (oi := _) (v := ?v23) (by simp only [oiA, oiS, oiZ]; exact rfl) (by kernel_rfl) (by kernel_rfl) rfl (by kernel_rfl) (fun _ _ _ h => h) (Or.inl ⟨by rfl, ?hy23⟩) ?rest23
               case hy23 => ((intro W hSw); go_simp; (first | done | with_reducible rfl))
               (try simp only [Act.put, puA, puZ, puS])
               refine wpAnyT_free (i := 14) (oi := _) (v := ?v24) (by simp only [oiA, oiS, oiZ]; exact rfl) (by kernel_rfl) (by kernel_rfl) rfl (by kernel_rfl) (fun _ _ _ h => h) (Or.inl ⟨by rfl, ?hy24⟩) ?rest24
               case hy24 => ((intro W hSw); go_simp; (first | done | with_reducible rfl))
               (try simp only [Act.put, puA, puZ, puS])
               refine wpAnyT_ready (rs := [11, 15]) (by kernel_rfl) (by simp) ?_
               refine AllReadyT.last (o := _) (by simp only [oiA, oiS, oiZ]; exact rfl) rfl (fun K hK => ?_) ?_
               · go_simp
                 refine hK.out _ _ ?_
                 clear hK K
                 (try simp only [Act.put, puA, puZ, puS])
                 refine wpAnyT_ready (rs := [15]) (by kernel_rfl) (by simp) ?_
                 refine AllReadyT.last (o := _) (by simp only [oiA, oiS, oiZ]; exact rfl) rfl (fun K hK => ?_) ?_
                 · go_simp
                   refine hK.out _ _ ?_
                   clear hK K
                   (try simp only [Act.put, puA, puZ, puS])
                   refine wpAnyT_done (by kernel_rfl) ?_ _
                   refine NoPanic.normal ?_
                   go_simp
                   clear k0 k1 kf0 kf1 kl k2 k3 k4 k5 k6 k7 k8 k9
                   go_wp2
                   go_ret
                   rw [HR1.out]
                   refine ⟨rfl, .slice A7 n7 c7, .slice A8 (no + 1) c8, .slice (some ⟨g10, 0, none⟩) (nf + 1) c10, ?_⟩
                   dsimp only
                   first
                     | with_reducible exact ⟨HPU.out.1.1, HBL8.out.trans HPU.out.1.2.1, HKE8.out.trans HPU.out.1.2.2⟩
                     | (rw [HPU.out.2.1]; with_reducible exact ⟨HPU.out.1.1, HBL8.out.trans HPU.out.1.2.1, HKE8.out.trans HPU.out.1.2.2⟩)
                 exact AllReadyT.nil
               refine AllReadyT.last (o := _) (by simp only [oiA, oiS, oiZ]; exact rfl) rfl (fun K hK => ?_) ?_
               · go_simp
                 refine hK.out _ _ ?_
                 clear hK K
                 (try simp only [Act.put, puA, puZ, puS])
                 refine wpAnyT_ready (rs := [11]) (by kernel_rfl) (by simp) ?_
                 refine AllReadyT.last (o := _) (by simp only [oiA, oiS, oiZ]; exact rfl) rfl (fun K hK => ?_) ?_
                 · go_simp
                   refine hK.out _ _ ?_
                   clear hK K
                   (try simp only [Act.put, puA, puZ, puS])
                   refine wpAnyT_done (by kernel_rfl) ?_ _
                   refine NoPanic.normal ?_
                   go_simp
                   clear k0 k1 kf0 kf1 kl k2 k3 k4 k5 k6 k7 k8 k9
                   go_wp2
                   go_ret
                   rw [HR1.out]
                   refine ⟨rfl, .slice A7 n7 c7, .slice A8 (no + 1) c8, .slice (some ⟨g10, 0, none⟩) (nf + 1) c10, ?_⟩
                   dsimp only
                   first
                     | with_reducible exact ⟨HPU.out.1.1, HBL8.out.trans HPU.out.1.2.1, HKE8.out.trans HPU.out.1.2.2⟩
                     | (rw [HPU.out.2.1]; with_reducible exact ⟨HPU.out.1.1, HBL8.out.trans HPU.out.1.2.1, HKE8.out.trans HPU.out.1.2.2⟩)
                 exact AllReadyT.nil
               exact AllReadyT.nil
             exact AllReadyT.nil
           exact AllReadyT.nil
         refine AllReadyT.cons (o := _) (by simp only [oiA, oiS, oiZ]; exact rfl) (fun K hK => ?_) ?_
         · go_simp
           refine hK.out _ _ ?_ (fun hHeld2 => ?_)
           · exact KS10.out _ ((Bw.refl _).alloc _).drew
           clear hK K HH
           have HH := Lib.hid hHeld2
           clear hHeld2
           (try simp only [Act.put, puA, puZ, puS])
           refine wpAnyT_ready (rs := [6]) (by kernel_rfl) (by simp) ?_
           refine AllReadyT.cons (o := _) (by simp only [oiA, oiS, oiZ]; exact rfl) (fun K hK => ?_) ?_
           · go_simp
             go_at_call 68
             (with_reducible refine (CV3.out _ (((Bw.refl _).alloc _).drew)).mono ?_)
             rintro e w8 ⟨s8, rfl, hk8, hg8⟩
             obtain ⟨A9, n9, c9, rfl, _, _, _⟩ := hk8.form
             have hA : Bw W3 w8 := (((Bw.refl _).alloc _).drew).trans hg8
             have hb0 : Blk (W3.alloc (.cells #[.int .i64 0, .slice none 0 0] 31)).drew W3.heap.size 31 #[.int .i64 0, .slice none 0 0] := Blk.new W3 _ _
             have hbuf := hb0.below hg8.b hb0.lt
             have HK8 := Lib.hid (hk8.keep (w' := w8) (S' := fun b => W3.heap.size ≤ b ∧ b < w8.heap.size) (fun b hb => ⟨Nat.le_of_succ_le (show W3.heap.size + 1 ≤ b from (by have := hb.1; simpa [World.drew] using this)), hb.2⟩) (fun p hp => rfl))
             have HBUF := Lib.hid hbuf
             have HA := Lib.hid hA
             have hs8 := hA.size
             clear hk8 hg8 hA hbuf
             refine hK.out _ _ ?_ (fun hHeld2 => ?_)
             · exact KS10.out _ HA.out
             clear hK K HH
             have HH := Lib.hid hHeld2
             clear hHeld2
             (try simp only [Act.put, puA, puZ, puS])
             refine wpAnyT_ready (rs := [9]) (by kernel_rfl) (by simp) ?_
             refine AllReadyT.cons (o := _) (by simp only [oiA, oiS, oiZ]; exact rfl) (fun K hK => ?_) ?_
             · refine step_append_any _ rfl (.tmp 85) (.tmp 89) 29 rfl B 31 i0 _ 2 32 Tryz.underlying29 hi hz0 hz1 hz2 rfl (by decide) (.slice Sf nf df) nf (pCells qs) (by simp [Act.eval, Act.put]) (HN.out _ HA.out) w8.heap.size (some ⟨W3.heap.size, 0, none⟩) 1 1 [.int .i64 0, .slice none 0 0] (by simp [Act.eval, Act.put]) (reads_blk (n := 1) HBUF.out HBUF.out.lt rfl) (one2 _ _ _ _) (by unfold maxLen; omega) (by omega) (by omega) ?_
               intro v10 w10 hown10 hgr10 hl10
               obtain ⟨g10, c10, rfl, _, _, _, _⟩ := own_one hown10 (by omega)
               have hpu := HI8.out.push10b (A := w8) (W := w10) HA.out HROW.out HPE.out (x := v) (s1 := .slice A9 n9 c9) HK8.out HPL.out hown10 hgr10 hl10 vn HVN.out.1
               have HPU := Lib.hid hpu
               obtain ⟨-, -, k0, k1, kf, kl, k2, k3, k4, k5, k6, k7, k8, k9⟩ := hpu
               have kf0 := kf (nf * 2)
               have kf1 := kf (nf * 2 + 1)
               have ix1 : (nf : Int) < (nf : Int) + 1 := (by omega)
               have ix2 : (0 : Int) ≤ (nf : Int) := (by omega)
               have ix3 : nf < nf + 1 := Nat.lt_succ_self _
               have HS10 : Hid (w10.cell? ⟨kb, 2, none⟩ = some (.slice Sf nf df) ∧ w10.cell? ⟨w.heap.size, 0, none⟩ = some (.int .i64 vn) ∧ w10.cell? ⟨w.heap.size, 1, none⟩ = some (.slice A5 n5 c5)) := Lib.hid (KA10.out _ _ (HA.out) hgr10)
               clear hown10 hgr10 hl10 kf
               refine hK.out _ _ ?_ (fun hHeld2 => ?_)
               · exact HS10.out
               clear hK K HH
               have HH := Lib.hid hHeld2
               clear hHeld2
               (try simp only [Act.put, puA, puZ, puS])
               refine wpAnyT_free (i := 10) (oi := _) (v := ?v25) (by simp only [oiA, oiS, oiZ]; exact rfl) (by kernel_rfl) (by kernel_rfl) rfl (by kernel_rfl) (fun _ _ _ h => h) (Or.inl ⟨by rfl, ?hy25⟩) ?rest25
               case hy25 => ((intro W hSw); go_simp; (first | done | with_reducible rfl))
               (try simp only [Act.put, puA, puZ, puS])
               refine wpAnyT_free (i := 12) (oi := _) (v := ?v26) (by simp only [oiA, oiS, oiZ]; exact rfl) (by kernel_rfl) (by kernel_rfl) rfl (by kernel_rfl) (fun _ _ _ h => h) (Or.inl ⟨by rfl, ?hy26⟩) ?rest26
               case hy26 => ((intro W hSw); go_simp; (first | done | with_reducible rfl))
               (try simp only [Act.put, puA, puZ, puS])
               refine wpAnyT_free (i := 13) (oi := _) (v := ?v27) (by simp only [oiA, oiS, oiZ]; exact rfl) (by kernel_rfl) (by kernel_rfl) rfl (by kernel_rfl) (fun _ _ _ h => h) (Or.inl ⟨by rfl, ?hy27⟩) ?rest27
               case hy27 => ((intro W hSw); go_simp; (first | done | with_reducible rfl))
               (try simp only [Act.put, puA, puZ, puS])
               refine wpAnyT_free (i := 14) (oi := _) (v := ?v28) (by simp only [oiA, oiS, oiZ]; exact rfl) (by kernel_rfl) (by kernel_rfl) rfl (by kernel_rfl) (fun _ _ _ h => h) (Or.inl ⟨by rfl, ?hy28⟩) ?rest28
               case hy28 => ((intro W hSw); go_simp; (first | done | with_reducible rfl))
               (try simp only [Act.put, puA, puZ, puS])
               refine wpAnyT_ready (rs := [11, 15]) (by kernel_rfl) (by simp) ?_
               refine AllReadyT.last (o := _) (by simp only [oiA, oiS, oiZ]; exact rfl) rfl (fun K hK => ?_) ?_
               · go_simp
                 refine hK.out _ _ ?_
                 clear hK K
                 (try simp only [Act.put, puA, puZ, puS])
                 refine wpAnyT_ready (rs := [15]) (by kernel_rfl) (by simp) ?_
                 refine AllReadyT.last (o := _) (by simp only [oiA, oiS, oiZ]; exact rfl) rfl (fun K hK => ?_) ?_
                 · go_simp
                   refine hK.out _ _ ?_
                   clear hK K
                   (try simp only [Act.put, puA, puZ, puS])
                   refine wpAnyT_done (by kernel_rfl) ?_ _
                   refine NoPanic.normal ?_
                   go_simp
                   clear k0 k1 kf0 kf1 kl k2 k3 k4 k5 k6 k7 k8 k9
                   go_wp2
                   go_ret
                   rw [HR1.out]
                   refine ⟨rfl, .slice A7 n7 c7, .slice A8 (no + 1) c8, .slice (some ⟨g10, 0, none⟩) (nf + 1) c10, ?_⟩
                   dsimp only
                   first
                     | with_reducible exact ⟨HPU.out.1.1, HBL8.out.trans HPU.out.1.2.1, HKE8.out.trans HPU.out.1.2.2⟩
                     | (rw [HPU.out.2.1]; with_reducible exact ⟨HPU.out.1.1, HBL8.out.trans HPU.out.1.2.1, HKE8.out.trans HPU.out.1.2.2⟩)
                 exact AllReadyT.nil
               refine AllReadyT.last (o := _) (by simp only [oiA, oiS, oiZ]; exact rfl) rfl (fun K hK => ?_) ?_
               · go_simp
                 refine hK.out _ _ ?_
                 clear hK K
                 (try simp only [Act.put, puA, puZ, puS])
                 refine wpAnyT_ready (rs := [11]) (by kernel_rfl) (by simp) ?_
                 refine AllReadyT.last (o := _) (by simp only [oiA, oiS, oiZ]; exact rfl) rfl (fun K hK => ?_) ?_
                 · go_simp
                   refine hK.out _ _ ?_
                   clear hK K
                   (try simp only [Act.put, puA, puZ, puS])
                   refine wpAnyT_done (by kernel_rfl) ?_ _
                   refine NoPanic.normal ?_
                   go_simp
                   clear k0 k1 kf0 kf1 kl k2 k3 k4 k5 k6 k7 k8 k9
                   go_wp2
                   go_ret
                   rw [HR1.out]
                   refine ⟨rfl, .slice A7 n7 c7, .slice A8 (no + 1) c8, .slice (some ⟨g10, 0, none⟩) (nf + 1) c10, ?_⟩
                   dsimp only
                   first
                     | with_reducible exact ⟨HPU.out.1.1, HBL8.out.trans HPU.out.1.2.1, HKE8.out.trans HPU.out.1.2.2⟩
                     | (rw [HPU.out.2.1]; with_reducible exact ⟨HPU.out.1.1, HBL8.out.trans HPU.out.1.2.1, HKE8.out.trans HPU.out.1.2.2⟩)
                 exact AllReadyT.nil
               exact AllReadyT.nil
             exact AllReadyT.nil
           exact AllReadyT.nil
         exact AllReadyT.nil
   · have hle' : (le != 0) = true := by simpa using hle
     have HR1 : Hid (res = (s, le)) := Lib.hid (by have := HRES.out; simpa [hle] using this.symm)
     go_wp2
     go_ret
     rw [HR1.out]
     exact ⟨_, _, _, rfl, HI.out.bw HG7.out, Below.mono HG7.out.b hBs, Keeps.refl HG7.out⟩
 · have HR1 : Hid (res = (s, 0)) := Lib.hid HRES.out.symm
   clear CI CV1 CV2 HRES CK
   go_enter Tryz.func188, Tryz.ntmps188
   go_wp2_with fail
   refine wp_world (fun W => Hid (Bw ((w.alloc (.cells #[.int .i64 vn, .slice A5 n5 c5] 31)).alloc (.cells #[.int .i64 xn, .slice A6 n6 c6] 31)) W)) (Lib.hid (Bw.refl _)) ?_
   intro W HW
   have HBK := Lib.hid (HBK0.out.below (HB0.out.trans HW.out).b HBK0.out.lt)
   have D1 : Hid (∀ W', Bw W W' → Calls Tryz.prog 69 #[.agg #[.int .i64 3, .int .i64 0, .slice none 0 0, .slice At nt ct], .slice Sb nb db, .agg #[.int .i64 vn, .slice A5 n5 c5]] W' (fun e w' => e = .returned (.bool true) ∧ Bw W' w')) := Lib.hid (fun W' g => CH.out W' ((HB0.out.trans HW.out).trans g))
   clear CH
   have QF : Hid (∀ P : BwOf W, P.val.cell? ⟨kb, 0, none⟩ = some (.slice Sb nb db) ∧ P.val.cell? ⟨kb, 14, none⟩ = some (.int .i64 3) ∧ P.val.cell? ⟨kb, 15, none⟩ = some (.int .i64 0) ∧ P.val.cell? ⟨kb, 16, none⟩ = some (.slice none 0 0) ∧ P.val.cell? ⟨kb, 17, none⟩ = some (.slice At nt ct) ∧ P.val.cell? ⟨kb, 18, none⟩ = some (.func (.func 71) #[] #[]) ∧ kb < P.val.heap.size ∧ P.val.cell? ⟨w.heap.size, 0, none⟩ = some (.int .i64 vn) ∧ P.val.cell? ⟨w.heap.size, 1, none⟩ = some (.slice A5 n5 c5) ∧ w.heap.size < P.val.heap.size) := Lib.hid (fun P => by
     have b := HBK.out.below P.bw.b HBK.out.lt
     obtain ⟨-, ylt0, ylt1, y0_0, y0_1, y1_0, y1_1⟩ := BX.out.2 _ (HW.out.trans P.bw)
     exact ⟨b.cell 0, b.cell 14, b.cell 15, b.cell 16, b.cell 17, b.cell 18, b.lt, y0_0, y0_1, ylt0⟩)
   have QG := QF.out
   obtain ⟨g1, g2, g3, g4, g5, g6, g7, g8, g9, g10⟩ := forall_and10 QG
   clear QG QF
   refine wp_region_quiet_bw mixedO (by kernel_rfl) ?_
   repeat (go_big_quiet_step ((first | (go_at_call 69; with_reducible exact calls_bw _ (D1.out _ (BwOf.bw _))))))
   refine wpQuiet_nil ?_
   intro w6 hw'
   have hg6 : Bw W w6 := by obtain ⟨p, e⟩ := hw'; rw [e]; exact p.bw
   have HG6 := Lib.hid hg6
   clear hw' hg6 g1 g2 g3 g4 g5 g6 g7 g8 g9 g10
   go_wp2
   go_ret
   rw [HR1.out]
   have hbw := (HB0.out.trans HW.out).trans HG6.out
   exact ⟨_, _, _, rfl, HI.out.bw hbw, Below.mono hbw.b hBs, Keeps.refl hbw⟩
end
end Go.Proofs.YthhbkabdhkdafaaGreat
