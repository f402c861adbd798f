/- Part of a proof of pruneShows_holds. -/
import Derived.Test.YthhbkabdhkdafaaGreatUBrQ
import Derived.Test.YthhbkabdhkdafaaGreatUBiQ
set_option linter.unusedSimpArgs false
set_option linter.unusedVariables false
set_option maxRecDepth 100000
set_option maxHeartbeats 16000000
namespace Go.Proofs.YthhbkabdhkdafaaGreat
section
open Go.RowKit
def oriT (v : V) : Ori := ⟨v, -2, .mk 0 []⟩
theorem SAt.nil {w : World} {S : Nat → Prop} : SAt w S (.slice none 0 0) (.slice none 0 0) (.slice none 0 0) ⟨[], [], [], 0⟩ := ⟨KAt.nil _ _ (Nat.zero_le _), ⟨[], EAt.nil _ _ (Nat.zero_le _), rfl⟩, KAt.nil _ _ (Nat.zero_le _)⟩
theorem KAt.grown {A W : World} {S S' : Nat → Prop} {v : Value} {l : List V} {row : Option Nat} (h : KAt A S v l) (g : A.grownBy W row) (hS : ∀ b, S b → S' b ∧ b < A.heap.size ∧ row ≠ some b) : KAt W S' v l :=
 h.keep (fun b hb => (hS b hb).1) (fun p hp => World.cell?_of_block (g.block p.block (hS _ hp).2.1 (fun e => (hS _ hp).2.2 e.symm)))
theorem OwnO.grown {B : Nat} {A W : World} {v : Value} {l : List Ori} {k : Nat} (h : OwnO B A v l) (g : A.grownBy W (some k)) (hk : k < B) : OwnO B W v l := by
 obtain ⟨ps, h1, e⟩ := h
 exact ⟨ps, h1.keep g (.inr (fun e => by have := (h1.own.lt _ e.symm).1; omega)) (fun b hb => ⟨⟨hb.1, Nat.lt_of_lt_of_le hb.2.1 g.size, hb.2.2⟩, hb.2.1, fun e => by injection e with e; have := hb.1; omega⟩), e⟩
theorem grown_own {a b c : World} {row row' : Option Nat} (h : a.grownBy b row) (g : b.grownBy c row') (hr : ∀ k, row' = some k → a.heap.size ≤ k) : a.grownBy c row :=
 ⟨g.os.trans h.os, g.tape.trans h.tape, g.output.trans h.output, Nat.le_trans h.size g.size, fun i hi hne => (g.block i (Nat.lt_of_lt_of_le hi h.size) (fun e => by have := hr i e.symm; omega)).trans (h.block i hi hne)⟩
theorem OwnO.eatF {B B' : Nat} {w : World} {v : Value} {l : List Ori} (h : OwnO B w v l) (hB : B' ≤ B) : ∃ ps, EAt encO w (fun b => B' ≤ b ∧ b < w.heap.size) v ps ∧ ps.map (·.1) = l := by
 obtain ⟨ps, h1, e⟩ := h
 exact ⟨ps, h1.eat (fun b hb => ⟨by omega, hb.2.1⟩) (fun b hb => ⟨by have := (h1.own.lt b hb).1; omega, (h1.own.lt b hb).2⟩), e⟩
def StartPostF (w : World) (r : Sk × Int) (e : Ending) (w' : World) : Prop := ∃ bv ov fv, e = .returned (.tuple #[aggS bv ov fv r.1.us, .int .i64 r.2]) ∧ SAt w' (fun b => w.heap.size ≤ b ∧ b < w'.heap.size) bv ov fv r.1 ∧ Bw w w'
theorem bkstart_fresh (m : Mdl) (hm : MdlOk m) (hn : NmOk m) (l : List V) (hl : ∀ v ∈ l, oneP 8 m.t v = true) (h9 : l.length ≤ 1000) (sv pv rv kv sl : Value) (w : World) (h : MB w w.heap.size sv pv rv kv m) (h1 : KB w w.heap.size sl l) :
   Calls Tryz.prog 37 #[aggM sv pv rv kv, sl] w (StartPostF w (startS m.t l)) := by
 obtain ⟨A1, c1, A2, c2, A3, c3, A4, c4, rfl, rfl, rfl, rfl⟩ := h.form
 obtain ⟨A5, n5, c5, rfl, l5, b5, _⟩ := h1.form
 have CW : Hid (∀ W, Bw w W → Calls Tryz.prog 64 #[aggM (.slice A1 m.ss.length c1) (.slice A2 m.ps.length c2) (.slice A3 m.rs.length c3) (.slice A4 (1 + m.cs.length) c4)] W (NumPost W 0)) := Lib.hid (fun W g => walks_any m hm hn _ _ _ _ W (h.bw g))
 have CT : Hid (∀ W, Bw w W → Calls Tryz.prog 65 #[aggM (.slice A1 m.ss.length c1) (.slice A2 m.ps.length c2) (.slice A3 m.rs.length c3) (.slice A4 (1 + m.cs.length) c4)] W (TypeErr W m.t)) := Lib.hid (fun W g => mdType_any m hm hn _ _ _ _ W (h.bw g))
 have hmin : minimiseP m.t l = limB (minimalP (belowP 8 m.t) l) := by
   unfold minimiseP
   rw [if_pos hm.right, if_pos (List.all_eq_true.2 fun y hy => validM hm (hl y hy))]
   rfl
 have CM : Hid (∀ W pv', Bw w W → TB W W.heap.size (.slice none 0 0) pv' m.t → Calls Tryz.prog 66 #[.agg #[.int .i64 3, .int .i64 0, .slice none 0 0, pv'], .slice A5 n5 c5] W (ValsErr W (limB (minimalP (belowP 8 m.t) l)).1 (limB (minimalP (belowP 8 m.t) l)).2)) := Lib.hid (fun W pv' g hT => by
   have := bMinimise_any m.t l (by omega) (.slice none 0 0) pv' _ W hT (h1.bw g)
   rwa [hmin] at this)
 have h2 : ∀ v ∈ minimalP (belowP 8 m.t) l, oneP 8 m.t v = true := fun v hv => hl v ((minP_spec hm.ord hl).2.1 v hv)
 have CA : Hid (∀ W s2 (l' : List V), l' = minimalP (belowP 8 m.t) l → l'.length ≤ 256 → KB W W.heap.size s2 l' → Calls Tryz.prog 67 #[s2] W (AllPost W l')) := Lib.hid (fun W s2 l' e e2 hk => sall_any l' (fun v hv => by have := one_size hm (h2 v (by rw [← e]; exact hv)); omega) s2 W hk (by omega))
 have CV : Hid (∀ W s2 v, v ∈ minimalP (belowP 8 m.t) l → KB W W.heap.size s2 v.ks → Calls Tryz.prog 68 #[.agg #[.int .i64 v.n, s2]] W (ValPost W v)) := Lib.hid (fun W s2 v hv hk => sown_any v (by have := one_size hm (h2 v hv); omega) s2 W hk)
 unfold startS
 generalize hml : minimalP (belowP 8 m.t) l = ml at *
 clear h h1 hm hn hl hmin h2 l5
 unfold aggM at *
 unfold TypeErr at CT
 unfold ValsErr at CM
 unfold AllPost at CA
 generalize m.ss.length = n at *
 generalize m.ps.length = k at *
 generalize m.rs.length = q at *
 generalize 1 + m.cs.length = z at *
 have BX : Hid (Bw w ((w.alloc (.cells #[.int .i64 1, .slice A1 n c1, .slice A2 k c2, .slice none 0 0, .slice none 0 0, .int .i64 0, .int .i64 0, .slice A3 q c3, .int .i64 0, .slice A4 z c4] 33)).alloc (.cells #[.slice none 0 0, .slice none 0 0, .slice none 0 0, .int .i64 0] 67)) ∧ ∀ W, Bw ((w.alloc (.cells #[.int .i64 1, .slice A1 n c1, .slice A2 k c2, .slice none 0 0, .slice none 0 0, .int .i64 0, .int .i64 0, .slice A3 q c3, .int .i64 0, .slice A4 z c4] 33)).alloc (.cells #[.slice none 0 0, .slice none 0 0, .slice none 0 0, .int .i64 0] 67)) W → Bw w W ∧ w.heap.size < W.heap.size ∧ w.heap.size + 1 < W.heap.size ∧ W.cell? ⟨w.heap.size, 0, none⟩ = some (.int .i64 1) ∧ W.cell? ⟨w.heap.size, 1, none⟩ = some (.slice A1 n c1) ∧ W.cell? ⟨w.heap.size, 2, none⟩ = some (.slice A2 k c2) ∧ W.cell? ⟨w.heap.size, 3, none⟩ = some (.slice none 0 0) ∧ W.cell? ⟨w.heap.size, 4, none⟩ = some (.slice none 0 0) ∧ W.cell? ⟨w.heap.size, 5, none⟩ = some (.int .i64 0) ∧ W.cell? ⟨w.heap.size, 6, none⟩ = some (.int .i64 0) ∧ W.cell? ⟨w.heap.size, 7, none⟩ = some (.slice A3 q c3) ∧ W.cell? ⟨w.heap.size, 8, none⟩ = some (.int .i64 0) ∧ W.cell? ⟨w.heap.size, 9, none⟩ = some (.slice A4 z c4) ∧ W.cell? ⟨w.heap.size + 1, 0, none⟩ = some (.slice none 0 0) ∧ W.cell? ⟨w.heap.size + 1, 1, none⟩ = some (.slice none 0 0) ∧ W.cell? ⟨w.heap.size + 1, 2, none⟩ = some (.slice none 0 0) ∧ W.cell? ⟨w.heap.size + 1, 3, none⟩ = some (.int .i64 0)) := Lib.hid ⟨(((Bw.refl _).alloc _).alloc _), fun W g => by
   have h0 := (Blk.new w 33 #[.int .i64 1, .slice A1 n c1, .slice A2 k c2, .slice none 0 0, .slice none 0 0, .int .i64 0, .int .i64 0, .slice A3 q c3, .int .i64 0, .slice A4 z c4])
   have k0 := (h0.alloc (.cells #[.slice none 0 0, .slice none 0 0, .slice none 0 0, .int .i64 0] 67)).below g.b (h0.alloc (.cells #[.slice none 0 0, .slice none 0 0, .slice none 0 0, .int .i64 0] 67)).lt
   have h1 := (Blk.new (w.alloc (.cells #[.int .i64 1, .slice A1 n c1, .slice A2 k c2, .slice none 0 0, .slice none 0 0, .int .i64 0, .int .i64 0, .slice A3 q c3, .int .i64 0, .slice A4 z c4] 33)) 67 #[.slice none 0 0, .slice none 0 0, .slice none 0 0, .int .i64 0])
   simp only [World.size_alloc] at h1
   have k1 := h1.below g.b h1.lt
   exact ⟨(((Bw.refl _).alloc _).alloc _).trans g, k0.lt, k1.lt, k0.cell 0, k0.cell 1, k0.cell 2, k0.cell 3, k0.cell 4, k0.cell 5, k0.cell 6, k0.cell 7, k0.cell 8, k0.cell 9, k1.cell 0, k1.cell 1, k1.cell 2, k1.cell 3⟩⟩
 have HZ : Hid (∀ W, Bw ((w.alloc (.cells #[.int .i64 1, .slice A1 n c1, .slice A2 k c2, .slice none 0 0, .slice none 0 0, .int .i64 0, .int .i64 0, .slice A3 q c3, .int .i64 0, .slice A4 z c4] 33)).alloc (.cells #[.slice none 0 0, .slice none 0 0, .slice none 0 0, .int .i64 0] 67)) W → Blk W (w.heap.size + 1) 67 #[.slice none 0 0, .slice none 0 0, .slice none 0 0, .int .i64 0]) := Lib.hid (fun W g => by
   have h1 := Blk.new (w.alloc (.cells #[.int .i64 1, .slice A1 n c1, .slice A2 k c2, .slice none 0 0, .slice none 0 0, .int .i64 0, .int .i64 0, .slice A3 q c3, .int .i64 0, .slice A4 z c4] 33)) 67 #[.slice none 0 0, .slice none 0 0, .slice none 0 0, .int .i64 0]
   rw [World.size_alloc] at h1
   exact h1.below g.b h1.lt)
 dsimp only
 by_cases her : (limB ml).2 = 0
 · obtain ⟨hl6, he6⟩ := limB_len her
   rw [if_neg (by rw [her]; decide), he6]
   rw [he6] at CM
   clear her he6
   dsimp only at CM ⊢
   obtain ⟨nl, hnl⟩ : ∃ nl, ml.length = nl := ⟨_, rfl⟩
   have HNL := Lib.hid hnl
   have hl7 : nl ≤ 256 := by omega
   clear hnl hl6
   go_enter Tryz.func37, Tryz.ntmps37
   go_wp2_with (first
     | (go_at_call 64; go_must (refine (CW.out _ BX.out.1).mono ?_; rintro e w1 ⟨rfl, hg⟩; (obtain ⟨-, ylt0, ylt1, y0_0, y0_1, y0_2, y0_3, y0_4, y0_5, y0_6, y0_7, y0_8, y0_9, y1_0, y1_1, y1_2, y1_3⟩ := BX.out.2 _ hg); (have HG1 := Lib.hid hg); clear hg))
     | (go_at_call 65; go_must (refine (CT.out _ (BX.out.1.trans HG1.out)).mono ?_; rintro e w2 ⟨pv2, rfl, hp2, hg2⟩; obtain ⟨A7, n7, c7, rfl, _, _, _⟩ := hp2.form; (have HT2 := Lib.hid (TypePost.tb hp2)); (have HG2 := Lib.hid (HG1.out.trans hg2)); clear hg2 hp2))
     | (go_at_call 66; go_must (refine (CM.out _ _ ((BX.out.1.trans HG2.out).trans ((Bw.refl _).alloc _)) (TAt.bw HT2.out ((Bw.refl _).alloc _))).mono ?_; rintro e w4 ⟨s9, rfl, hk9, hg9⟩; obtain ⟨A9, n9, c9, rfl, l9, b9, m9⟩ := hk9.form; (have hln : n9 = nl := by rw [← l9]; exact HNL.out); subst hln; (have HK9 := Lib.hid hk9); (have HG9 : Hid (Bw ((w.alloc (.cells #[.int .i64 1, .slice A1 n c1, .slice A2 k c2, .slice none 0 0, .slice none 0 0, .int .i64 0, .int .i64 0, .slice A3 q c3, .int .i64 0, .slice A4 z c4] 33)).alloc (.cells #[.slice none 0 0, .slice none 0 0, .slice none 0 0, .int .i64 0] 67)) w4) := Lib.hid (HG2.out.trans (((Bw.refl _).alloc _).trans hg9))); (have hs9 := HG2.out.size); clear hk9 hg9 l9))
     | (go_at_call 67; go_must (refine (CA.out _ _ ml rfl (by have := HNL.out; omega) (HK9.out.keep (fun b hb => hb.2) (fun _ _ => rfl))).mono ?_; rintro e w5 ⟨s10, ss10, rfl, hv10, hg10⟩; obtain ⟨A10, c10, rfl, _, _⟩ := hv10.form; (have HV10 := Lib.hid hv10); (have HG10 := Lib.hid hg10); clear hv10 hg10)))
   have hs10 := HG10.out.size
   have hsS := HG9.out.size
   simp only [World.size_alloc] at hsS hs9
   have hA9 : KAt w5 (fun b => w.heap.size + 1 + 1 ≤ b ∧ b < w5.heap.size) (.slice A9 n9 c9) ml := HK9.out.keep (fun b hb => ⟨by have := hb.1; simp at this; omega, by have := hb.2; omega⟩) (fun p hp => HG10.out.b.cell hp.2)
   have hA10 : KAt w5 (fun b => w.heap.size + 1 + 1 ≤ b ∧ b < w5.heap.size) (.slice A10 ml.length c10) ml := (HV10.out.kat (Nat.le_refl _)).keep (fun b hb => ⟨by have := hb.1; omega, hb.2⟩) (fun _ _ => rfl)
   refine wp_world (fun W => Hid (Bw ((w.alloc (.cells #[.int .i64 1, .slice A1 n c1, .slice A2 k c2, .slice none 0 0, .slice none 0 0, .int .i64 0, .int .i64 0, .slice A3 q c3, .int .i64 0, .slice A4 z c4] 33)).alloc (.cells #[.slice none 0 0, .slice none 0 0, .slice none 0 0, .int .i64 0] 67)) W ∧ Blk W w5.heap.size 67 #[.slice A9 n9 c9, .slice none 0 0, .slice A10 ml.length c10, .int .i64 0] ∧ KAt W (fun b => w.heap.size + 1 + 1 ≤ b ∧ b < w5.heap.size) (.slice A9 n9 c9) ml ∧ KAt W (fun b => w.heap.size + 1 + 1 ≤ b ∧ b < w5.heap.size) (.slice A10 ml.length c10) ml)) (Lib.hid ⟨(HG9.out.trans HG10.out).alloc _, Blk.new _ _ _, hA9.keep (fun b hb => hb) (fun p hp => ((Bw.refl w5).alloc _).b.cell hp.2), hA10.keep (fun b hb => hb) (fun p hp => ((Bw.refl w5).alloc _).b.cell hp.2)⟩) ?_
   intro W0 HW0
   have hsb : w5.heap.size < W0.heap.size := HW0.out.2.1.lt
   have hlow : w.heap.size + 1 + 1 ≤ w5.heap.size := by omega
   obtain ⟨i0, hi, hz0, hz1, hz2⟩ := info_parts infoOriB
   have CV2 : Hid (∀ W s2 v, v ∈ ml → KB W W.heap.size s2 v.ks → Calls Tryz.prog 68 #[.agg #[.int .i64 v.n, s2]] W (ValPost W v)) := CV
   clear hA9 hA10 CW CT CM CA CV HV10 HK9 HG1 HG2 HT2 hs9 HG9 HG10 hs10 hsS
   generalize w5.heap.size = sb at *
   go_loopw [41] (fun i wr => ∃ k : Nat, k ≤ n9 ∧ i = .int .i64 k ∧ ∃ A c, Hid (Blk wr sb 67 #[.slice A9 n9 c9, .slice A k c, .slice A10 ml.length c10, .int .i64 0] ∧ OwnO W0.heap.size wr (.slice A k c) ((ml.take k).map oriT) ∧ W0.grownBy wr (some sb))) (fun i _ => n9 - (intOf i).toNat)
   case atStart => exact ⟨0, by omega, rfl, none, 0, Lib.hid ⟨HW0.out.2.1, ⟨[], ERow.nil _ _ _ _, rfl⟩, World.grownBy.refl _ _⟩⟩
   case round =>
     obtain ⟨k, hk, rfl, VA, vc, HR⟩ := hrel
     obtain ⟨hblk, hown, hgr⟩ := HR.out
     obtain ⟨ps, hrow, hpe⟩ := hown
     have hpl : ps.length = k := by
       have := congrArg List.length hpe
       simp at this
       have := HNL.out
       omega
     have hka := HW0.out.2.2.1.grown hgr (S' := fun b => b < wr.heap.size) (fun b hb => ⟨by have := hgr.size; have := hb.2; omega, by have := hb.2; omega, fun e => by injection e with e; have := hb.2; omega⟩)
     have hszr := hgr.size
     by_cases hlt : k < n9
     · have e1 : k < ml.length := by rw [HNL.out]; exact hlt
       obtain ⟨ad, xA, xn, xc, rfl, hb, q0, q1, sl, hs1⟩ := hka.at_ e1
       have HT : Hid ((ml.take (k + 1)).map oriT = (ml.take k).map oriT ++ [oriT ml[k]]) := Lib.hid (by rw [List.take_succ_eq_append_getElem e1, List.map_append]; rfl)
       have CV3 : Hid (∀ W, Bw wr W → Calls Tryz.prog 68 #[.agg #[.int .i64 ml[k].n, .slice xA xn xc]] W (ValPost W ml[k])) := Lib.hid (fun W g => CV2.out W _ _ (List.getElem_mem e1) (hs1.bw g))
       have HROW := Lib.hid hrow
       have HPE := Lib.hid hpe
       have HPL := Lib.hid hpl
       have HGR := Lib.hid hgr
       have HBK := Lib.hid hblk
       have b1 := hblk.cell 1
       have bl := hblk.lt
       clear hs1 sl hrow hpe hgr hka hblk HR hpl
       generalize ml[k] = x at *
       unfold ValPost at CV3
       obtain ⟨yn, hyn⟩ : ∃ yn, x.n = yn := ⟨_, rfl⟩
       rw [hyn] at CV3 q0
       have HYN := Lib.hid hyn
       clear hyn
       go_wp2_with fail
       refine wp_world (fun W => Hid (Bw (wr.alloc (.cells #[.int .i64 yn, .slice xA xn xc] 31)) W)) (Lib.hid (Bw.refl _)) ?_
       intro W1 HW1
       clear q0 q1 b1
       have hw1 : Bw wr W1 := ((Bw.refl _).alloc _).trans HW1.out
       have HW2 := Lib.hid hw1
       have hbo := (Blk.new wr 31 #[.int .i64 yn, .slice xA xn xc]).below HW1.out.b (by simp)
       have k0 := hbo.cell 0
       have k1 := hbo.cell 1
       have kl := hbo.lt
       have hbs := HBK.out.below hw1.b HBK.out.lt
       have b1 := hbs.cell 1
       have bl1 := hbs.lt
       have CV4 : Hid (Calls Tryz.prog 68 #[.agg #[.int .i64 yn, .slice xA xn xc]] W1.drew (fun e w' => ∃ s, e = .returned (.agg #[.int .i64 yn, s]) ∧ KAt w' (fun b => W1.drew.heap.size ≤ b ∧ b < w'.heap.size) s x.ks ∧ Bw W1.drew w')) := Lib.hid (CV3.out _ (hw1.trans (Bw.refl W1).drew))
       have hsz1 := hw1.size
       have HBS := Lib.hid hbs
       clear hw1 CV3
       go_region_law (first
         | (go_simp; go_at_call 68; go_must (refine CV4.out.mono ?_; rintro e w6 ⟨s6, rfl, hk6, hg6⟩; obtain ⟨A6, n6, c6, rfl, _, _, _⟩ := hk6.form; have hA : Bw W1 w6 := (Bw.refl _).drew.trans hg6; have hb6 := HBS.out.below hA.b HBS.out.lt; have m1 := hb6.cell 1; have ml1 := hb6.lt; have hrow6 := HROW.out.bw (HW2.out.trans hA) (D' := fun b => W0.heap.size ≤ b ∧ b < wr.heap.size ∧ (Value.slice VA k vc).ownBlock ≠ some b) (fun b hb => ⟨hb, hb.2.1⟩); have HROW6 := Lib.hid hrow6; have HB6 := Lib.hid hb6; have HK6 := Lib.hid hk6; have HA := Lib.hid hA; have hs6 := hA.size; clear hk6 hg6 hb6 hrow6 hA))
         | (refine step_append_any _ rfl (.tmp 46) (.tmp 50) 65 rfl W0.heap.size 112 i0 _ 5 72 Tryz.underlying65 hi hz0 hz1 hz2 rfl (by decide) (.slice VA k vc) k (ps.flatMap encO.enc) (by simp [Act.eval, Act.put]) (by have := HROW6.out.own.alloc (.cells #[.int .i64 yn, .slice A6 n6 c6, .int .i64 (-2), .int .i64 0, .slice none 0 0] 112); rwa [HPL.out] at this) (w6.heap.size + 1) (some ⟨w6.heap.size, 0, none⟩) 1 1 [.int .i64 yn, .slice A6 n6 c6, .int .i64 (-2), .int .i64 0, .slice none 0 0] (by simp [Act.eval, Act.put]) (reads_new5 w6 _ _ _ _ _ _) (ori5 _ _ _ _ _ _ _ _ _) (by unfold maxLen; omega) (by omega) (by simp; omega) ?_; intro v8 w8 hown8 hgr8 hl8; obtain ⟨A8, c8, rfl⟩ := own_form hown8; have hb8 := (HB6.out.alloc (.cells #[.int .i64 yn, .slice A6 n6 c6, .int .i64 (-2), .int .i64 0, .slice none 0 0] 112)).grown hgr8 (fun e => by have := (HROW6.out.own.lt _ e.symm).1; omega); have s1 := hb8.cell 1; have s2 := hb8.frozen 1; have s3 := hb8.lt; have HB8 := Lib.hid hb8; have HO8 := Lib.hid hown8; have HG8 := Lib.hid hgr8; have HL8 := Lib.hid hl8; clear hown8 hgr8 hl8 hb8))
       all_goals
         have ha6 := (Bw.refl w6).alloc (.cells #[.int .i64 yn, .slice A6 n6 c6, .int .i64 (-2), .int .i64 0, .slice none 0 0] 112)
         have hrowA := HROW6.out.bw ha6 (D' := fun b => W0.heap.size ≤ b ∧ b < (w6.alloc (.cells #[.int .i64 yn, .slice A6 n6 c6, .int .i64 (-2), .int .i64 0, .slice none 0 0] 112)).heap.size ∧ (Value.slice VA k vc).ownBlock ≠ some b) (fun b hb => ⟨⟨hb.1, by rw [World.size_alloc]; have := hb.2.1; omega, hb.2.2⟩, by have := hb.2.1; omega⟩)
         have hpush : OwnO W0.heap.size w8 (.slice A8 (k + 1) c8) ((ml.take k).map oriT ++ [oriT x]) := by
           refine OwnO.push hrowA HPE.out (x := oriT x) (s1 := .slice A6 n6 c6) (s2 := .slice none 0 0) ?_ (KAt.nil _ _ (Nat.zero_le _)) ?_ HG8.out HL8.out
           · refine HK6.out.keep (fun b hb => ⟨?_, ?_, fun e => ?_⟩) (fun p hp => ha6.b.cell hp.2)
             · have h1 : W1.heap.size ≤ b := hb.1; omega
             · have := hb.2; rw [World.size_alloc]; omega
             · have h1 : W1.heap.size ≤ b := hb.1; have := (HROW.out.own.lt b e).2; omega
           · rw [HPL.out, show (oriT x).v.n = yn from HYN.out]; exact HO8.out
         have hgs : w8.grownBy (w8.setCell ⟨sb, 1, none⟩ (.slice A8 (k + 1) c8)) (some sb) := grownBy_setCell (p := ⟨sb, 1, none⟩) (World.grownBy.refl w8 (some sb)) (.inl rfl) _
         have hg8 : W0.grownBy w8 (some sb) := grown_own (grownBy_trans HGR.out (gb_any ((HW2.out.trans HA.out).trans ha6) _)) HG8.out (fun r e => (HROW6.out.own.lt r e).1)
         have HFIN := Lib.hid (And.intro (blk_set (i := 1) (.slice A8 (k + 1) c8) HB8.out) (And.intro (hpush.grown hgs (by omega)) (grownBy_trans hg8 hgs)))
         clear hgs hg8 hpush hrowA ha6
         go_wp2
         go_roundw
         case rel =>
           refine ⟨k + 1, by omega, by go_num, _, _, Lib.hid ⟨HFIN.out.1, ?_, HFIN.out.2.2⟩⟩
           rw [HT.out]; exact HFIN.out.2.1
         case measure => simp [intOf]; omega
     · obtain rfl : n9 = k := by omega
       have HBK := Lib.hid hblk
       have hz0 := (HZ.out W0 HW0.out.1).grown hgr (fun e => by injection e with e; omega)
       have HB8 := Lib.hid hz0
       have r0 := hz0.cell 0
       have r1 := hz0.cell 1
       have r2 := hz0.cell 2
       have r3 := hz0.cell 3
       have f0 := hz0.frozen 0
       have f1 := hz0.frozen 1
       have f2 := hz0.frozen 2
       have f3 := hz0.frozen 3
       have rl := hz0.lt
       have t0 := hblk.cell 0
       have t1 := hblk.cell 1
       have t2 := hblk.cell 2
       have t3 := hblk.cell 3
       have tl := hblk.lt
       have hO : OwnO W0.heap.size wr (.slice VA n9 vc) (ml.map oriT) := by
         have h3 : OwnO W0.heap.size wr (.slice VA n9 vc) ((ml.take n9).map oriT) := ⟨ps, hrow, hpe⟩
         rwa [List.take_of_length_le (by rw [HNL.out]; exact Nat.le_refl _)] at h3
       have HO := Lib.hid hO
       have HGR := Lib.hid hgr
       clear hrow hpe hpl hka hblk HR hgr hO hz0
       go_wp2
       have hst := blk4 (v0 := .slice A9 n9 c9) (v1 := .slice VA n9 vc) (v2 := .slice A10 ml.length c10) (v3 := .int .i64 0) HB8.out
       refine bodyPost_ret (rrow1 (p := 4) (q := 5) (ty := 67) rfl _ _ (w.heap.size + 1) _ _ rfl (run_loadVar_row _ _ 67 67 _ (0, 0) _ hst.1 Tryz.underlying67 rfl (by kernel_rfl)) rfl) rfl ?_
       have hgf := hst.2
       have hBw : Bw w wr := bw_gb (BX.out.1.trans HW0.out.1) HGR.out (fun r e => by injection e with e; omega)
       have hsg := HGR.out.size
       have hsf := hgf.size
       have key : ∀ (v : Value), KAt W0 (fun b => w.heap.size + 1 + 1 ≤ b ∧ b < sb) v ml → KAt ((((wr.setCell ⟨w.heap.size + 1, 0, none⟩ (.slice A9 n9 c9)).setCell ⟨w.heap.size + 1, 1, none⟩ (.slice VA n9 vc)).setCell ⟨w.heap.size + 1, 2, none⟩ (.slice A10 ml.length c10)).setCell ⟨w.heap.size + 1, 3, none⟩ (.int .i64 0)) (fun b => w.heap.size ≤ b ∧ b < ((((wr.setCell ⟨w.heap.size + 1, 0, none⟩ (.slice A9 n9 c9)).setCell ⟨w.heap.size + 1, 1, none⟩ (.slice VA n9 vc)).setCell ⟨w.heap.size + 1, 2, none⟩ (.slice A10 ml.length c10)).setCell ⟨w.heap.size + 1, 3, none⟩ (.int .i64 0)).heap.size) v ml := fun v hv => by
         refine (hv.grown HGR.out (S' := fun b => w.heap.size + 1 + 1 ≤ b ∧ b < sb) (fun b hb => ⟨hb, by have := hb.2; omega, fun e => by injection e with e; have := hb.2; omega⟩)).grown hgf (fun b hb => ⟨⟨by have := hb.1; omega, by have := hb.2; omega⟩, by have := hb.2; omega, fun e => by injection e with e; have := hb.1; omega⟩)
       have hsw : w.heap.size ≤ W0.heap.size := by omega
       refine ⟨_, _, _, rfl, ⟨key _ HW0.out.2.2.1, (HO.out.grown hgf (by omega)).eatF hsw, key _ HW0.out.2.2.2⟩, bw_gb hBw hgf (fun r e => by injection e with e; omega)⟩
 · have he1 : (limB ml).2 = 1 := by rcases limB_e ml with h | h; (exact absurd h her); exact h
   rw [if_pos (by rw [he1]; decide), he1]
   rw [he1] at CM
   clear her he1
   go_enter Tryz.func37, Tryz.ntmps37
   go_wp2_with (first
     | (go_at_call 64; go_must (refine (CW.out _ BX.out.1).mono ?_; rintro e w1 ⟨rfl, hg⟩; (obtain ⟨-, ylt0, ylt1, y0_0, y0_1, y0_2, y0_3, y0_4, y0_5, y0_6, y0_7, y0_8, y0_9, y1_0, y1_1, y1_2, y1_3⟩ := BX.out.2 _ hg); (have HG1 := Lib.hid hg); clear hg))
     | (go_at_call 65; go_must (refine (CT.out _ (BX.out.1.trans HG1.out)).mono ?_; rintro e w2 ⟨pv2, rfl, hp2, hg2⟩; obtain ⟨A7, n7, c7, rfl, _, _, _⟩ := hp2.form; (have HT2 := Lib.hid (TypePost.tb hp2)); (have HG2 := Lib.hid (HG1.out.trans hg2)); clear hg2 hp2))
     | (go_at_call 66; go_must (refine (CM.out _ _ ((BX.out.1.trans HG2.out).trans ((Bw.refl _).alloc _)) (TAt.bw HT2.out ((Bw.refl _).alloc _))).mono ?_; rintro e w4 ⟨s9, rfl, hk9, hg9⟩; obtain ⟨A9, n9, c9, rfl, l9, b9, m9⟩ := hk9.form; (have HG9 : Hid (Bw ((w.alloc (.cells #[.int .i64 1, .slice A1 n c1, .slice A2 k c2, .slice none 0 0, .slice none 0 0, .int .i64 0, .int .i64 0, .slice A3 q c3, .int .i64 0, .slice A4 z c4] 33)).alloc (.cells #[.slice none 0 0, .slice none 0 0, .slice none 0 0, .int .i64 0] 67)) w4) := Lib.hid (HG2.out.trans (((Bw.refl _).alloc _).trans hg9))); (have hz := HZ.out w4 HG9.out); (have r0 := hz.cell 0); (have r1 := hz.cell 1); (have r2 := hz.cell 2); (have r3 := hz.cell 3); (have f0 := hz.frozen 0); (have f1 := hz.frozen 1); (have f2 := hz.frozen 2); (have f3 := hz.frozen 3); (have rl := hz.lt); (have HB8 := Lib.hid hz); clear hk9 hg9 l9 hz)))
   have hst := blk4 (v0 := .slice none 0 0) (v1 := .slice none 0 0) (v2 := .slice none 0 0) (v3 := .int .i64 0) HB8.out
   refine bodyPost_ret (rrow1 (p := 4) (q := 5) (ty := 67) rfl _ _ (w.heap.size + 1) _ _ rfl (run_loadVar_row _ _ 67 67 _ (0, 0) _ hst.1 Tryz.underlying67 rfl (by kernel_rfl)) rfl) rfl ?_
   exact ⟨_, _, _, rfl, SAt.nil, bw_gb (BX.out.1.trans HG9.out) hst.2 (fun r e => by injection e with e; omega)⟩
end
end Go.Proofs.YthhbkabdhkdafaaGreat
