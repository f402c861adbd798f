/- Part of a proof of coverSearches_holds. -/
import Derived.Test.YthhbkabdhkdafaaGreatVBiP
import Derived.Test.YthhbkabdhkdafaaGreatVBkP
set_option linter.unusedSimpArgs false
set_option linter.unusedVariables false
set_option maxRecDepth 100000
set_option maxHeartbeats 16000000
namespace Go.Proofs.YthhbkabdhkdafaaGreat
section
open Go.RowKit
def TrailPost (w : World) (r : Int × List St) (e : Ending) (w' : World) : Prop := ∃ s' ps, e = .returned (.tuple #[s', .int .i64 r.1]) ∧ EAt encS w' (fun b => w.heap.size ≤ b ∧ b < w'.heap.size) s' ps ∧ ps.map (·.1) = r.2 ∧ Bw w w'
theorem TrailPost.err {w w' : World} {er : Int} (h : Bw w w') : TrailPost w (er, []) (.returned (.tuple #[.slice none 0 0, .int .i64 er])) w' := ⟨_, [], rfl, EAt.nil _ _ (Nat.zero_le _), rfl, h⟩
theorem find_fst {l : List (Ori × Value × Value)} {og : List Ori} (h : l.map (·.1) = og) (p : Ori → Bool) : og.find? p = (l.find? fun q => p q.1).map (·.1) := by
 subst h
 rw [List.find?_map]; rfl
section
variable {m : Mdl} {og : List Ori} {c : V} {run : List St} {o : Ori} {r : Rul}
theorem trailS_none (h : oriOf m.t og c = none) (n : Nat) : trailS m og n c run = (11, []) := by
 unfold trailS; rw [h]
theorem trailS_goal (h : oriOf m.t og c = some o) (h2 : o.r = -2) (n : Nat) : trailS m og n c run = (0, run) := by
 unfold trailS; rw [h]; simp [h2]
theorem trailS_no (h : oriOf m.t og c = some o) (h2 : o.r ≠ -2) (h3 : m.rs[o.r.toNat]? = some r) (h4 : ¬ (stV c = r.fr ∧ leC r.need (csV c) = true)) (n : Nat) : trailS m og n c run = (11, []) := by
 unfold trailS; rw [h]; dsimp only; rw [if_neg h2, h3]; dsimp only; rw [if_pos h4]
theorem trailS_over (h : oriOf m.t og c = some o) (h2 : o.r ≠ -2) (h3 : m.rs[o.r.toNat]? = some r) (h4 : stV c = r.fr ∧ leC r.need (csV c) = true) (h5 : (fireC (csV c) r.need r.give).any (fun x => decide (1048576 < x)) = true) (n : Nat) : trailS m og n c run = (1, []) := by
 unfold trailS; rw [h]; dsimp only; rw [if_neg h2, h3]; dsimp only; rw [if_neg (by simpa using h4), if_pos h5]
theorem trailS_miss (h : oriOf m.t og c = some o) (h2 : o.r ≠ -2) (h3 : m.rs[o.r.toNat]? = some r) (h4 : stV c = r.fr ∧ leC r.need (csV c) = true) (h5 : (fireC (csV c) r.need r.give).any (fun x => decide (1048576 < x)) = false) (h6 : belowP 8 m.t o.nx (cfgV r.tz (fireC (csV c) r.need r.give)) = false) (n : Nat) : trailS m og n c run = (11, []) := by
 unfold trailS; rw [h]; dsimp only; rw [if_neg h2, h3]; dsimp only; rw [if_neg (by simpa using h4), if_neg (by simp [h5]), if_pos h6]
theorem trailS_end (h : oriOf m.t og c = some o) (h2 : o.r ≠ -2) (h3 : m.rs[o.r.toNat]? = some r) (h4 : stV c = r.fr ∧ leC r.need (csV c) = true) (h5 : (fireC (csV c) r.need r.give).any (fun x => decide (1048576 < x)) = false) (h6 : belowP 8 m.t o.nx (cfgV r.tz (fireC (csV c) r.need r.give)) = true) : trailS m og 0 c run = (1, []) := by
 unfold trailS; rw [h]; dsimp only; rw [if_neg h2, h3]; dsimp only; rw [if_neg (by simpa using h4), if_neg (by simp [h5]), if_neg (by simp [h6])]
theorem trailS_on (h : oriOf m.t og c = some o) (h2 : o.r ≠ -2) (h3 : m.rs[o.r.toNat]? = some r) (h4 : stV c = r.fr ∧ leC r.need (csV c) = true) (h5 : (fireC (csV c) r.need r.give).any (fun x => decide (1048576 < x)) = false) (h6 : belowP 8 m.t o.nx (cfgV r.tz (fireC (csV c) r.need r.give)) = true) (n : Nat) : trailS m og (n + 1) c run = trailS m og n (cfgV r.tz (fireC (csV c) r.need r.give)) (run ++ [⟨o.r, cfgV r.tz (fireC (csV c) r.need r.give)⟩]) := by
 rw [trailS]; rw [h]; dsimp only; rw [if_neg h2, h3]; dsimp only; rw [if_neg (by simpa using h4), if_neg (by simp [h5]), if_neg (by simp [h6])]
end
theorem bw_two {w w' : World} {g : Nat} {u v : Value} (h : Bw w w') (hg : w.heap.size ≤ g) : Bw w ((w'.setCell ⟨g, 0, none⟩ u).setCell ⟨g, 1, none⟩ v) := Bw.setCell (Bw.setCell h hg _) hg _
theorem fired_ok {m : Mdl} (hm : MdlOk m) {r : Rul} (hr : r ∈ m.rs) {st : Int} {cs : List Int} (hc : oneP 8 m.t (cfgV st cs) = true) (hn : leC r.need cs = true) (hd : (fireC cs r.need r.give).any (fun x => decide (1048576 < x)) = false) : oneP 8 m.t (cfgV r.tz (fireC cs r.need r.give)) = true := by
 obtain ⟨s', cs', e, _, _, hl, hb⟩ := cfg_parts hc
 obtain ⟨rfl, rfl⟩ := cfgV_inj e
 have R := hm.ru r hr
 have h1 : r.need.length = cs.length := by rw [R.nl, hl]
 have h2 : r.give.length = cs.length := by rw [R.gl, hl]
 refine one_flat.2 ⟨r.tz, _, rfl, R.tz.1, R.tz.2, by rw [fireC_length h1 h2, hl], fun x hx => ⟨?_, ?_⟩⟩
 · obtain ⟨j, hj, rfl⟩ := List.getElem_of_mem hx
   rw [fireC_length h1 h2] at hj
   have a := (leC_iff h1).1 hn j hj
   have b := (R.g0 j (by omega)).1
   have c := fireC_get h1 h2 hj
   simp only [List.getD_eq_getElem?_getD, List.getElem?_eq_getElem (show j < (fireC cs r.need r.give).length by rw [fireC_length h1 h2]; exact hj), Option.getD_some] at c a b
   omega
 · have := List.any_eq_false.1 hd x hx
   simpa using this
structure TrlI (m : Mdl) (og : List Ori) (tr : Int × List St) (B : Nat) (wx : World) (VA : Option Addr) (k vc cb : Nat) (wr : World) (A0 : World) (run : List St) (st : Int) (cs : List Int) (sC : Value) : Prop where
 own : OwnT B A0 (.slice VA k vc) run
 kid : KAt A0 (fun b => b < A0.heap.size ∧ (Value.slice VA k vc).ownBlock ≠ some b) sC (cfgV st cs).ks
 bw : Bw A0 wr
 blk : Blk wr cb 31 #[.int .i64 0, sC]
 cb : A0.heap.size ≤ cb
 bx : Bw wx A0
 one : oneP 8 m.t (cfgV st cs) = true
 len : run.length = k
 all : ∀ t ∈ run, oneP 8 m.t t.v = true
 le : k ≤ 64
 tr : tr = trailS m og (64 - k) (cfgV st cs) run
theorem bktrail_any (m : Mdl) (hm : MdlOk m) (hn : NmOk m) (s : Sk) (hs : SkOk m s) (st : Int) (cs : List Int) (hv : oneP 8 m.t (cfgV st cs) = true) (sv pv rv kv bv ov fv s1 : Value) (w : World) (h : MB w w.heap.size sv pv rv kv m) (h1 : SAt w (· < w.heap.size) bv ov fv s) (h2 : KB w w.heap.size s1 (cfgV st cs).ks) :
   Calls Tryz.prog 72 #[aggM sv pv rv kv, aggS bv ov fv s.us, .agg #[.int .i64 0, s1]] w (TrailPost w (trailS m s.og 64 (cfgV st cs) [])) := by
 obtain ⟨A1, c1, A2, c2, A3, c3, A4, c4, rfl, rfl, rfl, rfl⟩ := h.form
 obtain ⟨Sb, db, So, do_, Sf, df, rfl, rfl, rfl⟩ := h1.form
 obtain ⟨A5, n5, c5, rfl, _, _, _⟩ := h2.form
 obtain ⟨lo, hlo, hle⟩ := h1.o
 have CW : Hid (∀ W, Bw w W → Calls Tryz.prog 64 #[aggM (.slice A1 m.ss.length c1) (.slice A2 m.ps.length c2) (.slice A3 m.rs.length c3) (.slice A4 (1 + m.cs.length) c4)] W (NumPost W 0)) := Lib.hid (fun W g => walks_any m hm hn _ _ _ _ W (h.bw g))
 have CV : Hid (∀ W, Bw w W → Calls Tryz.prog 27 #[aggM (.slice A1 m.ss.length c1) (.slice A2 m.ps.length c2) (.slice A3 m.rs.length c3) (.slice A4 (1 + m.cs.length) c4), .agg #[.int .i64 0, .slice A5 n5 c5]] W (BoolPost W true)) := Lib.hid (fun W g => by
   have := mdValid_any m hm hn (cfgV st cs) _ _ _ _ _ W (h.bw g) (h2.bw g)
   rwa [validM hm hv] at this)
 have CO : Hid (∀ W c sC, oneP 8 m.t c = true → Bw w W → KB W W.heap.size sC c.ks → Calls Tryz.prog 122 #[aggM (.slice A1 m.ss.length c1) (.slice A2 m.ps.length c2) (.slice A3 m.rs.length c3) (.slice A4 (1 + m.cs.length) c4), .agg #[.slice Sb s.ba.length db, .slice So s.og.length do_, .slice Sf s.fr.length df, .int .i64 s.us], .agg #[.int .i64 c.n, sC]] W (fun e w' => (∃ q, lo.find? (fun q => belowP 8 m.t q.1.v c) = some q ∧ e = .returned (.tuple #[.agg #[.int .i64 q.1.v.n, q.2.1, .int .i64 q.1.r, .int .i64 q.1.nx.n, q.2.2], .bool true]) ∧ KB W W.heap.size q.2.1 q.1.v.ks ∧ KB W W.heap.size q.2.2 q.1.nx.ks ∧ Bw W w') ∨ (lo.find? (fun q => belowP 8 m.t q.1.v c) = none ∧ e = .returned (.tuple #[.agg #[.int .i64 0, .slice none 0 0, .int .i64 0, .int .i64 0, .slice none 0 0], .bool false]) ∧ Bw W w'))) := Lib.hid (fun W c sC hc g hk => by
   exact origin_any m hm hn c hc lo (fun q hq => (hs.og q.1 (by rw [← hle]; exact List.mem_map_of_mem hq)).1) Sb Sf _ db _ df s.us _ _ _ _ _ _ W (h.bw g) (hlo.bw g) hk)
 have CA : Hid (∀ W st cs sC (i : Nat) (hi : i < m.rs.length), oneP 8 m.t (cfgV st cs) = true → Bw w W → KB W W.heap.size sC (cfgV st cs).ks → Calls Tryz.prog 125 #[aggM (.slice A1 m.ss.length c1) (.slice A2 m.ps.length c2) (.slice A3 m.rs.length c3) (.slice A4 (1 + m.cs.length) c4), .int .i64 (i : Int), .agg #[.int .i64 0, sC]] W (VsB W.heap.size W (behindP m.rs[i] st cs).1 (behindP m.rs[i] st cs).2)) := Lib.hid (fun W st cs sC i hi hc g hk => sapply_any m hm hn st cs hc i hi _ _ _ _ _ W (h.bw g) hk)
 have CB : Hid (∀ W (S : Nat → Prop) (v : V) l sl sv', (∀ b, S b → b < W.heap.size) → oneP 8 m.t v = true → (∀ u ∈ l, oneP 8 m.t u = true) → Bw w W → KAt W S sl l → KB W W.heap.size sv' v.ks → Calls Tryz.prog 126 #[aggM (.slice A1 m.ss.length c1) (.slice A2 m.ps.length c2) (.slice A3 m.rs.length c3) (.slice A4 (1 + m.cs.length) c4), sl, .agg #[.int .i64 v.n, sv']] W (fun e w' => (∃ u s, l.find? (fun u => belowP 8 m.t v u) = some u ∧ e = .returned (.tuple #[.agg #[.int .i64 u.n, s], .bool true]) ∧ KAt W S s u.ks ∧ Bw W w') ∨ (l.find? (fun u => belowP 8 m.t v u) = none ∧ e = .returned (.tuple #[.agg #[.int .i64 0, .slice none 0 0], .bool false]) ∧ Bw W w'))) := Lib.hid (fun W S v l sl sv' hS hv hl g h1 h2 => aboveS_any m hm hn v hv l hl _ _ _ _ sl sv' W S hS (h.bw g) h1 h2)
 have SQ : Hid (∀ q ∈ lo, q.1.r = -2 ∨ (0 ≤ q.1.r ∧ q.1.r.toNat < m.rs.length ∧ oneP 8 m.t q.1.nx = true)) := Lib.hid (fun q hq => (hs.og q.1 (by rw [← hle]; exact List.mem_map_of_mem hq)).2.2)
 have OZ : Hid (∀ v, oneP 8 m.t v = true → v.size ≤ 8) := Lib.hid (fun v hv => one_size hm hv)
 have HLE := Lib.hid hle
 have KQ : Hid (∀ q ∈ lo, KB w w.heap.size q.2.2 q.1.nx.ks) := Lib.hid (fun q hq => by
   obtain ⟨_, _, _, _, _, _, _, _, hk⟩ := hlo
   exact hk q hq (q.2.2, q.1.nx.ks) (by simp [encO]))
 have QF : Hid (∀ q ∈ lo, (∃ A n c, q.2.1 = .slice A n c) ∧ (∃ A n c, q.2.2 = .slice A n c)) := Lib.hid (fun q hq => by
   obtain ⟨_, _, _, _, _, _, _, _, hk⟩ := hlo
   obtain ⟨A, n, c, e, _⟩ := (hk q hq (q.2.1, q.1.v.ks) (by simp [encO])).form
   obtain ⟨A', n', c', e', _⟩ := (hk q hq (q.2.2, q.1.nx.ks) (by simp [encO])).form
   exact ⟨⟨A, n, c, e⟩, ⟨A', n', c', e'⟩⟩)
 have HV := Lib.hid hv
 have HK0 := Lib.hid h2
 have HRU : Hid (∀ i (hi : i < m.rs.length) st cs, oneP 8 m.t (cfgV st cs) = true → leC m.rs[i].need cs = true → (fireC cs m.rs[i].need m.rs[i].give).any (fun x => decide (1048576 < x)) = false → oneP 8 m.t (cfgV m.rs[i].tz (fireC cs m.rs[i].need m.rs[i].give)) = true) := Lib.hid (fun i hi st cs hc h3 h4 => fired_ok hm (List.getElem_mem hi) hc h3 h4)
 clear h h1 h2 hlo hle hs hn hv
 unfold aggM aggS at *
 unfold BoolPost at CV
 generalize hog : s.og = og at *
 generalize hTR : trailS m og 64 (cfgV st cs) [] = tr at *
 have HTR := Lib.hid hTR
 clear hTR hog
 generalize s.us = us at *
 generalize s.ba.length = nb at *
 generalize og.length = no at *
 generalize s.fr.length = nf at *
 generalize m.ss.length = n at *
 generalize m.ps.length = k at *
 generalize 1 + m.cs.length = z at *
 have BX : Hid (Bw w (((w.alloc (.cells #[.int .i64 1, .slice A1 n c1, .slice A2 k c2, .slice none 0 0, .slice none 0 0, .int .i64 0, .int .i64 0, .slice A3 m.rs.length c3, .int .i64 0, .slice A4 z c4] 33)).alloc (.cells #[.slice Sb nb db, .slice So no do_, .slice Sf nf df, .int .i64 us] 67)).alloc (.cells #[.int .i64 0, .slice A5 n5 c5] 31)) ∧ ∀ W, Bw (((w.alloc (.cells #[.int .i64 1, .slice A1 n c1, .slice A2 k c2, .slice none 0 0, .slice none 0 0, .int .i64 0, .int .i64 0, .slice A3 m.rs.length c3, .int .i64 0, .slice A4 z c4] 33)).alloc (.cells #[.slice Sb nb db, .slice So no do_, .slice Sf nf df, .int .i64 us] 67)).alloc (.cells #[.int .i64 0, .slice A5 n5 c5] 31)) W → Bw w W ∧ w.heap.size < W.heap.size ∧ w.heap.size + 1 < W.heap.size ∧ w.heap.size + 1 + 1 < W.heap.size ∧ W.cell? ⟨w.heap.size, 0, none⟩ = some (.int .i64 1) ∧ W.cell? ⟨w.heap.size, 1, none⟩ = some (.slice A1 n c1) ∧ W.cell? ⟨w.heap.size, 2, none⟩ = some (.slice A2 k c2) ∧ W.cell? ⟨w.heap.size, 3, none⟩ = some (.slice none 0 0) ∧ W.cell? ⟨w.heap.size, 4, none⟩ = some (.slice none 0 0) ∧ W.cell? ⟨w.heap.size, 5, none⟩ = some (.int .i64 0) ∧ W.cell? ⟨w.heap.size, 6, none⟩ = some (.int .i64 0) ∧ W.cell? ⟨w.heap.size, 7, none⟩ = some (.slice A3 m.rs.length c3) ∧ W.cell? ⟨w.heap.size, 8, none⟩ = some (.int .i64 0) ∧ W.cell? ⟨w.heap.size, 9, none⟩ = some (.slice A4 z c4) ∧ W.cell? ⟨w.heap.size + 1, 0, none⟩ = some (.slice Sb nb db) ∧ W.cell? ⟨w.heap.size + 1, 1, none⟩ = some (.slice So no do_) ∧ W.cell? ⟨w.heap.size + 1, 2, none⟩ = some (.slice Sf nf df) ∧ W.cell? ⟨w.heap.size + 1, 3, none⟩ = some (.int .i64 us) ∧ W.cell? ⟨w.heap.size + 1 + 1, 0, none⟩ = some (.int .i64 0) ∧ W.cell? ⟨w.heap.size + 1 + 1, 1, none⟩ = some (.slice A5 n5 c5)) := Lib.hid ⟨((((Bw.refl _).alloc _).alloc _).alloc _), fun W g => by
   have h0 := (Blk.new w 33 #[.int .i64 1, .slice A1 n c1, .slice A2 k c2, .slice none 0 0, .slice none 0 0, .int .i64 0, .int .i64 0, .slice A3 m.rs.length c3, .int .i64 0, .slice A4 z c4])
   have k0 := ((h0.alloc (.cells #[.slice Sb nb db, .slice So no do_, .slice Sf nf df, .int .i64 us] 67)).alloc (.cells #[.int .i64 0, .slice A5 n5 c5] 31)).below g.b ((h0.alloc (.cells #[.slice Sb nb db, .slice So no do_, .slice Sf nf df, .int .i64 us] 67)).alloc (.cells #[.int .i64 0, .slice A5 n5 c5] 31)).lt
   have h1 := (Blk.new (w.alloc (.cells #[.int .i64 1, .slice A1 n c1, .slice A2 k c2, .slice none 0 0, .slice none 0 0, .int .i64 0, .int .i64 0, .slice A3 m.rs.length c3, .int .i64 0, .slice A4 z c4] 33)) 67 #[.slice Sb nb db, .slice So no do_, .slice Sf nf df, .int .i64 us])
   simp only [World.size_alloc] at h1
   have k1 := (h1.alloc (.cells #[.int .i64 0, .slice A5 n5 c5] 31)).below g.b (h1.alloc (.cells #[.int .i64 0, .slice A5 n5 c5] 31)).lt
   have h2 := (Blk.new ((w.alloc (.cells #[.int .i64 1, .slice A1 n c1, .slice A2 k c2, .slice none 0 0, .slice none 0 0, .int .i64 0, .int .i64 0, .slice A3 m.rs.length c3, .int .i64 0, .slice A4 z c4] 33)).alloc (.cells #[.slice Sb nb db, .slice So no do_, .slice Sf nf df, .int .i64 us] 67)) 31 #[.int .i64 0, .slice A5 n5 c5])
   simp only [World.size_alloc] at h2
   have k2 := h2.below g.b h2.lt
   exact ⟨((((Bw.refl _).alloc _).alloc _).alloc _).trans g, k0.lt, k1.lt, k2.lt, k0.cell 0, k0.cell 1, k0.cell 2, k0.cell 3, k0.cell 4, k0.cell 5, k0.cell 6, k0.cell 7, k0.cell 8, k0.cell 9, k1.cell 0, k1.cell 1, k1.cell 2, k1.cell 3, k2.cell 0, k2.cell 1⟩⟩
 go_enter Tryz.func72, Tryz.ntmps72
 go_wp2_with (first
   | (go_at_call 64; go_must (refine (CW.out _ BX.out.1).mono ?_; rintro e w1 ⟨rfl, hg⟩; (obtain ⟨-, ylt0, ylt1, ylt2, y0_0, y0_1, y0_2, y0_3, y0_4, y0_5, y0_6, y0_7, y0_8, y0_9, y1_0, y1_1, y1_2, y1_3, y2_0, y2_1⟩ := BX.out.2 _ hg); (have HG1 := Lib.hid hg); clear hg))
   | (go_at_call 27; go_must (refine (CV.out _ (BX.out.1.trans HG1.out)).mono ?_; rintro e w2 ⟨rfl, hg⟩; (have hg := HG1.out.trans hg); clear ylt0 ylt1 ylt2 y0_0 y0_1 y0_2 y0_3 y0_4 y0_5 y0_6 y0_7 y0_8 y0_9 y1_0 y1_1 y1_2 y1_3 y2_0 y2_1; (obtain ⟨-, ylt0, ylt1, ylt2, y0_0, y0_1, y0_2, y0_3, y0_4, y0_5, y0_6, y0_7, y0_8, y0_9, y1_0, y1_1, y1_2, y1_3, y2_0, y2_1⟩ := BX.out.2 _ hg); (have HG2 := Lib.hid hg); clear hg)))
 go_loopw [10, 11] (fun rn cp wr => ∃ kk VA vc cb, rn = .slice VA kk vc ∧ cp = .pointer (some ⟨cb, 0, none⟩) ∧ kk ≤ 64 ∧ Hid (∃ A0 run st cs sC, TrlI m og tr (w.heap.size + 1 + 1 + 1) (((w.alloc (.cells #[.int .i64 1, .slice A1 n c1, .slice A2 k c2, .slice none 0 0, .slice none 0 0, .int .i64 0, .int .i64 0, .slice A3 m.rs.length c3, .int .i64 0, .slice A4 z c4] 33)).alloc (.cells #[.slice Sb nb db, .slice So no do_, .slice Sf nf df, .int .i64 us] 67)).alloc (.cells #[.int .i64 0, .slice A5 n5 c5] 31)) VA kk vc cb wr A0 run st cs sC)) (fun rn _ _ => (65 - (match rn with | .slice _ k _ => k | _ => 0)))
 case atStart =>
   have hkk : KAt w2 (fun b => b < w2.heap.size ∧ (Value.slice none 0 0).ownBlock ≠ some b) (.slice A5 n5 c5) (cfgV st cs).ks := HK0.out.keep (fun b hb => ⟨Nat.lt_of_lt_of_le hb (BX.out.1.trans HG2.out).size, by simp [Value.ownBlock]⟩) (fun p hp => (BX.out.1.trans HG2.out).b.cell hp)
   exact ⟨0, none, 0, w2.heap.size, rfl, rfl, (by omega), Lib.hid ⟨w2, [], st, cs, _, ⟨⟨[], ERow.nil _ _ _ _, rfl⟩, hkk, (Bw.refl _).alloc _, Blk.new _ _ _, Nat.le_refl _, HG2.out, HV.out, rfl, fun t ht => absurd ht (by simp), by omega, HTR.out.symm⟩⟩⟩
 case round =>
   obtain ⟨kk, VA, vc, cb, rfl, rfl, hk64, HR⟩ := hrel
   obtain ⟨A0, run, st', cs', sC, hT⟩ := HR.out
   have HT := Lib.hid hT
   have hkC := hT.kid
   obtain ⟨As, ns, ss, rfl, _, _, _⟩ := hkC.form
   have hx0 : Bw (((w.alloc (.cells #[.int .i64 1, .slice A1 n c1, .slice A2 k c2, .slice none 0 0, .slice none 0 0, .int .i64 0, .int .i64 0, .slice A3 m.rs.length c3, .int .i64 0, .slice A4 z c4] 33)).alloc (.cells #[.slice Sb nb db, .slice So no do_, .slice Sf nf df, .int .i64 us] 67)).alloc (.cells #[.int .i64 0, .slice A5 n5 c5] 31)) wr := hT.bx.trans hT.bw
   obtain ⟨-, ylt0, ylt1, ylt2, y0_0, y0_1, y0_2, y0_3, y0_4, y0_5, y0_6, y0_7, y0_8, y0_9, y1_0, y1_1, y1_2, y1_3, y2_0, y2_1⟩ := BX.out.2 _ hx0
   have e0 : wr.cell? ⟨cb, 0, none⟩ = some (.int .i64 0) := hT.blk.cell 0
   have e1 : wr.cell? ⟨cb, 1, none⟩ = some (.slice As ns ss) := hT.blk.cell 1
   have el := hT.blk.lt
   have hkW : KB wr wr.heap.size (.slice As ns ss) (cfgV st' cs').ks := hkC.keep (fun b hb => Nat.lt_of_lt_of_le hb.1 hT.bw.size) (fun p hp => hT.bw.b.cell hp.1)
   have HKW := Lib.hid hkW
   have HX0 := Lib.hid hx0
   have htr := hT.tr
   have hone := hT.one
   have CO1 := CO.out wr (cfgV st' cs') (.slice As ns ss) hone (BX.out.1.trans hx0) hkW
   have hfe := find_fst HLE.out (fun o => belowP 8 m.t o.v (cfgV st' cs'))
   clear HR hkC hkW
   have HBC := Lib.hid hT.blk
   have STP : Hid (∀ W, Bw A0 W → Calls Tryz.prog 123 #[.slice VA kk vc] W (StpsF W run)) := Lib.hid (fun W g => by
     obtain ⟨ps, hE, hme⟩ := hT.own.eat
     have := shsteps_any ps (fun q hq => by have := OZ.out _ (hT.all q.1 (by rw [← hme]; exact List.mem_map_of_mem hq)); omega) (by have := hT.len; have := congrArg List.length hme; simp at this; omega) _ W ((hE.keep (S' := fun b => b < A0.heap.size) (fun b hb => hb.2) (fun _ _ => rfl)).bw g)
     rwa [hme] at this)
   have HAW := Lib.hid hT.bw
   rcases hfo : lo.find? (fun q => belowP 8 m.t q.1.v (cfgV st' cs')) with _ | q
   · have CO2 : Hid (Calls Tryz.prog 122 #[.agg #[.int .i64 1, .slice A1 n c1, .slice A2 k c2, .slice none 0 0, .slice none 0 0, .int .i64 0, .int .i64 0, .slice A3 m.rs.length c3, .int .i64 0, .slice A4 z c4], .agg #[.slice Sb nb db, .slice So no do_, .slice Sf nf df, .int .i64 us], .agg #[.int .i64 0, .slice As ns ss]] wr (fun e w' => e = .returned (.tuple #[.agg #[.int .i64 0, .slice none 0 0, .int .i64 0, .int .i64 0, .slice none 0 0], .bool false]) ∧ Bw wr w')) := Lib.hid (CO1.mono (by
       rintro e w' (⟨q, h3, _⟩ | ⟨_, h4, h5⟩)
       · rw [hfo] at h3; cases h3
       · exact ⟨h4, h5⟩))
     rw [hfo] at hfe
     have HR : Hid (tr = (11, [])) := Lib.hid (by rw [htr]; exact trailS_none hfe _)
     clear CO1 hfe htr hT hfo
     go_wp2_with (go_at_call 122; go_must (refine CO2.out.mono ?_; rintro e w3 ⟨rfl, hg3⟩; (have HG3 := Lib.hid hg3); clear hg3))
     go_ret2
     rw [HR.out]
     exact TrailPost.err ((BX.out.1.trans HX0.out).trans (HG3.out.alloc _))
   · have hqm : q ∈ lo := List.mem_of_find?_eq_some hfo
     obtain ⟨⟨Aq, nq, cq, eq1⟩, ⟨Ar, nr, cr, eq2⟩⟩ := QF.out q hqm
     have CO2 : Hid (Calls Tryz.prog 122 #[.agg #[.int .i64 1, .slice A1 n c1, .slice A2 k c2, .slice none 0 0, .slice none 0 0, .int .i64 0, .int .i64 0, .slice A3 m.rs.length c3, .int .i64 0, .slice A4 z c4], .agg #[.slice Sb nb db, .slice So no do_, .slice Sf nf df, .int .i64 us], .agg #[.int .i64 0, .slice As ns ss]] wr (fun e w' => e = .returned (.tuple #[.agg #[.int .i64 q.1.v.n, .slice Aq nq cq, .int .i64 q.1.r, .int .i64 q.1.nx.n, .slice Ar nr cr], .bool true]) ∧ KB wr wr.heap.size (.slice Aq nq cq) q.1.v.ks ∧ KB wr wr.heap.size (.slice Ar nr cr) q.1.nx.ks ∧ Bw wr w')) := Lib.hid (CO1.mono (by
       rintro e w' (⟨q', h3, h4, h5, h6, h7⟩ | ⟨h3, _⟩)
       · rw [hfo] at h3
         injection h3 with h3
         subst h3
         rw [eq1, eq2] at h4
         rw [eq1] at h5
         rw [eq2] at h6
         exact ⟨h4, h5, h6, h7⟩
       · rw [hfo] at h3; cases h3))
     rw [hfo] at hfe
     have hfe : oriOf m.t og (cfgV st' cs') = some q.1 := hfe
     have hsq := SQ.out q hqm
     have hkr0 : KB wr wr.heap.size (.slice Ar nr cr) q.1.nx.ks := by
       have h9 := KQ.out q hqm
       rw [eq2] at h9
       exact h9.bw (BX.out.1.trans HX0.out)
     clear CO1 hfo hqm eq1 eq2
     generalize q.1 = o at *
     obtain ⟨ov, hov⟩ : ∃ ov, o.v.n = ov := ⟨_, rfl⟩
     obtain ⟨orr, hor⟩ : ∃ orr, o.r = orr := ⟨_, rfl⟩
     obtain ⟨onx, hon⟩ : ∃ onx, o.nx.n = onx := ⟨_, rfl⟩
     rw [hov, hor, hon] at CO2
     rw [hor] at hsq
     have HOR := Lib.hid (And.intro hor hon)
     have HKR : Hid (KB wr wr.heap.size (.slice Ar nr cr) o.nx.ks) := Lib.hid hkr0
     have HT := Lib.hid hT
     have HFE := Lib.hid hfe
     have HTR2 := Lib.hid htr
     clear hov hor hon hT hfe htr
     by_cases hgoal : orr = -2
     · have dg : (orr == -2) = true := by simpa using hgoal
       subst hgoal
       clear dg
       have HR : Hid (tr = (0, run)) := Lib.hid (by rw [HTR2.out]; exact trailS_goal HFE.out HOR.out.1 _)
       go_wp2_with (first
         | (go_at_call 122; go_must (refine CO2.out.mono ?_; rintro e w3 ⟨rfl, hk31, hk32, hg3⟩; (have hx3 := (HX0.out.trans hg3).trans ((Bw.refl w3).alloc (.cells #[.int .i64 ov, .slice Aq nq cq, .int .i64 (-2), .int .i64 onx, .slice Ar nr cr] 112))); clear ylt0 ylt1 ylt2 y0_0 y0_1 y0_2 y0_3 y0_4 y0_5 y0_6 y0_7 y0_8 y0_9 y1_0 y1_1 y1_2 y1_3 y2_0 y2_1; (obtain ⟨-, ylt0, ylt1, ylt2, y0_0, y0_1, y0_2, y0_3, y0_4, y0_5, y0_6, y0_7, y0_8, y0_9, y1_0, y1_1, y1_2, y1_3, y2_0, y2_1⟩ := BX.out.2 _ hx3); (have hbc3 := (HBC.out.below hg3.b HBC.out.lt).alloc (.cells #[.int .i64 ov, .slice Aq nq cq, .int .i64 (-2), .int .i64 onx, .slice Ar nr cr] 112)); (have c30 := hbc3.cell 0); (have c31 := hbc3.cell 1); (have c3l := hbc3.lt); (have hbo3 := Blk.new w3 112 #[.int .i64 ov, .slice Aq nq cq, .int .i64 (-2), .int .i64 onx, .slice Ar nr cr]); (have HX3 := Lib.hid hx3); (have HS3 : Hid (wr.heap.size ≤ w3.heap.size) := Lib.hid hg3.size); (have HG3 := Lib.hid (hg3.trans ((Bw.refl w3).alloc (.cells #[.int .i64 ov, .slice Aq nq cq, .int .i64 (-2), .int .i64 onx, .slice Ar nr cr] 112)))); (have HBC3 := Lib.hid hbc3); (have HBO3 := Lib.hid hbo3); (have CS3 := Lib.hid (STP.out _ (HAW.out.trans (hg3.trans ((Bw.refl w3).alloc (.cells #[.int .i64 ov, .slice Aq nq cq, .int .i64 (-2), .int .i64 onx, .slice Ar nr cr] 112)))))); clear e0 e1 el hk31 hk32 hg3 hx3 hbc3 hbo3))
         | (go_at_call 123; go_must (refine CS3.out.mono ?_; rintro e w4 ⟨s4, ps4, rfl, hE4, hm4, hg4⟩; obtain ⟨A4s, c4s, rfl, _, _⟩ := hE4.form; (have HE4 := Lib.hid hE4); (have HM4 := Lib.hid hm4); (have HG4 := Lib.hid hg4); clear hE4 hm4 hg4)))
       go_ret2
       rw [HR.out]
       exact ⟨_, ps4, rfl, HE4.out.keep (fun b hb => ⟨Nat.le_trans ((BX.out.1.trans HX3.out).size) hb.1, hb.2⟩) (fun _ _ => rfl), HM4.out, (BX.out.1.trans HX3.out).trans HG4.out⟩
     · have dg : (orr == -2) = false := by simpa using hgoal
       obtain ⟨h00, hil, hnx⟩ := hsq.resolve_left hgoal
       obtain ⟨i, rfl⟩ := Int.eq_ofNat_of_zero_le h00
       rw [Int.toNat_natCast] at hil
       have hri : m.rs[o.r.toNat]? = some m.rs[i] := by rw [HOR.out.1, Int.toNat_natCast, List.getElem?_eq_getElem hil]
       have hne : o.r ≠ -2 := by rw [HOR.out.1]; exact hgoal
       have hone := HT.out.one
       have HRI := Lib.hid (And.intro hri hne)
       have CAP0 : Hid (∀ W, Bw wr W → Calls Tryz.prog 125 #[.agg #[.int .i64 1, .slice A1 n c1, .slice A2 k c2, .slice none 0 0, .slice none 0 0, .int .i64 0, .int .i64 0, .slice A3 m.rs.length c3, .int .i64 0, .slice A4 z c4], .int .i64 (i : Int), .agg #[.int .i64 0, .slice As ns ss]] W (VsB W.heap.size W (behindP m.rs[i] st' cs').1 (behindP m.rs[i] st' cs').2)) := Lib.hid (fun W g => CA.out W st' cs' _ i hil hone ((BX.out.1.trans HX0.out).trans g) (HKW.out.bw g))
       unfold VsB at CAP0
       have HNX := Lib.hid hnx
       clear hri hne hnx hsq
       have hbe : (behindP m.rs[i] st' cs') = (if canB m.rs[i] st' cs' then (if (fireC cs' m.rs[i].need m.rs[i].give).any (fun x => decide (1048576 < x)) then ([], 1) else ([cfgV m.rs[i].tz (fireC cs' m.rs[i].need m.rs[i].give)], 0)) else ([], 0)) := rfl
       by_cases hcan : canB m.rs[i] st' cs' = true
       · have hcan2 : stV (cfgV st' cs') = m.rs[i].fr ∧ leC m.rs[i].need (csV (cfgV st' cs')) = true := by
           unfold canB at hcan
           rw [Bool.and_eq_true, decide_eq_true_eq] at hcan
           rw [stV_cfg, csV_cfg]; exact hcan
         rcases hov2 : (fireC cs' m.rs[i].need m.rs[i].give).any (fun x => decide (1048576 < x)) with _ | _
         · have hxo := HRU.out i hil st' cs' hone (by have := hcan2.2; rwa [csV_cfg] at this) hov2
           rw [hbe, if_pos hcan, hov2] at CAP0
           have CAP := CAP0
           simp only [Bool.false_eq_true, if_false] at CAP
           have hov3 : (fireC (csV (cfgV st' cs')) m.rs[i].need m.rs[i].give).any (fun x => decide (1048576 < x)) = false := by rw [csV_cfg]; exact hov2
           obtain ⟨xd, hxd⟩ : ∃ xd, fireC cs' m.rs[i].need m.rs[i].give = xd := ⟨_, rfl⟩
           have hxd2 : fireC (csV (cfgV st' cs')) m.rs[i].need m.rs[i].give = xd := by rw [csV_cfg]; exact hxd
           rw [hxd] at CAP hxo
           clear CAP0 hbe hcan hov2
           rcases hbl : belowP 8 m.t o.nx (cfgV m.rs[i].tz xd) with _ | _
           · have HR : Hid (tr = (11, [])) := Lib.hid (by rw [HTR2.out]; exact trailS_miss HFE.out HRI.out.2 HRI.out.1 hcan2 hov3 (by rw [hxd2]; exact hbl) _)
             have CBQ : Hid (∀ W4 (B : Nat) s4, KAt W4 (fun b => B ≤ b ∧ b < W4.heap.size) s4 [cfgV m.rs[i].tz xd] → Bw wr W4 → Calls Tryz.prog 126 #[.agg #[.int .i64 1, .slice A1 n c1, .slice A2 k c2, .slice none 0 0, .slice none 0 0, .int .i64 0, .int .i64 0, .slice A3 m.rs.length c3, .int .i64 0, .slice A4 z c4], s4, .agg #[.int .i64 onx, .slice Ar nr cr]] W4 (fun e w' => e = .returned (.tuple #[.agg #[.int .i64 0, .slice none 0 0], .bool false]) ∧ Bw W4 w')) := Lib.hid (fun W4 B s4 hk g => by
               have := CB.out W4 _ o.nx [cfgV m.rs[i].tz xd] s4 (.slice Ar nr cr) (fun b hb => hb.2) HNX.out (fun u hu => by obtain rfl := List.mem_singleton.1 hu; exact hxo) ((BX.out.1.trans HX0.out).trans g) hk (HKR.out.bw g)
               rw [HOR.out.2] at this
               refine this.mono ?_
               rintro e w' (⟨u, s, h3, _⟩ | ⟨_, h4, h5⟩)
               · simp [List.find?, hbl] at h3
               · exact ⟨h4, h5⟩)
             clear hcan2 hov3 hxd hxd2 hbl hxo
             go_wp2_with (first
               | (go_at_call 122; go_must (refine CO2.out.mono ?_; rintro e w3 ⟨rfl, hk31, hk32, hg3⟩; (have hx3 := (HX0.out.trans hg3).trans ((Bw.refl w3).alloc (.cells #[.int .i64 ov, .slice Aq nq cq, .int .i64 (i : Int), .int .i64 onx, .slice Ar nr cr] 112))); clear ylt0 ylt1 ylt2 y0_0 y0_1 y0_2 y0_3 y0_4 y0_5 y0_6 y0_7 y0_8 y0_9 y1_0 y1_1 y1_2 y1_3 y2_0 y2_1; (obtain ⟨-, ylt0, ylt1, ylt2, y0_0, y0_1, y0_2, y0_3, y0_4, y0_5, y0_6, y0_7, y0_8, y0_9, y1_0, y1_1, y1_2, y1_3, y2_0, y2_1⟩ := BX.out.2 _ hx3); (have hbc3 := (HBC.out.below hg3.b HBC.out.lt).alloc (.cells #[.int .i64 ov, .slice Aq nq cq, .int .i64 (i : Int), .int .i64 onx, .slice Ar nr cr] 112)); (have c30 := hbc3.cell 0); (have c31 := hbc3.cell 1); (have c3l := hbc3.lt); (have hbo3 := Blk.new w3 112 #[.int .i64 ov, .slice Aq nq cq, .int .i64 (i : Int), .int .i64 onx, .slice Ar nr cr]); (have HX3 := Lib.hid hx3); (have HS3 : Hid (wr.heap.size ≤ w3.heap.size) := Lib.hid hg3.size); (have HG3 := Lib.hid (hg3.trans ((Bw.refl w3).alloc (.cells #[.int .i64 ov, .slice Aq nq cq, .int .i64 (i : Int), .int .i64 onx, .slice Ar nr cr] 112)))); (have HBC3 := Lib.hid hbc3); (have HBO3 := Lib.hid hbo3);  clear e0 e1 el hk31 hk32 hg3 hx3 hbc3 hbo3))
               | (go_at_call 125; go_must (refine (CAP.out _ HG3.out).mono ?_; rintro e w4 ⟨s4, rfl, hk4, hg4⟩; obtain ⟨A4s, n4s, c4s, rfl, l4s, _, _⟩ := hk4.form; (have hx4 := HX3.out.trans hg4); clear ylt0 ylt1 ylt2 y0_0 y0_1 y0_2 y0_3 y0_4 y0_5 y0_6 y0_7 y0_8 y0_9 y1_0 y1_1 y1_2 y1_3 y2_0 y2_1; (obtain ⟨-, ylt0, ylt1, ylt2, y0_0, y0_1, y0_2, y0_3, y0_4, y0_5, y0_6, y0_7, y0_8, y0_9, y1_0, y1_1, y1_2, y1_3, y2_0, y2_1⟩ := BX.out.2 _ hx4); (have hbc4 := HBC3.out.below hg4.b HBC3.out.lt); (have hbo4 := HBO3.out.below hg4.b HBO3.out.lt); (have o40 := hbo4.cell 0); (have o41 := hbo4.cell 1); (have o42 := hbo4.cell 2); (have o43 := hbo4.cell 3); (have o44 := hbo4.cell 4); (have o4l := hbo4.lt); (have HX4 := Lib.hid hx4); (have HK4 := Lib.hid hk4); (have HG4 := Lib.hid hg4); (have HBC4 := Lib.hid hbc4); (have HBO4 := Lib.hid hbo4); (have CB4 := Lib.hid (CBQ.out _ _ _ hk4 (HG3.out.trans hg4))); clear c30 c31 c3l hk4 hg4 hx4 hbc4 hbo4))
               | (go_at_call 126; go_must (refine CB4.out.mono ?_; rintro e w5 ⟨rfl, hg5⟩; (have hbc5 := HBC4.out.below hg5.b HBC4.out.lt); (have m0 := hbc5.cell 0); (have m1 := hbc5.cell 1); (have f0 := hbc5.frozen 0); (have f1 := hbc5.frozen 1); (have ml := hbc5.lt); (have HBC5 := Lib.hid hbc5); (have HX5 := Lib.hid (HX4.out.trans hg5)); clear hg5 hbc5)))
             go_ret2
             rw [HR.out]
             exact TrailPost.err (bw_two (BX.out.1.trans HX5.out) (by have := HT.out.cb; have := (BX.out.1.trans HT.out.bx).size; omega))
           · have CBQ : Hid (∀ W4 (B : Nat) s4, KAt W4 (fun b => B ≤ b ∧ b < W4.heap.size) s4 [cfgV m.rs[i].tz xd] → Bw wr W4 → Calls Tryz.prog 126 #[.agg #[.int .i64 1, .slice A1 n c1, .slice A2 k c2, .slice none 0 0, .slice none 0 0, .int .i64 0, .int .i64 0, .slice A3 m.rs.length c3, .int .i64 0, .slice A4 z c4], s4, .agg #[.int .i64 onx, .slice Ar nr cr]] W4 (fun e w' => ∃ s, e = .returned (.tuple #[.agg #[.int .i64 0, s], .bool true]) ∧ KAt W4 (fun b => B ≤ b ∧ b < W4.heap.size) s (cfgV m.rs[i].tz xd).ks ∧ Bw W4 w')) := Lib.hid (fun W4 B s4 hk g => by
               have := CB.out W4 _ o.nx [cfgV m.rs[i].tz xd] s4 (.slice Ar nr cr) (fun b hb => hb.2) HNX.out (fun u hu => by obtain rfl := List.mem_singleton.1 hu; exact hxo) ((BX.out.1.trans HX0.out).trans g) hk (HKR.out.bw g)
               rw [HOR.out.2] at this
               refine this.mono ?_
               rintro e w' (⟨u, s, h3, h4, h5, h6⟩ | ⟨h3, _⟩)
               · simp [List.find?, hbl] at h3
                 subst h3
                 exact ⟨s, h4, h5, h6⟩
               · simp [List.find?, hbl] at h3)
             obtain ⟨psr, hrow, hpe⟩ := HT.out.own
             have hpl : psr.length = kk := by have := congrArg List.length hpe; simp at this; have := HT.out.len; omega
             have HOLT : Hid (∀ g, (Value.slice VA kk vc).ownBlock = some g → g < A0.heap.size) := Lib.hid (fun g e => (hrow.own.lt g e).2)
             have HROWN : Hid (∀ W, Bw A0 W → W.ownsRow (w.heap.size + 1 + 1 + 1) 62 3 (.slice VA kk vc) kk (psr.flatMap encS.enc)) := Lib.hid (fun W g => by
               have := own_kept_below hrow.own g
               rw [hpl] at this; exact this)
             have HROW := Lib.hid hrow
             have HPE := Lib.hid hpe
             have HPL := Lib.hid hpl
             obtain ⟨i0, hi0, hz0, hz1, hz2⟩ := info_parts infoStepB
             have HC2 := Lib.hid (And.intro hcan2 (And.intro hov3 (And.intro hxd2 (And.intro hbl hxo))))
             clear hcan2 hov3 hxd hxd2 hbl hxo hrow hpe hpl
             by_cases hk4 : kk = 64
             · have HR : Hid (tr = (1, [])) := Lib.hid (by
                 rw [HTR2.out, show 64 - kk = 0 by omega]
                 exact trailS_end HFE.out HRI.out.2 HRI.out.1 HC2.out.1 HC2.out.2.1 (by rw [HC2.out.2.2.1]; exact HC2.out.2.2.2.1))
               have dk : decide ((64 : Int) < (kk : Int) + 1) = true := by (simp <;> omega)
               have dk2 : (64 : Int) < (kk : Int) + 1 := by omega
               clear hk4
               go_wp2_with (first
                 | (go_at_call 122; go_must (refine CO2.out.mono ?_; rintro e w3 ⟨rfl, hk31, hk32, hg3⟩; (have hx3 := (HX0.out.trans hg3).trans ((Bw.refl w3).alloc (.cells #[.int .i64 ov, .slice Aq nq cq, .int .i64 (i : Int), .int .i64 onx, .slice Ar nr cr] 112))); clear ylt0 ylt1 ylt2 y0_0 y0_1 y0_2 y0_3 y0_4 y0_5 y0_6 y0_7 y0_8 y0_9 y1_0 y1_1 y1_2 y1_3 y2_0 y2_1; (obtain ⟨-, ylt0, ylt1, ylt2, y0_0, y0_1, y0_2, y0_3, y0_4, y0_5, y0_6, y0_7, y0_8, y0_9, y1_0, y1_1, y1_2, y1_3, y2_0, y2_1⟩ := BX.out.2 _ hx3); (have hbc3 := (HBC.out.below hg3.b HBC.out.lt).alloc (.cells #[.int .i64 ov, .slice Aq nq cq, .int .i64 (i : Int), .int .i64 onx, .slice Ar nr cr] 112)); (have c30 := hbc3.cell 0); (have c31 := hbc3.cell 1); (have c3l := hbc3.lt); (have hbo3 := Blk.new w3 112 #[.int .i64 ov, .slice Aq nq cq, .int .i64 (i : Int), .int .i64 onx, .slice Ar nr cr]); (have HX3 := Lib.hid hx3); (have HS3 : Hid (wr.heap.size ≤ w3.heap.size) := Lib.hid hg3.size); (have HG3 := Lib.hid (hg3.trans ((Bw.refl w3).alloc (.cells #[.int .i64 ov, .slice Aq nq cq, .int .i64 (i : Int), .int .i64 onx, .slice Ar nr cr] 112)))); (have HBC3 := Lib.hid hbc3); (have HBO3 := Lib.hid hbo3);  clear e0 e1 el hk31 hk32 hg3 hx3 hbc3 hbo3))
                 | (go_at_call 125; go_must (refine (CAP.out _ HG3.out).mono ?_; rintro e w4 ⟨s4, rfl, hk4, hg4⟩; obtain ⟨A4s, n4s, c4s, rfl, l4s, _, _⟩ := hk4.form; (have hx4 := HX3.out.trans hg4); clear ylt0 ylt1 ylt2 y0_0 y0_1 y0_2 y0_3 y0_4 y0_5 y0_6 y0_7 y0_8 y0_9 y1_0 y1_1 y1_2 y1_3 y2_0 y2_1; (obtain ⟨-, ylt0, ylt1, ylt2, y0_0, y0_1, y0_2, y0_3, y0_4, y0_5, y0_6, y0_7, y0_8, y0_9, y1_0, y1_1, y1_2, y1_3, y2_0, y2_1⟩ := BX.out.2 _ hx4); (have hbc4 := HBC3.out.below hg4.b HBC3.out.lt); (have hbo4 := HBO3.out.below hg4.b HBO3.out.lt); (have o40 := hbo4.cell 0); (have o41 := hbo4.cell 1); (have o42 := hbo4.cell 2); (have o43 := hbo4.cell 3); (have o44 := hbo4.cell 4); (have o4l := hbo4.lt); (have HX4 := Lib.hid hx4); (have HK4 := Lib.hid hk4); (have HG4 := Lib.hid hg4); (have HBC4 := Lib.hid hbc4); (have HBO4 := Lib.hid hbo4); (have CB4 := Lib.hid (CBQ.out _ _ _ hk4 (HG3.out.trans hg4))); clear c30 c31 c3l hk4 hg4 hx4 hbc4 hbo4))
                 | (go_at_call 126; go_must (refine CB4.out.mono ?_; rintro e w5 ⟨s5, rfl, hk5, hg5⟩; obtain ⟨A5s, n5s, c5s, rfl, _, _, _⟩ := hk5.form; (have hbc5 := HBC4.out.below hg5.b HBC4.out.lt); (have m0 := hbc5.cell 0); (have m1 := hbc5.cell 1); (have f0 := hbc5.frozen 0); (have f1 := hbc5.frozen 1); (have ml := hbc5.lt); (have hbo5 := HBO4.out.below hg5.b HBO4.out.lt); (have hneo : w3.heap.size ≠ cb := fun e => by have := HBC.out.lt; have := HS3.out; omega); (have o52 : ∀ u v, ((w5.setCell ⟨cb, 0, none⟩ u).setCell ⟨cb, 1, none⟩ v).cell? ⟨w3.heap.size, 2, none⟩ = some (.int .i64 (i : Int)) := fun u v => (World.cell?_setCell_other _ _ _ _ (fun e => hneo (by have := congrArg Addr.block e; simpa using this.symm))).trans ((World.cell?_setCell_other _ _ _ _ (fun e => hneo (by have := congrArg Addr.block e; simpa using this.symm))).trans (hbo5.cell 2))); (have hbs5 := blk2 (v0 := .int .i64 0) (v1 := .slice A5s n5s c5s) hbc5); (have m2 := hbs5.1.cell 0); (have m3 := hbs5.1.cell 1); (have hA5 : Bw A0 ((w5.setCell ⟨cb, 0, none⟩ (.int .i64 0)).setCell ⟨cb, 1, none⟩ (.slice A5s n5s c5s)) := bw_two (((HAW.out.trans HG3.out).trans HG4.out).trans hg5) HT.out.cb); (have HA5 := Lib.hid hA5); (have hs5 := hA5.size); (have HBS5 := Lib.hid hbs5.1); (have HK5 := Lib.hid hk5); (have HG5 := Lib.hid hg5); (have HX5 := Lib.hid (HX4.out.trans hg5)); (have HS5 : Hid (w3.heap.size + 1 ≤ w4.heap.size ∧ w4.heap.size ≤ ((w5.setCell ⟨cb, 0, none⟩ (.int .i64 0)).setCell ⟨cb, 1, none⟩ (.slice A5s n5s c5s)).heap.size) := Lib.hid ⟨by have := HG4.out.size; rwa [World.size_alloc] at this, by have := hg5.size; simpa using this⟩); clear hg5 hbc5 hbo5 hbs5 hA5 hk5))
                 | (at_builtin; go_must (refine wpList_append_any _ rfl _ _ 35 rfl (w.heap.size + 1 + 1 + 1) 62 i0 _ 3 40 Tryz.underlying35 hi0 hz0 hz1 hz2 rfl (by decide) (.slice VA kk vc) kk (psr.flatMap encS.enc) rfl ((HROWN.out _ HA5.out).alloc (.cells #[.int .i64 (i : Int), .int .i64 0, .slice A5s n5s c5s] 62)) (((w5.setCell ⟨cb, 0, none⟩ (.int .i64 0)).setCell ⟨cb, 1, none⟩ (.slice A5s n5s c5s)).heap.size + 1) (some ⟨w5.heap.size, 0, none⟩) 1 1 [.int .i64 (i : Int), .int .i64 0, .slice A5s n5s c5s] rfl (by have := reads_new3 ((w5.setCell ⟨cb, 0, none⟩ (.int .i64 0)).setCell ⟨cb, 1, none⟩ (.slice A5s n5s c5s)) 62 (.int .i64 (i : Int)) (.int .i64 0) (.slice A5s n5s c5s); simpa using this) (stp3 _ _ _ _ _) (by unfold maxLen; omega) (by omega) (by simp; have := (BX.out.1.trans HX5.out).size; have := HX5.out.size; simp at this; omega) ?_; intro v7 w7 hown7 hgr7 hl7; obtain ⟨A7, c7, rfl⟩ := own_form hown7; (have hcb7 := (HBS5.out.alloc (.cells #[.int .i64 (i : Int), .int .i64 0, .slice A5s n5s c5s] 62)).grown hgr7 (fun e => by have := HOLT.out _ e.symm; have := HT.out.cb; omega)); (have m4 := hcb7.cell 0); (have m5 := hcb7.cell 1); (have m6 := hcb7.lt); (have HO7 := Lib.hid hown7); (have HG7 := Lib.hid hgr7); (have HL7 := Lib.hid hl7); clear hown7 hgr7 hl7 hcb7)))
               have hA7 := HA5.out.alloc (.cells #[.int .i64 (i : Int), .int .i64 0, .slice A5s n5s c5s] 62)
               have hB7 : Bw w w7 := bw_gb ((BX.out.1.trans HT.out.bx).trans hA7) HG7.out (fun r e => by have := (HROW.out.own.lt r e).1; omega)
               go_ret2
               rw [HR.out]
               exact TrailPost.err hB7
             · have dk : decide ((64 : Int) < (kk : Int) + 1) = false := by (simp <;> omega)
               have dk2 : ¬ (64 : Int) < (kk : Int) + 1 := by omega
               go_wp2_with (first
                 | (go_at_call 122; go_must (refine CO2.out.mono ?_; rintro e w3 ⟨rfl, hk31, hk32, hg3⟩; (have hx3 := (HX0.out.trans hg3).trans ((Bw.refl w3).alloc (.cells #[.int .i64 ov, .slice Aq nq cq, .int .i64 (i : Int), .int .i64 onx, .slice Ar nr cr] 112))); clear ylt0 ylt1 ylt2 y0_0 y0_1 y0_2 y0_3 y0_4 y0_5 y0_6 y0_7 y0_8 y0_9 y1_0 y1_1 y1_2 y1_3 y2_0 y2_1; (obtain ⟨-, ylt0, ylt1, ylt2, y0_0, y0_1, y0_2, y0_3, y0_4, y0_5, y0_6, y0_7, y0_8, y0_9, y1_0, y1_1, y1_2, y1_3, y2_0, y2_1⟩ := BX.out.2 _ hx3); (have hbc3 := (HBC.out.below hg3.b HBC.out.lt).alloc (.cells #[.int .i64 ov, .slice Aq nq cq, .int .i64 (i : Int), .int .i64 onx, .slice Ar nr cr] 112)); (have c30 := hbc3.cell 0); (have c31 := hbc3.cell 1); (have c3l := hbc3.lt); (have hbo3 := Blk.new w3 112 #[.int .i64 ov, .slice Aq nq cq, .int .i64 (i : Int), .int .i64 onx, .slice Ar nr cr]); (have HX3 := Lib.hid hx3); (have HS3 : Hid (wr.heap.size ≤ w3.heap.size) := Lib.hid hg3.size); (have HG3 := Lib.hid (hg3.trans ((Bw.refl w3).alloc (.cells #[.int .i64 ov, .slice Aq nq cq, .int .i64 (i : Int), .int .i64 onx, .slice Ar nr cr] 112)))); (have HBC3 := Lib.hid hbc3); (have HBO3 := Lib.hid hbo3);  clear e0 e1 el hk31 hk32 hg3 hx3 hbc3 hbo3))
                 | (go_at_call 125; go_must (refine (CAP.out _ HG3.out).mono ?_; rintro e w4 ⟨s4, rfl, hk4, hg4⟩; obtain ⟨A4s, n4s, c4s, rfl, l4s, _, _⟩ := hk4.form; (have hx4 := HX3.out.trans hg4); clear ylt0 ylt1 ylt2 y0_0 y0_1 y0_2 y0_3 y0_4 y0_5 y0_6 y0_7 y0_8 y0_9 y1_0 y1_1 y1_2 y1_3 y2_0 y2_1; (obtain ⟨-, ylt0, ylt1, ylt2, y0_0, y0_1, y0_2, y0_3, y0_4, y0_5, y0_6, y0_7, y0_8, y0_9, y1_0, y1_1, y1_2, y1_3, y2_0, y2_1⟩ := BX.out.2 _ hx4); (have hbc4 := HBC3.out.below hg4.b HBC3.out.lt); (have hbo4 := HBO3.out.below hg4.b HBO3.out.lt); (have o40 := hbo4.cell 0); (have o41 := hbo4.cell 1); (have o42 := hbo4.cell 2); (have o43 := hbo4.cell 3); (have o44 := hbo4.cell 4); (have o4l := hbo4.lt); (have HX4 := Lib.hid hx4); (have HK4 := Lib.hid hk4); (have HG4 := Lib.hid hg4); (have HBC4 := Lib.hid hbc4); (have HBO4 := Lib.hid hbo4); (have CB4 := Lib.hid (CBQ.out _ _ _ hk4 (HG3.out.trans hg4))); clear c30 c31 c3l hk4 hg4 hx4 hbc4 hbo4))
                 | (go_at_call 126; go_must (refine CB4.out.mono ?_; rintro e w5 ⟨s5, rfl, hk5, hg5⟩; obtain ⟨A5s, n5s, c5s, rfl, _, _, _⟩ := hk5.form; (have hbc5 := HBC4.out.below hg5.b HBC4.out.lt); (have m0 := hbc5.cell 0); (have m1 := hbc5.cell 1); (have f0 := hbc5.frozen 0); (have f1 := hbc5.frozen 1); (have ml := hbc5.lt); (have hbo5 := HBO4.out.below hg5.b HBO4.out.lt); (have hneo : w3.heap.size ≠ cb := fun e => by have := HBC.out.lt; have := HS3.out; omega); (have o52 : ∀ u v, ((w5.setCell ⟨cb, 0, none⟩ u).setCell ⟨cb, 1, none⟩ v).cell? ⟨w3.heap.size, 2, none⟩ = some (.int .i64 (i : Int)) := fun u v => (World.cell?_setCell_other _ _ _ _ (fun e => hneo (by have := congrArg Addr.block e; simpa using this.symm))).trans ((World.cell?_setCell_other _ _ _ _ (fun e => hneo (by have := congrArg Addr.block e; simpa using this.symm))).trans (hbo5.cell 2))); (have hbs5 := blk2 (v0 := .int .i64 0) (v1 := .slice A5s n5s c5s) hbc5); (have m2 := hbs5.1.cell 0); (have m3 := hbs5.1.cell 1); (have hA5 : Bw A0 ((w5.setCell ⟨cb, 0, none⟩ (.int .i64 0)).setCell ⟨cb, 1, none⟩ (.slice A5s n5s c5s)) := bw_two (((HAW.out.trans HG3.out).trans HG4.out).trans hg5) HT.out.cb); (have HA5 := Lib.hid hA5); (have hs5 := hA5.size); (have HBS5 := Lib.hid hbs5.1); (have HK5 := Lib.hid hk5); (have HG5 := Lib.hid hg5); (have HX5 := Lib.hid (HX4.out.trans hg5)); (have HS5 : Hid (w3.heap.size + 1 ≤ w4.heap.size ∧ w4.heap.size ≤ ((w5.setCell ⟨cb, 0, none⟩ (.int .i64 0)).setCell ⟨cb, 1, none⟩ (.slice A5s n5s c5s)).heap.size) := Lib.hid ⟨by have := HG4.out.size; rwa [World.size_alloc] at this, by have := hg5.size; simpa using this⟩); clear hg5 hbc5 hbo5 hbs5 hA5 hk5))
                 | (at_builtin; go_must (refine wpList_append_any _ rfl _ _ 35 rfl (w.heap.size + 1 + 1 + 1) 62 i0 _ 3 40 Tryz.underlying35 hi0 hz0 hz1 hz2 rfl (by decide) (.slice VA kk vc) kk (psr.flatMap encS.enc) rfl ((HROWN.out _ HA5.out).alloc (.cells #[.int .i64 (i : Int), .int .i64 0, .slice A5s n5s c5s] 62)) (((w5.setCell ⟨cb, 0, none⟩ (.int .i64 0)).setCell ⟨cb, 1, none⟩ (.slice A5s n5s c5s)).heap.size + 1) (some ⟨w5.heap.size, 0, none⟩) 1 1 [.int .i64 (i : Int), .int .i64 0, .slice A5s n5s c5s] rfl (by have := reads_new3 ((w5.setCell ⟨cb, 0, none⟩ (.int .i64 0)).setCell ⟨cb, 1, none⟩ (.slice A5s n5s c5s)) 62 (.int .i64 (i : Int)) (.int .i64 0) (.slice A5s n5s c5s); simpa using this) (stp3 _ _ _ _ _) (by unfold maxLen; omega) (by omega) (by simp; have := (BX.out.1.trans HX5.out).size; have := HX5.out.size; simp at this; omega) ?_; intro v7 w7 hown7 hgr7 hl7; obtain ⟨A7, c7, rfl⟩ := own_form hown7; (have hcb7 := (HBS5.out.alloc (.cells #[.int .i64 (i : Int), .int .i64 0, .slice A5s n5s c5s] 62)).grown hgr7 (fun e => by have := HOLT.out _ e.symm; have := HT.out.cb; omega)); (have m4 := hcb7.cell 0); (have m5 := hcb7.cell 1); (have m6 := hcb7.lt); (have HO7 := Lib.hid hown7); (have HG7 := Lib.hid hgr7); (have HL7 := Lib.hid hl7); clear hown7 hgr7 hl7 hcb7)))
               have hA7 := HA5.out.alloc (.cells #[.int .i64 (i : Int), .int .i64 0, .slice A5s n5s c5s] 62)
               have hWW := (Bw.refl ((w5.setCell ⟨cb, 0, none⟩ (.int .i64 0)).setCell ⟨cb, 1, none⟩ (.slice A5s n5s c5s))).alloc (.cells #[.int .i64 (i : Int), .int .i64 0, .slice A5s n5s c5s] 62)
               have hz7 : A0.heap.size ≤ w3.heap.size := Nat.le_trans HT.out.bw.size HS3.out
               have hk0 : KAt ((w5.setCell ⟨cb, 0, none⟩ (.int .i64 0)).setCell ⟨cb, 1, none⟩ (.slice A5s n5s c5s)) (fun b => w3.heap.size + 1 ≤ b ∧ b < w4.heap.size) (.slice A5s n5s c5s) (cfgV m.rs[i].tz xd).ks := HK5.out.keep (fun b hb => ⟨by have := hb.1; rwa [World.size_alloc] at this, hb.2⟩) (fun p hp => by
                 have hpc : p.block ≠ cb := fun e => by have h1 := hp.1; rw [World.size_alloc] at h1; have := HBC.out.lt; have := HS3.out; omega
                 rw [World.cell?_setCell_other _ _ _ _ (fun e => hpc (by rw [← e])), World.cell?_setCell_other _ _ _ _ (fun e => hpc (by rw [← e]))]
                 exact HG5.out.b.cell hp.2)
               have HK0' := Lib.hid hk0
               have hrowA := HROW.out.bw hA7 (D' := fun b => w.heap.size + 1 + 1 + 1 ≤ b ∧ b < (((w5.setCell ⟨cb, 0, none⟩ (.int .i64 0)).setCell ⟨cb, 1, none⟩ (.slice A5s n5s c5s)).alloc (.cells #[.int .i64 (i : Int), .int .i64 0, .slice A5s n5s c5s] 62)).heap.size ∧ (Value.slice VA kk vc).ownBlock ≠ some b) (fun b hb => ⟨⟨hb.1, Nat.lt_of_lt_of_le hb.2.1 hA7.size, hb.2.2⟩, hb.2.1⟩)
               have hpush : OwnT (w.heap.size + 1 + 1 + 1) w7 (.slice A7 (kk + 1) c7) (run ++ [⟨o.r, cfgV m.rs[i].tz xd⟩]) := by
                 refine OwnT.push hrowA HPE.out (x := ⟨o.r, cfgV m.rs[i].tz xd⟩) (s1 := .slice A5s n5s c5s) ?_ ?_ HG7.out HL7.out
                 · refine hk0.keep (fun b hb => ⟨?_, ?_, fun e => ?_⟩) (fun p hp => hWW.b.cell (by have := HS5.out.2; have := hp.2; omega))
                   · have := hb.1; have h9 := HT.out.bx.size; simp only [World.size_alloc] at h9; omega
                   · have := hb.2; have := HS5.out.2; rw [World.size_alloc]; omega
                   · have := hb.1; have := HOLT.out _ e; omega
                 · rw [HPL.out, HOR.out.1]; exact HO7.out
               have hs8 := HG7.out.size
               have hk7 : KAt w7 (fun b => b < w7.heap.size ∧ (Value.slice A7 (kk + 1) c7).ownBlock ≠ some b) (.slice A5s n5s c5s) (cfgV m.rs[i].tz xd).ks := by
                 refine KAt.grown (hk0.keep (w' := ((w5.setCell ⟨cb, 0, none⟩ (.int .i64 0)).setCell ⟨cb, 1, none⟩ (.slice A5s n5s c5s)).alloc (.cells #[.int .i64 (i : Int), .int .i64 0, .slice A5s n5s c5s] 62)) (fun _ hb => hb) (fun p hp => hWW.b.cell (by have := HS5.out.2; have := hp.2; omega))) HG7.out (fun b hb => ⟨⟨?_, fun e => ?_⟩, ?_, fun e => ?_⟩)
                 · have := hb.2; have := HS5.out.2; have h7 := hs8; rw [World.size_alloc] at h7; omega
                 · rcases HL7.out with h | h
                   · have := HOLT.out b (h ▸ e); have := hb.1; omega
                   · rw [h] at e; injection e with e; rw [World.size_alloc] at e; have := hb.2; have := HS5.out.2; omega
                 · have := hb.2; have := HS5.out.2; rw [World.size_alloc]; omega
                 · have := HOLT.out b e; have := hb.1; omega
               have hB7 : Bw (((w.alloc (.cells #[.int .i64 1, .slice A1 n c1, .slice A2 k c2, .slice none 0 0, .slice none 0 0, .int .i64 0, .int .i64 0, .slice A3 m.rs.length c3, .int .i64 0, .slice A4 z c4] 33)).alloc (.cells #[.slice Sb nb db, .slice So no do_, .slice Sf nf df, .int .i64 us] 67)).alloc (.cells #[.int .i64 0, .slice A5 n5 c5] 31)) w7 := bw_gb (HT.out.bx.trans hA7) HG7.out (fun r e => by have := (HROW.out.own.lt r e).1; simp at this ⊢; omega)
               go_roundw
               case rel => exact ⟨kk + 1, A7, c7, w7.heap.size, rfl, rfl, by omega, Lib.hid ⟨w7, run ++ [⟨o.r, cfgV m.rs[i].tz xd⟩], m.rs[i].tz, xd, .slice A5s n5s c5s, ⟨hpush, hk7, (Bw.refl _).alloc _, Blk.new _ _ _, Nat.le_refl _, hB7, HC2.out.2.2.2.2, by simp [HT.out.len], fun t ht => by
                 rcases List.mem_append.1 ht with h | h
                 · exact HT.out.all t h
                 · obtain rfl := List.mem_singleton.1 h; exact HC2.out.2.2.2.2, by omega, by
                 rw [HTR2.out, show 64 - kk = (64 - (kk + 1)) + 1 by omega, trailS_on HFE.out HRI.out.2 HRI.out.1 HC2.out.1 HC2.out.2.1 (by rw [HC2.out.2.2.1]; exact HC2.out.2.2.2.1), HC2.out.2.2.1]⟩⟩⟩
               case measure => simp; omega
         · have HR : Hid (tr = (1, [])) := Lib.hid (by rw [HTR2.out]; exact trailS_over HFE.out HRI.out.2 HRI.out.1 hcan2 (by rw [csV_cfg]; exact hov2) _)
           rw [hbe, if_pos hcan, hov2] at CAP0
           have CAP := CAP0
           clear CAP0 hbe hcan hcan2 hov2
           simp only [if_true] at CAP
           go_wp2_with (first
             | (go_at_call 122; go_must (refine CO2.out.mono ?_; rintro e w3 ⟨rfl, hk31, hk32, hg3⟩; (have hx3 := (HX0.out.trans hg3).trans ((Bw.refl w3).alloc (.cells #[.int .i64 ov, .slice Aq nq cq, .int .i64 (i : Int), .int .i64 onx, .slice Ar nr cr] 112))); clear ylt0 ylt1 ylt2 y0_0 y0_1 y0_2 y0_3 y0_4 y0_5 y0_6 y0_7 y0_8 y0_9 y1_0 y1_1 y1_2 y1_3 y2_0 y2_1; (obtain ⟨-, ylt0, ylt1, ylt2, y0_0, y0_1, y0_2, y0_3, y0_4, y0_5, y0_6, y0_7, y0_8, y0_9, y1_0, y1_1, y1_2, y1_3, y2_0, y2_1⟩ := BX.out.2 _ hx3); (have hbc3 := (HBC.out.below hg3.b HBC.out.lt).alloc (.cells #[.int .i64 ov, .slice Aq nq cq, .int .i64 (i : Int), .int .i64 onx, .slice Ar nr cr] 112)); (have c30 := hbc3.cell 0); (have c31 := hbc3.cell 1); (have c3l := hbc3.lt); (have hbo3 := Blk.new w3 112 #[.int .i64 ov, .slice Aq nq cq, .int .i64 (i : Int), .int .i64 onx, .slice Ar nr cr]); (have HX3 := Lib.hid hx3); (have HS3 : Hid (wr.heap.size ≤ w3.heap.size) := Lib.hid hg3.size); (have HG3 := Lib.hid (hg3.trans ((Bw.refl w3).alloc (.cells #[.int .i64 ov, .slice Aq nq cq, .int .i64 (i : Int), .int .i64 onx, .slice Ar nr cr] 112)))); (have HBC3 := Lib.hid hbc3); (have HBO3 := Lib.hid hbo3);  clear e0 e1 el hk31 hk32 hg3 hx3 hbc3 hbo3))
             | (go_at_call 125; go_must (refine (CAP.out _ HG3.out).mono ?_; rintro e w4 ⟨s4, rfl, hk4, hg4⟩; obtain ⟨A4s, n4s, c4s, rfl, l4s, _, _⟩ := hk4.form; (have HX4 := Lib.hid (HX3.out.trans hg4)); clear hk4 hg4 l4s)))
           go_ret2
           rw [HR.out]
           exact TrailPost.err (BX.out.1.trans HX4.out)
       · have hcan2 : ¬ (stV (cfgV st' cs') = m.rs[i].fr ∧ leC m.rs[i].need (csV (cfgV st' cs')) = true) := by
           intro h3
           rw [stV_cfg, csV_cfg] at h3
           apply hcan
           unfold canB
           rw [Bool.and_eq_true, decide_eq_true_eq]; exact h3
         have HR : Hid (tr = (11, [])) := Lib.hid (by rw [HTR2.out]; exact trailS_no HFE.out HRI.out.2 HRI.out.1 hcan2 _)
         rw [hbe, if_neg hcan] at CAP0
         have CAP := CAP0
         clear CAP0 hbe hcan hcan2
         dsimp only at CAP
         have CBQ : Hid (∀ W4 (B : Nat) s4, KAt W4 (fun b => B ≤ b ∧ b < W4.heap.size) s4 [] → Bw wr W4 → Calls Tryz.prog 126 #[.agg #[.int .i64 1, .slice A1 n c1, .slice A2 k c2, .slice none 0 0, .slice none 0 0, .int .i64 0, .int .i64 0, .slice A3 m.rs.length c3, .int .i64 0, .slice A4 z c4], s4, .agg #[.int .i64 onx, .slice Ar nr cr]] W4 (fun e w' => e = .returned (.tuple #[.agg #[.int .i64 0, .slice none 0 0], .bool false]) ∧ Bw W4 w')) := Lib.hid (fun W4 B s4 hk g => by
           have := CB.out W4 _ o.nx [] s4 (.slice Ar nr cr) (fun b hb => hb.2) HNX.out (fun u hu => absurd hu (by simp)) ((BX.out.1.trans HX0.out).trans g) hk (HKR.out.bw g)
           rw [HOR.out.2] at this
           refine this.mono ?_
           rintro e w' (⟨u, s, h3, _⟩ | ⟨_, h4, h5⟩)
           · cases h3
           · exact ⟨h4, h5⟩)
         go_wp2_with (first
           | (go_at_call 122; go_must (refine CO2.out.mono ?_; rintro e w3 ⟨rfl, hk31, hk32, hg3⟩; (have hx3 := (HX0.out.trans hg3).trans ((Bw.refl w3).alloc (.cells #[.int .i64 ov, .slice Aq nq cq, .int .i64 (i : Int), .int .i64 onx, .slice Ar nr cr] 112))); clear ylt0 ylt1 ylt2 y0_0 y0_1 y0_2 y0_3 y0_4 y0_5 y0_6 y0_7 y0_8 y0_9 y1_0 y1_1 y1_2 y1_3 y2_0 y2_1; (obtain ⟨-, ylt0, ylt1, ylt2, y0_0, y0_1, y0_2, y0_3, y0_4, y0_5, y0_6, y0_7, y0_8, y0_9, y1_0, y1_1, y1_2, y1_3, y2_0, y2_1⟩ := BX.out.2 _ hx3); (have hbc3 := (HBC.out.below hg3.b HBC.out.lt).alloc (.cells #[.int .i64 ov, .slice Aq nq cq, .int .i64 (i : Int), .int .i64 onx, .slice Ar nr cr] 112)); (have c30 := hbc3.cell 0); (have c31 := hbc3.cell 1); (have c3l := hbc3.lt); (have hbo3 := Blk.new w3 112 #[.int .i64 ov, .slice Aq nq cq, .int .i64 (i : Int), .int .i64 onx, .slice Ar nr cr]); (have HX3 := Lib.hid hx3); (have HS3 : Hid (wr.heap.size ≤ w3.heap.size) := Lib.hid hg3.size); (have HG3 := Lib.hid (hg3.trans ((Bw.refl w3).alloc (.cells #[.int .i64 ov, .slice Aq nq cq, .int .i64 (i : Int), .int .i64 onx, .slice Ar nr cr] 112)))); (have HBC3 := Lib.hid hbc3); (have HBO3 := Lib.hid hbo3);  clear e0 e1 el hk31 hk32 hg3 hx3 hbc3 hbo3))
           | (go_at_call 125; go_must (refine (CAP.out _ HG3.out).mono ?_; rintro e w4 ⟨s4, rfl, hk4, hg4⟩; obtain ⟨A4s, n4s, c4s, rfl, l4s, _, _⟩ := hk4.form; (have hx4 := HX3.out.trans hg4); clear ylt0 ylt1 ylt2 y0_0 y0_1 y0_2 y0_3 y0_4 y0_5 y0_6 y0_7 y0_8 y0_9 y1_0 y1_1 y1_2 y1_3 y2_0 y2_1; (obtain ⟨-, ylt0, ylt1, ylt2, y0_0, y0_1, y0_2, y0_3, y0_4, y0_5, y0_6, y0_7, y0_8, y0_9, y1_0, y1_1, y1_2, y1_3, y2_0, y2_1⟩ := BX.out.2 _ hx4); (have hbc4 := HBC3.out.below hg4.b HBC3.out.lt); (have hbo4 := HBO3.out.below hg4.b HBO3.out.lt); (have o40 := hbo4.cell 0); (have o41 := hbo4.cell 1); (have o42 := hbo4.cell 2); (have o43 := hbo4.cell 3); (have o44 := hbo4.cell 4); (have o4l := hbo4.lt); (have HX4 := Lib.hid hx4); (have HK4 := Lib.hid hk4); (have HG4 := Lib.hid hg4); (have HBC4 := Lib.hid hbc4); (have HBO4 := Lib.hid hbo4); (have CB4 := Lib.hid (CBQ.out _ _ _ hk4 (HG3.out.trans hg4))); clear c30 c31 c3l hk4 hg4 hx4 hbc4 hbo4))
           | (go_at_call 126; go_must (refine CB4.out.mono ?_; rintro e w5 ⟨rfl, hg5⟩; (have hbc5 := HBC4.out.below hg5.b HBC4.out.lt); (have m0 := hbc5.cell 0); (have m1 := hbc5.cell 1); (have f0 := hbc5.frozen 0); (have f1 := hbc5.frozen 1); (have ml := hbc5.lt); (have HBC5 := Lib.hid hbc5); (have HX5 := Lib.hid (HX4.out.trans hg5)); clear hg5 hbc5)))
         go_ret2
         rw [HR.out]
         exact TrailPost.err (bw_two (BX.out.1.trans HX5.out) (by have := HT.out.cb; have := (BX.out.1.trans HT.out.bx).size; omega))
end
end Go.Proofs.YthhbkabdhkdafaaGreat
