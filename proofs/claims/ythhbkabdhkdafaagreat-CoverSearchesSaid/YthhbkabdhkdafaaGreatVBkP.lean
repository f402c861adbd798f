/- Part of a proof of coverSearches_holds. -/
import Derived.Test.YthhbkabdhkdafaaGreatVBjP
import Derived.Test.YthhbkabdhkdafaaGreatVBeP
set_option linter.unusedSimpArgs false
set_option linter.unusedVariables false
set_option maxRecDepth 100000
set_option maxHeartbeats 16000000
namespace Go.Proofs.YthhbkabdhkdafaaGreat
section
open Go.RowKit
theorem aboveS_any (m : Mdl) (hm : MdlOk m) (hn : NmOk m) (v : V) (hv : oneP 8 m.t v = true) (l : List V) (hl : ∀ u ∈ l, oneP 8 m.t u = true) (sv pv rv kv sl s1 : Value) (w : World) (S : Nat → Prop) (hS : ∀ b, S b → b < w.heap.size) (h : MB w w.heap.size sv pv rv kv m) (h1 : KAt w S sl l) (h2 : KB w w.heap.size s1 v.ks) :
   Calls Tryz.prog 126 #[aggM sv pv rv kv, sl, .agg #[.int .i64 v.n, s1]] w (fun e w' => (∃ u s, l.find? (fun u => belowP 8 m.t v u) = some u ∧ e = .returned (.tuple #[.agg #[.int .i64 u.n, s], .bool true]) ∧ KAt w S s u.ks ∧ Bw w w') ∨ (l.find? (fun u => belowP 8 m.t v u) = none ∧ e = .returned (.tuple #[.agg #[.int .i64 0, .slice none 0 0], .bool false]) ∧ Bw w w')) := by
 obtain ⟨A1, c1, A2, c2, A3, c3, A4, c4, rfl, rfl, rfl, rfl⟩ := h.form
 obtain ⟨A5, n5, c5, rfl, _, _, _⟩ := h2.form
 obtain ⟨A6, n6, c6, rfl, ln, _, mn⟩ := h1.form
 unfold maxLen at mn
 have CL : Hid (∀ W (k : Nat) (hk : k < l.length) A n c, Bw w W → KB W W.heap.size (.slice A n c) l[k].ks → Calls Tryz.prog 189 #[aggM (.slice A1 m.ss.length c1) (.slice A2 m.ps.length c2) (.slice A3 m.rs.length c3) (.slice A4 (1 + m.cs.length) c4), .agg #[.int .i64 v.n, .slice A5 n5 c5], .agg #[.int .i64 l[k].n, .slice A n c]] W (fun e w' => e = .returned (.tuple #[.bool (belowP 8 m.t v l[k]), .int .i64 0]) ∧ Bw W w')) := Lib.hid (fun W k hk A n c g hkk => sleq_any m hm hn v l[k] hv (hl _ (List.getElem_mem hk)) _ _ _ _ _ _ W (h.bw g) (h2.bw g) hkk)
 have HK := Lib.hid h1
 have LN := Lib.hid ln
 clear h h1 h2 hm hn hv hl ln
 unfold aggM at *
 have HFN : Hid (∀ k (hk : k < l.length), l.find? (fun u => belowP 8 m.t v u) = none ∨ True) := Lib.hid (fun _ _ => .inr trivial)
 generalize hpp : (fun u => belowP 8 m.t v u) = pp at *
 have CL2 : Hid (∀ W (k : Nat) (hk : k < l.length) A n c, Bw w W → KB W W.heap.size (.slice A n c) l[k].ks → Calls Tryz.prog 189 #[aggM (.slice A1 m.ss.length c1) (.slice A2 m.ps.length c2) (.slice A3 m.rs.length c3) (.slice A4 (1 + m.cs.length) c4), .agg #[.int .i64 v.n, .slice A5 n5 c5], .agg #[.int .i64 l[k].n, .slice A n c]] W (fun e w' => e = .returned (.tuple #[.bool (pp l[k]), .int .i64 0]) ∧ Bw W w')) := Lib.hid (fun W k hk A n c g hkk => by
   have := CL.out W k hk A n c g hkk
   rw [← hpp]
   exact this)
 unfold aggM at *
 clear CL HFN hpp
 generalize v.n = x at *
 generalize m.ss.length = n at *
 generalize m.ps.length = k at *
 generalize m.rs.length = q at *
 generalize 1 + m.cs.length = z at *
 have BX : Hid (Bw w (((w.alloc (.cells #[.int .i64 1, .slice A1 n c1, .slice A2 k c2, .slice none 0 0, .slice none 0 0, .int .i64 0, .int .i64 0, .slice A3 q c3, .int .i64 0, .slice A4 z c4] 33)).alloc (.cells #[.int .i64 x, .slice A5 n5 c5] 31)).alloc (.cells #[.int .i64 0, .slice none 0 0] 31)) ∧ ∀ W, Bw (((w.alloc (.cells #[.int .i64 1, .slice A1 n c1, .slice A2 k c2, .slice none 0 0, .slice none 0 0, .int .i64 0, .int .i64 0, .slice A3 q c3, .int .i64 0, .slice A4 z c4] 33)).alloc (.cells #[.int .i64 x, .slice A5 n5 c5] 31)).alloc (.cells #[.int .i64 0, .slice none 0 0] 31)) W → Bw w W ∧ w.heap.size < W.heap.size ∧ w.heap.size + 1 < W.heap.size ∧ w.heap.size + 1 + 1 < W.heap.size ∧ W.cell? ⟨w.heap.size, 0, none⟩ = some (.int .i64 1) ∧ W.cell? ⟨w.heap.size, 1, none⟩ = some (.slice A1 n c1) ∧ W.cell? ⟨w.heap.size, 2, none⟩ = some (.slice A2 k c2) ∧ W.cell? ⟨w.heap.size, 3, none⟩ = some (.slice none 0 0) ∧ W.cell? ⟨w.heap.size, 4, none⟩ = some (.slice none 0 0) ∧ W.cell? ⟨w.heap.size, 5, none⟩ = some (.int .i64 0) ∧ W.cell? ⟨w.heap.size, 6, none⟩ = some (.int .i64 0) ∧ W.cell? ⟨w.heap.size, 7, none⟩ = some (.slice A3 q c3) ∧ W.cell? ⟨w.heap.size, 8, none⟩ = some (.int .i64 0) ∧ W.cell? ⟨w.heap.size, 9, none⟩ = some (.slice A4 z c4) ∧ W.cell? ⟨w.heap.size + 1, 0, none⟩ = some (.int .i64 x) ∧ W.cell? ⟨w.heap.size + 1, 1, none⟩ = some (.slice A5 n5 c5) ∧ W.cell? ⟨w.heap.size + 1 + 1, 0, none⟩ = some (.int .i64 0) ∧ W.cell? ⟨w.heap.size + 1 + 1, 1, none⟩ = some (.slice none 0 0)) := Lib.hid ⟨((((Bw.refl _).alloc _).alloc _).alloc _), fun W g => by
   have h0 := (Blk.new w 33 #[.int .i64 1, .slice A1 n c1, .slice A2 k c2, .slice none 0 0, .slice none 0 0, .int .i64 0, .int .i64 0, .slice A3 q c3, .int .i64 0, .slice A4 z c4])
   have k0 := ((h0.alloc (.cells #[.int .i64 x, .slice A5 n5 c5] 31)).alloc (.cells #[.int .i64 0, .slice none 0 0] 31)).below g.b ((h0.alloc (.cells #[.int .i64 x, .slice A5 n5 c5] 31)).alloc (.cells #[.int .i64 0, .slice none 0 0] 31)).lt
   have h1 := (Blk.new (w.alloc (.cells #[.int .i64 1, .slice A1 n c1, .slice A2 k c2, .slice none 0 0, .slice none 0 0, .int .i64 0, .int .i64 0, .slice A3 q c3, .int .i64 0, .slice A4 z c4] 33)) 31 #[.int .i64 x, .slice A5 n5 c5])
   simp only [World.size_alloc] at h1
   have k1 := (h1.alloc (.cells #[.int .i64 0, .slice none 0 0] 31)).below g.b (h1.alloc (.cells #[.int .i64 0, .slice none 0 0] 31)).lt
   have h2 := (Blk.new ((w.alloc (.cells #[.int .i64 1, .slice A1 n c1, .slice A2 k c2, .slice none 0 0, .slice none 0 0, .int .i64 0, .int .i64 0, .slice A3 q c3, .int .i64 0, .slice A4 z c4] 33)).alloc (.cells #[.int .i64 x, .slice A5 n5 c5] 31)) 31 #[.int .i64 0, .slice none 0 0])
   simp only [World.size_alloc] at h2
   have k2 := h2.below g.b h2.lt
   exact ⟨((((Bw.refl _).alloc _).alloc _).alloc _).trans g, k0.lt, k1.lt, k2.lt, k0.cell 0, k0.cell 1, k0.cell 2, k0.cell 3, k0.cell 4, k0.cell 5, k0.cell 6, k0.cell 7, k0.cell 8, k0.cell 9, k1.cell 0, k1.cell 1, k2.cell 0, k2.cell 1⟩⟩
 have HZ : Hid (∀ W, Bw (((w.alloc (.cells #[.int .i64 1, .slice A1 n c1, .slice A2 k c2, .slice none 0 0, .slice none 0 0, .int .i64 0, .int .i64 0, .slice A3 q c3, .int .i64 0, .slice A4 z c4] 33)).alloc (.cells #[.int .i64 x, .slice A5 n5 c5] 31)).alloc (.cells #[.int .i64 0, .slice none 0 0] 31)) W → Blk W (w.heap.size + 1 + 1) 31 #[.int .i64 0, .slice none 0 0]) := Lib.hid (fun W g => by
   have h1 := Blk.new ((w.alloc (.cells #[.int .i64 1, .slice A1 n c1, .slice A2 k c2, .slice none 0 0, .slice none 0 0, .int .i64 0, .int .i64 0, .slice A3 q c3, .int .i64 0, .slice A4 z c4] 33)).alloc (.cells #[.int .i64 x, .slice A5 n5 c5] 31)) 31 #[.int .i64 0, .slice none 0 0]
   simp only [World.size_alloc] at h1
   exact h1.below g.b h1.lt)
 go_enter Tryz.func126, Tryz.ntmps126
 go_wp2
 go_loopw [14] (fun i wr => ∃ j : Nat, j ≤ n6 ∧ i = .int .i64 j ∧ Hid ((l.take j).find? pp = none ∧ Bw (((w.alloc (.cells #[.int .i64 1, .slice A1 n c1, .slice A2 k c2, .slice none 0 0, .slice none 0 0, .int .i64 0, .int .i64 0, .slice A3 q c3, .int .i64 0, .slice A4 z c4] 33)).alloc (.cells #[.int .i64 x, .slice A5 n5 c5] 31)).alloc (.cells #[.int .i64 0, .slice none 0 0] 31)) wr)) (fun i _ => n6 - (intOf i).toNat)
 case atStart => exact ⟨0, by omega, rfl, Lib.hid ⟨rfl, Bw.refl _⟩⟩
 case round =>
   obtain ⟨j, hj, rfl, HR⟩ := hrel
   obtain ⟨hf, hw⟩ := HR.out
   obtain ⟨-, ylt0, ylt1, ylt2, y0_0, y0_1, y0_2, y0_3, y0_4, y0_5, y0_6, y0_7, y0_8, y0_9, y1_0, y1_1, y2_0, y2_1⟩ := BX.out.2 _ hw
   have HF := Lib.hid hf
   have HW := Lib.hid hw
   by_cases hlt : j < n6
   · have e1 : j < l.length := by rw [LN.out]; exact hlt
     obtain ⟨ad, sA, sn, sc, rfl, hb, q0, q1, sl0, hs⟩ := ((HK.out.keep hS (fun _ _ => rfl) : KB w w.heap.size _ _).bw (BX.out.1.trans hw)).at_ e1
     obtain ⟨ad', sA', sn', sc', ea, hb', q0', q1', -, hs'⟩ := HK.out.at_ e1
     have hsq : KAt w S (.slice sA sn sc) l[j].ks := by
       injection ea with ea
       subst ea
       have h9 := ((BX.out.1.trans hw).b.cell (p := ⟨(ad.add (j * 2)).block, (ad.add (j * 2)).off + 1, none⟩) (by show (ad.add (j * 2)).block < _; rw [add_block]; exact hS _ hb')).symm.trans q1
       rw [q1'] at h9
       injection h9 with h9
       rw [← h9]; exact hs'
     have HSQ := Lib.hid hsq
     have CQ : Hid (∀ W, Bw wr W → Calls Tryz.prog 189 #[.agg #[.int .i64 1, .slice A1 n c1, .slice A2 k c2, .slice none 0 0, .slice none 0 0, .int .i64 0, .int .i64 0, .slice A3 q c3, .int .i64 0, .slice A4 z c4], .agg #[.int .i64 x, .slice A5 n5 c5], .agg #[.int .i64 l[j].n, .slice sA sn sc]] W (fun e w' => e = .returned (.tuple #[.bool (pp l[j]), .int .i64 0]) ∧ Bw W w')) := Lib.hid (fun W g => CL2.out W j e1 sA sn sc ((BX.out.1.trans hw).trans g) (hs.bw g))
     have HT : Hid ((l.take (j + 1)).find? pp = if pp l[j] then some l[j] else none) := Lib.hid (by
       rw [List.take_succ_eq_append_getElem e1, List.find?_append, hf, Option.none_or]
       rcases hpj : pp l[j] with _ | _ <;> simp [List.find?, hpj])
     have HTS : Hid (∀ u, (l.take (j + 1)).find? pp = some u → l.find? pp = some u) := Lib.hid (fun u hu => by
       conv => lhs; rw [← List.take_append_drop (j + 1) l]
       rw [List.find?_append, hu]; rfl)
     clear hf hw HR hs hs' q0' q1' hb' ea hsq sl0 CL2
     obtain ⟨u9, hu9⟩ : ∃ u9, l[j] = u9 := ⟨_, rfl⟩
     rw [hu9] at CQ HT HSQ q0
     clear hu9
     obtain ⟨xn, hxn⟩ : ∃ xn, u9.n = xn := ⟨_, rfl⟩
     rw [hxn] at CQ q0
     have HXN := Lib.hid hxn
     clear hxn
     rcases hpj : pp u9 with _ | _
     · rw [hpj] at CQ
       go_wp2_with (go_at_call 189; go_must (refine (CQ.out _ ((Bw.refl _).alloc _)).mono ?_; rintro e w6 ⟨rfl, hg6⟩; (have hbv := (Blk.new wr 31 #[.int .i64 xn, .slice sA sn sc]).below hg6.b (by simp)); (have j0 := hbv.cell 0); (have j1 := hbv.cell 1); (have jl := hbv.lt); (have hgw : Bw wr w6 := ((Bw.refl _).alloc _).trans hg6); (have hb8 := HZ.out _ (HW.out.trans hgw)); (have r0 := hb8.cell 0); (have r1 := hb8.cell 1); (have f0 := hb8.frozen 0); (have f1 := hb8.frozen 1); (have rl := hb8.lt); (have HB8 := Lib.hid hb8); (have HW9 := Lib.hid (HW.out.trans hgw)); clear hg6 hbv hgw hb8))
       go_roundw
       case rel => exact ⟨j + 1, by omega, by go_num, Lib.hid ⟨by rw [HT.out, hpj]; rfl, HW9.out⟩⟩
       case measure => simp [intOf]; omega
     · rw [hpj] at CQ
       go_wp2_with (go_at_call 189; go_must (refine (CQ.out _ ((Bw.refl _).alloc _)).mono ?_; rintro e w6 ⟨rfl, hg6⟩; (have hbv := (Blk.new wr 31 #[.int .i64 xn, .slice sA sn sc]).below hg6.b (by simp)); (have j0 := hbv.cell 0); (have j1 := hbv.cell 1); (have jl := hbv.lt); (have hgw : Bw wr w6 := ((Bw.refl _).alloc _).trans hg6); (have hb8 := HZ.out _ (HW.out.trans hgw)); (have r0 := hb8.cell 0); (have r1 := hb8.cell 1); (have f0 := hb8.frozen 0); (have f1 := hb8.frozen 1); (have rl := hb8.lt); (have HB8 := Lib.hid hb8); (have HW9 := Lib.hid (HW.out.trans hgw)); clear hg6 hbv hgw hb8))
       obtain ⟨hbb, hgr⟩ := blk2 (v0 := .int .i64 xn) (v1 := .slice sA sn sc) HB8.out
       refine bodyPost_ret (rrow1 (p := 6) (q := 7) (ty := 31) rfl _ _ (w.heap.size + 1 + 1) _ _ rfl (run_loadVar_row _ _ 31 31 _ (0, 0) _ hbb Tryz.underlying31 rfl (by kernel_rfl)) rfl) rfl ?_
       have hbw := BX.out.1.trans HW9.out
       have hfin : Bw w _ := Below.grown hbw hgr hbw.size (fun r e => by injection e with e; omega)
       exact .inl ⟨u9, .slice sA sn sc, HTS.out _ (by rw [HT.out, hpj]; rfl), (by rw [HXN.out]; rfl), HSQ.out, hfin⟩
   · obtain rfl : j = n6 := by omega
     have HB8 := Lib.hid (HZ.out _ hw)
     have hb8 := HB8.out
     have r0 := hb8.cell 0
     have r1 := hb8.cell 1
     have f0 := hb8.frozen 0
     have f1 := hb8.frozen 1
     have HW9 := Lib.hid hw
     rw [List.take_of_length_le (by rw [LN.out]; exact Nat.le_refl _)] at hf
     have HF2 := Lib.hid hf
     clear hf hw HR HF hb8
     go_wp2
     obtain ⟨hbb, hgr⟩ := blk2 (v0 := .int .i64 0) (v1 := .slice none 0 0) HB8.out
     refine bodyPost_ret (rrow1 (p := 6) (q := 7) (ty := 31) rfl _ _ (w.heap.size + 1 + 1) _ _ rfl (run_loadVar_row _ _ 31 31 _ (0, 0) _ hbb Tryz.underlying31 rfl (by kernel_rfl)) rfl) rfl ?_
     have hbw := BX.out.1.trans HW9.out
     have hfin : Bw w _ := Below.grown hbw hgr hbw.size (fun r e => by injection e with e; omega)
     exact .inr ⟨HF2.out, rfl, hfin⟩
theorem origin_any (m : Mdl) (hm : MdlOk m) (hn : NmOk m) (v : V) (hv : oneP 8 m.t v = true) (l : List (Ori × Value × Value)) (hl : ∀ q ∈ l, oneP 8 m.t q.1.v = true) (Sb Sf : Option Addr) (nb db nf df : Nat) (us : Int) (sv pv rv kv sl s1 : Value) (w : World) (h : MB w w.heap.size sv pv rv kv m) (h1 : EAt encO w (· < w.heap.size) sl l) (h2 : KB w w.heap.size s1 v.ks) :
   Calls Tryz.prog 122 #[aggM sv pv rv kv, .agg #[.slice Sb nb db, sl, .slice Sf nf df, .int .i64 us], .agg #[.int .i64 v.n, s1]] w (fun e w' => (∃ q, l.find? (fun q => belowP 8 m.t q.1.v v) = some q ∧ e = .returned (.tuple #[.agg #[.int .i64 q.1.v.n, q.2.1, .int .i64 q.1.r, .int .i64 q.1.nx.n, q.2.2], .bool true]) ∧ KB w w.heap.size q.2.1 q.1.v.ks ∧ KB w w.heap.size q.2.2 q.1.nx.ks ∧ Bw w w') ∨ (l.find? (fun q => belowP 8 m.t q.1.v v) = none ∧ e = .returned (.tuple #[.agg #[.int .i64 0, .slice none 0 0, .int .i64 0, .int .i64 0, .slice none 0 0], .bool false]) ∧ Bw w w')) := by
 obtain ⟨A1, c1, A2, c2, A3, c3, A4, c4, rfl, rfl, rfl, rfl⟩ := h.form
 obtain ⟨A5, n5, c5, rfl, _, _, _⟩ := h2.form
 obtain ⟨A6, c6, rfl, hc6, mn⟩ := h1.form
 obtain ⟨n6, ln⟩ : ∃ n6, l.length = n6 := ⟨_, rfl⟩
 rw [ln] at h1 hc6 ⊢
 unfold maxLen at mn
 have CL : Hid (∀ W (k : Nat) (hk : k < l.length) A n c, Bw w W → KB W W.heap.size (.slice A n c) l[k].1.v.ks → Calls Tryz.prog 189 #[aggM (.slice A1 m.ss.length c1) (.slice A2 m.ps.length c2) (.slice A3 m.rs.length c3) (.slice A4 (1 + m.cs.length) c4), .agg #[.int .i64 l[k].1.v.n, .slice A n c], .agg #[.int .i64 v.n, .slice A5 n5 c5]] W (fun e w' => e = .returned (.tuple #[.bool (belowP 8 m.t l[k].1.v v), .int .i64 0]) ∧ Bw W w')) := Lib.hid (fun W k hk A n c g hkk => sleq_any m hm hn l[k].1.v v (hl _ (List.getElem_mem hk)) hv _ _ _ _ _ _ W (h.bw g) hkk (h2.bw g))
 have HK := Lib.hid h1
 have LN := Lib.hid ln
 clear h h1 h2 hm hn hv hl ln
 unfold aggM at *
 generalize hpp : (fun q : Ori × Value × Value => belowP 8 m.t q.1.v v) = pp at *
 have CL2 : Hid (∀ W (k : Nat) (hk : k < l.length) A n c, Bw w W → KB W W.heap.size (.slice A n c) l[k].1.v.ks → Calls Tryz.prog 189 #[aggM (.slice A1 m.ss.length c1) (.slice A2 m.ps.length c2) (.slice A3 m.rs.length c3) (.slice A4 (1 + m.cs.length) c4), .agg #[.int .i64 l[k].1.v.n, .slice A n c], .agg #[.int .i64 v.n, .slice A5 n5 c5]] W (fun e w' => e = .returned (.tuple #[.bool (pp l[k]), .int .i64 0]) ∧ Bw W w')) := Lib.hid (fun W k hk A n c g hkk => by
   have := CL.out W k hk A n c g hkk
   rw [← hpp]
   exact this)
 unfold aggM at *
 clear CL hpp
 generalize v.n = x at *
 generalize m.ss.length = n at *
 generalize m.ps.length = k at *
 generalize m.rs.length = q at *
 generalize 1 + m.cs.length = z at *
 have BX : Hid (Bw w ((((w.alloc (.cells #[.int .i64 1, .slice A1 n c1, .slice A2 k c2, .slice none 0 0, .slice none 0 0, .int .i64 0, .int .i64 0, .slice A3 q c3, .int .i64 0, .slice A4 z c4] 33)).alloc (.cells #[.slice Sb nb db, .slice A6 n6 c6, .slice Sf nf df, .int .i64 us] 67)).alloc (.cells #[.int .i64 x, .slice A5 n5 c5] 31)).alloc (.cells #[.int .i64 0, .slice none 0 0, .int .i64 0, .int .i64 0, .slice none 0 0] 112)) ∧ ∀ W, Bw ((((w.alloc (.cells #[.int .i64 1, .slice A1 n c1, .slice A2 k c2, .slice none 0 0, .slice none 0 0, .int .i64 0, .int .i64 0, .slice A3 q c3, .int .i64 0, .slice A4 z c4] 33)).alloc (.cells #[.slice Sb nb db, .slice A6 n6 c6, .slice Sf nf df, .int .i64 us] 67)).alloc (.cells #[.int .i64 x, .slice A5 n5 c5] 31)).alloc (.cells #[.int .i64 0, .slice none 0 0, .int .i64 0, .int .i64 0, .slice none 0 0] 112)) W → Bw w W ∧ w.heap.size < W.heap.size ∧ w.heap.size + 1 < W.heap.size ∧ w.heap.size + 1 + 1 < W.heap.size ∧ w.heap.size + 1 + 1 + 1 < W.heap.size ∧ W.cell? ⟨w.heap.size, 0, none⟩ = some (.int .i64 1) ∧ W.cell? ⟨w.heap.size, 1, none⟩ = some (.slice A1 n c1) ∧ W.cell? ⟨w.heap.size, 2, none⟩ = some (.slice A2 k c2) ∧ W.cell? ⟨w.heap.size, 3, none⟩ = some (.slice none 0 0) ∧ W.cell? ⟨w.heap.size, 4, none⟩ = some (.slice none 0 0) ∧ W.cell? ⟨w.heap.size, 5, none⟩ = some (.int .i64 0) ∧ W.cell? ⟨w.heap.size, 6, none⟩ = some (.int .i64 0) ∧ W.cell? ⟨w.heap.size, 7, none⟩ = some (.slice A3 q c3) ∧ W.cell? ⟨w.heap.size, 8, none⟩ = some (.int .i64 0) ∧ W.cell? ⟨w.heap.size, 9, none⟩ = some (.slice A4 z c4) ∧ W.cell? ⟨w.heap.size + 1, 0, none⟩ = some (.slice Sb nb db) ∧ W.cell? ⟨w.heap.size + 1, 1, none⟩ = some (.slice A6 n6 c6) ∧ W.cell? ⟨w.heap.size + 1, 2, none⟩ = some (.slice Sf nf df) ∧ W.cell? ⟨w.heap.size + 1, 3, none⟩ = some (.int .i64 us) ∧ W.cell? ⟨w.heap.size + 1 + 1, 0, none⟩ = some (.int .i64 x) ∧ W.cell? ⟨w.heap.size + 1 + 1, 1, none⟩ = some (.slice A5 n5 c5) ∧ W.cell? ⟨w.heap.size + 1 + 1 + 1, 0, none⟩ = some (.int .i64 0) ∧ W.cell? ⟨w.heap.size + 1 + 1 + 1, 1, none⟩ = some (.slice none 0 0) ∧ W.cell? ⟨w.heap.size + 1 + 1 + 1, 2, none⟩ = some (.int .i64 0) ∧ W.cell? ⟨w.heap.size + 1 + 1 + 1, 3, none⟩ = some (.int .i64 0) ∧ W.cell? ⟨w.heap.size + 1 + 1 + 1, 4, none⟩ = some (.slice none 0 0)) := Lib.hid ⟨(((((Bw.refl _).alloc _).alloc _).alloc _).alloc _), fun W g => by
   have h0 := (Blk.new w 33 #[.int .i64 1, .slice A1 n c1, .slice A2 k c2, .slice none 0 0, .slice none 0 0, .int .i64 0, .int .i64 0, .slice A3 q c3, .int .i64 0, .slice A4 z c4])
   have k0 := (((h0.alloc (.cells #[.slice Sb nb db, .slice A6 n6 c6, .slice Sf nf df, .int .i64 us] 67)).alloc (.cells #[.int .i64 x, .slice A5 n5 c5] 31)).alloc (.cells #[.int .i64 0, .slice none 0 0, .int .i64 0, .int .i64 0, .slice none 0 0] 112)).below g.b (((h0.alloc (.cells #[.slice Sb nb db, .slice A6 n6 c6, .slice Sf nf df, .int .i64 us] 67)).alloc (.cells #[.int .i64 x, .slice A5 n5 c5] 31)).alloc (.cells #[.int .i64 0, .slice none 0 0, .int .i64 0, .int .i64 0, .slice none 0 0] 112)).lt
   have h1 := (Blk.new (w.alloc (.cells #[.int .i64 1, .slice A1 n c1, .slice A2 k c2, .slice none 0 0, .slice none 0 0, .int .i64 0, .int .i64 0, .slice A3 q c3, .int .i64 0, .slice A4 z c4] 33)) 67 #[.slice Sb nb db, .slice A6 n6 c6, .slice Sf nf df, .int .i64 us])
   simp only [World.size_alloc] at h1
   have k1 := ((h1.alloc (.cells #[.int .i64 x, .slice A5 n5 c5] 31)).alloc (.cells #[.int .i64 0, .slice none 0 0, .int .i64 0, .int .i64 0, .slice none 0 0] 112)).below g.b ((h1.alloc (.cells #[.int .i64 x, .slice A5 n5 c5] 31)).alloc (.cells #[.int .i64 0, .slice none 0 0, .int .i64 0, .int .i64 0, .slice none 0 0] 112)).lt
   have h2 := (Blk.new ((w.alloc (.cells #[.int .i64 1, .slice A1 n c1, .slice A2 k c2, .slice none 0 0, .slice none 0 0, .int .i64 0, .int .i64 0, .slice A3 q c3, .int .i64 0, .slice A4 z c4] 33)).alloc (.cells #[.slice Sb nb db, .slice A6 n6 c6, .slice Sf nf df, .int .i64 us] 67)) 31 #[.int .i64 x, .slice A5 n5 c5])
   simp only [World.size_alloc] at h2
   have k2 := (h2.alloc (.cells #[.int .i64 0, .slice none 0 0, .int .i64 0, .int .i64 0, .slice none 0 0] 112)).below g.b (h2.alloc (.cells #[.int .i64 0, .slice none 0 0, .int .i64 0, .int .i64 0, .slice none 0 0] 112)).lt
   have h3 := (Blk.new (((w.alloc (.cells #[.int .i64 1, .slice A1 n c1, .slice A2 k c2, .slice none 0 0, .slice none 0 0, .int .i64 0, .int .i64 0, .slice A3 q c3, .int .i64 0, .slice A4 z c4] 33)).alloc (.cells #[.slice Sb nb db, .slice A6 n6 c6, .slice Sf nf df, .int .i64 us] 67)).alloc (.cells #[.int .i64 x, .slice A5 n5 c5] 31)) 112 #[.int .i64 0, .slice none 0 0, .int .i64 0, .int .i64 0, .slice none 0 0])
   simp only [World.size_alloc] at h3
   have k3 := h3.below g.b h3.lt
   exact ⟨(((((Bw.refl _).alloc _).alloc _).alloc _).alloc _).trans g, k0.lt, k1.lt, k2.lt, k3.lt, k0.cell 0, k0.cell 1, k0.cell 2, k0.cell 3, k0.cell 4, k0.cell 5, k0.cell 6, k0.cell 7, k0.cell 8, k0.cell 9, k1.cell 0, k1.cell 1, k1.cell 2, k1.cell 3, k2.cell 0, k2.cell 1, k3.cell 0, k3.cell 1, k3.cell 2, k3.cell 3, k3.cell 4⟩⟩
 have HZ : Hid (∀ W, Bw ((((w.alloc (.cells #[.int .i64 1, .slice A1 n c1, .slice A2 k c2, .slice none 0 0, .slice none 0 0, .int .i64 0, .int .i64 0, .slice A3 q c3, .int .i64 0, .slice A4 z c4] 33)).alloc (.cells #[.slice Sb nb db, .slice A6 n6 c6, .slice Sf nf df, .int .i64 us] 67)).alloc (.cells #[.int .i64 x, .slice A5 n5 c5] 31)).alloc (.cells #[.int .i64 0, .slice none 0 0, .int .i64 0, .int .i64 0, .slice none 0 0] 112)) W → Blk W (w.heap.size + 1 + 1 + 1) 112 #[.int .i64 0, .slice none 0 0, .int .i64 0, .int .i64 0, .slice none 0 0]) := Lib.hid (fun W g => by
   have h1 := Blk.new (((w.alloc (.cells #[.int .i64 1, .slice A1 n c1, .slice A2 k c2, .slice none 0 0, .slice none 0 0, .int .i64 0, .int .i64 0, .slice A3 q c3, .int .i64 0, .slice A4 z c4] 33)).alloc (.cells #[.slice Sb nb db, .slice A6 n6 c6, .slice Sf nf df, .int .i64 us] 67)).alloc (.cells #[.int .i64 x, .slice A5 n5 c5] 31)) 112 #[.int .i64 0, .slice none 0 0, .int .i64 0, .int .i64 0, .slice none 0 0]
   simp only [World.size_alloc] at h1
   exact h1.below g.b h1.lt)
 go_enter Tryz.func122, Tryz.ntmps122
 go_wp2
 go_loopw [15] (fun i wr => ∃ j : Nat, j ≤ n6 ∧ i = .int .i64 j ∧ Hid ((l.take j).find? pp = none ∧ Bw ((((w.alloc (.cells #[.int .i64 1, .slice A1 n c1, .slice A2 k c2, .slice none 0 0, .slice none 0 0, .int .i64 0, .int .i64 0, .slice A3 q c3, .int .i64 0, .slice A4 z c4] 33)).alloc (.cells #[.slice Sb nb db, .slice A6 n6 c6, .slice Sf nf df, .int .i64 us] 67)).alloc (.cells #[.int .i64 x, .slice A5 n5 c5] 31)).alloc (.cells #[.int .i64 0, .slice none 0 0, .int .i64 0, .int .i64 0, .slice none 0 0] 112)) wr)) (fun i _ => n6 - (intOf i).toNat)
 case atStart => exact ⟨0, by omega, rfl, Lib.hid ⟨rfl, Bw.refl _⟩⟩
 case round =>
   obtain ⟨j, hj, rfl, HR⟩ := hrel
   obtain ⟨hf, hw⟩ := HR.out
   obtain ⟨-, ylt0, ylt1, ylt2, ylt3, y0_0, y0_1, y0_2, y0_3, y0_4, y0_5, y0_6, y0_7, y0_8, y0_9, y1_0, y1_1, y1_2, y1_3, y2_0, y2_1, y3_0, y3_1, y3_2, y3_3, y3_4⟩ := BX.out.2 _ hw
   have HF := Lib.hid hf
   have HW := Lib.hid hw
   by_cases hlt : j < n6
   · have e1 : j < l.length := by rw [LN.out]; exact hlt
     obtain ⟨ad, rfl, hb, z0, z1, ck⟩ := (HK.out.bw (BX.out.1.trans hw)).at_ (by rw [LN.out]; exact hlt)
     obtain ⟨ad', ea, hb', _, _, ck'⟩ := HK.out.at_ e1
     have q0 : wr.cell? (ad.add (j * 5)) = some (.int .i64 l[j].1.v.n) := z0 _ rfl
     have q1 : wr.cell? ⟨(ad.add (j * 5)).block, (ad.add (j * 5)).off + 1, none⟩ = some l[j].2.1 := z1 0 _ rfl
     have q2 : wr.cell? ⟨(ad.add (j * 5)).block, (ad.add (j * 5)).off + 2, none⟩ = some (.int .i64 l[j].1.r) := z1 1 _ rfl
     have q3 : wr.cell? ⟨(ad.add (j * 5)).block, (ad.add (j * 5)).off + 3, none⟩ = some (.int .i64 l[j].1.nx.n) := z1 2 _ rfl
     have q4 : wr.cell? ⟨(ad.add (j * 5)).block, (ad.add (j * 5)).off + 4, none⟩ = some l[j].2.2 := z1 3 _ rfl
     have hs := ck (l[j].2.1, l[j].1.v.ks) (by simp [encO])
     have hk1 := ck' (l[j].2.1, l[j].1.v.ks) (by simp [encO])
     have hk2 := ck' (l[j].2.2, l[j].1.nx.ks) (by simp [encO])
     have HK1 := Lib.hid hk1
     have HK2 := Lib.hid hk2
     obtain ⟨sA, sn, sc, hB1, _, _, _⟩ := hk1.form
     obtain ⟨tA, tn, tc, hB2, _, _, _⟩ := hk2.form
     dsimp only at hB1 hB2 hs
     rw [hB1] at q1 hs
     rw [hB2] at q4
     have HB12 := Lib.hid (And.intro hB1 hB2)
     have CQ : Hid (∀ W, Bw wr W → Calls Tryz.prog 189 #[.agg #[.int .i64 1, .slice A1 n c1, .slice A2 k c2, .slice none 0 0, .slice none 0 0, .int .i64 0, .int .i64 0, .slice A3 q c3, .int .i64 0, .slice A4 z c4], .agg #[.int .i64 l[j].1.v.n, .slice sA sn sc], .agg #[.int .i64 x, .slice A5 n5 c5]] W (fun e w' => e = .returned (.tuple #[.bool (pp l[j]), .int .i64 0]) ∧ Bw W w')) := Lib.hid (fun W g => CL2.out W j e1 sA sn sc ((BX.out.1.trans hw).trans g) (hs.bw g))
     have HT : Hid ((l.take (j + 1)).find? pp = if pp l[j] then some l[j] else none) := Lib.hid (by
       rw [List.take_succ_eq_append_getElem e1, List.find?_append, hf, Option.none_or]
       rcases hpj : pp l[j] with _ | _ <;> simp [List.find?, hpj])
     have HTS : Hid (∀ u, (l.take (j + 1)).find? pp = some u → l.find? pp = some u) := Lib.hid (fun u hu => by
       conv => lhs; rw [← List.take_append_drop (j + 1) l]
       rw [List.find?_append, hu]; rfl)
     clear hf hw HR hs hb' ea ck ck' z0 z1 hk1 hk2 hB1 hB2 CL2
     obtain ⟨u9, hu9⟩ : ∃ u9, l[j] = u9 := ⟨_, rfl⟩
     rw [hu9] at CQ HT HK1 HK2 HB12 q0 q2 q3
     clear hu9
     obtain ⟨xn, hxn⟩ : ∃ xn, u9.1.v.n = xn := ⟨_, rfl⟩
     obtain ⟨xr, hxr⟩ : ∃ xr, u9.1.r = xr := ⟨_, rfl⟩
     obtain ⟨xm, hxm⟩ : ∃ xm, u9.1.nx.n = xm := ⟨_, rfl⟩
     rw [hxn] at CQ q0
     rw [hxr] at q2
     rw [hxm] at q3
     have HXN := Lib.hid (And.intro hxn (And.intro hxr hxm))
     clear hxn hxr hxm
     rcases hpj : pp u9 with _ | _
     · rw [hpj] at CQ
       go_wp2_with (go_at_call 189; go_must (refine (CQ.out _ ((Bw.refl _).alloc _)).mono ?_; rintro e w6 ⟨rfl, hg6⟩; (have hbv := (Blk.new wr 112 #[.int .i64 xn, .slice sA sn sc, .int .i64 xr, .int .i64 xm, .slice tA tn tc]).below hg6.b (by simp)); (have j0 := hbv.cell 0); (have j1 := hbv.cell 1); (have j2 := hbv.cell 2); (have j3 := hbv.cell 3); (have j4 := hbv.cell 4); (have jl := hbv.lt); (have hgw : Bw wr w6 := ((Bw.refl _).alloc _).trans hg6); (have hb8 := HZ.out _ (HW.out.trans hgw)); (have r0 := hb8.cell 0); (have r1 := hb8.cell 1); (have r2 := hb8.cell 2); (have r3 := hb8.cell 3); (have r4 := hb8.cell 4); (have f0 := hb8.frozen 0); (have f1 := hb8.frozen 1); (have f2 := hb8.frozen 2); (have f3 := hb8.frozen 3); (have f4 := hb8.frozen 4); (have rl := hb8.lt); (have HB8 := Lib.hid hb8); (have HW9 := Lib.hid (HW.out.trans hgw)); clear hg6 hbv hgw hb8))
       go_roundw
       case rel => exact ⟨j + 1, by omega, by go_num, Lib.hid ⟨by rw [HT.out, hpj]; rfl, HW9.out⟩⟩
       case measure => simp [intOf]; omega
     · rw [hpj] at CQ
       go_wp2_with (go_at_call 189; go_must (refine (CQ.out _ ((Bw.refl _).alloc _)).mono ?_; rintro e w6 ⟨rfl, hg6⟩; (have hbv := (Blk.new wr 112 #[.int .i64 xn, .slice sA sn sc, .int .i64 xr, .int .i64 xm, .slice tA tn tc]).below hg6.b (by simp)); (have j0 := hbv.cell 0); (have j1 := hbv.cell 1); (have j2 := hbv.cell 2); (have j3 := hbv.cell 3); (have j4 := hbv.cell 4); (have jl := hbv.lt); (have hgw : Bw wr w6 := ((Bw.refl _).alloc _).trans hg6); (have hb8 := HZ.out _ (HW.out.trans hgw)); (have r0 := hb8.cell 0); (have r1 := hb8.cell 1); (have r2 := hb8.cell 2); (have r3 := hb8.cell 3); (have r4 := hb8.cell 4); (have f0 := hb8.frozen 0); (have f1 := hb8.frozen 1); (have f2 := hb8.frozen 2); (have f3 := hb8.frozen 3); (have f4 := hb8.frozen 4); (have rl := hb8.lt); (have HB8 := Lib.hid hb8); (have HW9 := Lib.hid (HW.out.trans hgw)); clear hg6 hbv hgw hb8))
       obtain ⟨hbb, hgr⟩ := blk5 (v0 := .int .i64 xn) (v1 := .slice sA sn sc) (v2 := .int .i64 xr) (v3 := .int .i64 xm) (v4 := .slice tA tn tc) HB8.out
       refine bodyPost_ret (rrow1 (p := 6) (q := 7) (ty := 112) rfl _ _ (w.heap.size + 1 + 1 + 1) _ _ rfl (run_loadVar_row _ _ 112 112 _ (0, 0) _ hbb Tryz.underlying112 rfl (by kernel_rfl)) rfl) rfl ?_
       have hbw := BX.out.1.trans HW9.out
       have hfin : Bw w _ := Below.grown hbw hgr hbw.size (fun r e => by injection e with e; omega)
       exact .inl ⟨u9, HTS.out _ (by rw [HT.out, hpj]; rfl), (by rw [HXN.out.1, HXN.out.2.1, HXN.out.2.2, HB12.out.1, HB12.out.2]; rfl), HK1.out, HK2.out, hfin⟩
   · obtain rfl : j = n6 := by omega
     have HB8 := Lib.hid (HZ.out _ hw)
     have hb8 := HB8.out
     have r0 := hb8.cell 0
     have r1 := hb8.cell 1
     have r2 := hb8.cell 2
     have r3 := hb8.cell 3
     have r4 := hb8.cell 4
     have f0 := hb8.frozen 0
     have f1 := hb8.frozen 1
     have f2 := hb8.frozen 2
     have f3 := hb8.frozen 3
     have f4 := hb8.frozen 4
     have HW9 := Lib.hid hw
     rw [List.take_of_length_le (by rw [LN.out]; exact Nat.le_refl _)] at hf
     have HF2 := Lib.hid hf
     clear hf hw HR HF hb8
     go_wp2
     obtain ⟨hbb, hgr⟩ := blk5 (v0 := .int .i64 0) (v1 := .slice none 0 0) (v2 := .int .i64 0) (v3 := .int .i64 0) (v4 := .slice none 0 0) HB8.out
     refine bodyPost_ret (rrow1 (p := 6) (q := 7) (ty := 112) rfl _ _ (w.heap.size + 1 + 1 + 1) _ _ rfl (run_loadVar_row _ _ 112 112 _ (0, 0) _ hbb Tryz.underlying112 rfl (by kernel_rfl)) rfl) rfl ?_
     have hbw := BX.out.1.trans HW9.out
     have hfin : Bw w _ := Below.grown hbw hgr hbw.size (fun r e => by injection e with e; omega)
     exact .inr ⟨HF2.out, rfl, hfin⟩
def predI (m : Mdl) (ru : Int) (x : V) : List V := if ru < 0 then [] else match m.rs[ru.toNat]? with
 | none => []
 | some r => predR r x
theorem predR_few (r : Rul) (x : V) : predR r x = [] ∨ ∃ y, predR r x = [y] := by
 unfold predR
 split
 · exact .inl rfl
 · split
   · exact .inl rfl
   · exact .inr ⟨_, rfl⟩
theorem predI_few (m : Mdl) (ru : Int) (x : V) : predI m ru x = [] ∨ ∃ y, predI m ru x = [y] := by
 unfold predI
 split
 · exact .inl rfl
 · split
   · exact .inl rfl
   · exact predR_few _ _
theorem predI_ok {m : Mdl} (hm : MdlOk m) {ru : Int} {x y : V} (hx : oneP 8 m.t x = true) (hy : y ∈ predI m ru x) : oneP 8 m.t y = true := by
 unfold predI at hy
 split at hy
 · simp at hy
 · split at hy
   · simp at hy
   · rename_i r hr
     exact pred_ok hm (List.mem_of_getElem? hr) hx hy
theorem minimal_one (f : V → V → Bool) (y : V) : minimalP f [y] = [y] := by
 simp [minimalP, minL, minStep, sortV, insV]
theorem predI_min {m : Mdl} (hm : MdlOk m) {ru : Int} {x : V} (hx : oneP 8 m.t x = true) : minimiseP m.t (predI m ru x) = (predI m ru x, 0) := by
 have hv : (predI m ru x).all (validP m.t) = true := List.all_eq_true.2 fun y hy => validM hm (predI_ok hm hx hy)
 unfold minimiseP
 rw [if_pos hm.right, if_pos hv]
 rcases predI_few m ru x with e | ⟨y, e⟩
 · rw [e]; rfl
 · rw [e, minimal_one]; rfl
theorem before_quiet (m : Mdl) (hm : MdlOk m) (hn : NmOk m) (s : Int) (cs : List Int) (sv pv rv kv s1 : Value) (w : World) (h : MB w w.heap.size sv pv rv kv m) (h1 : KB w w.heap.size s1 (cfgV s cs).ks) :
   Calls Tryz.prog 309 #[aggM sv pv rv kv, .int .i64 (-1), .agg #[.int .i64 0, s1]] w (BefPost w []) := by
 obtain ⟨A1, c1, A2, c2, A3, c3, A4, c4, rfl, rfl, rfl, rfl⟩ := h.form
 obtain ⟨A5, n5, c5, rfl, l5, b5, _⟩ := h1.form
 clear h h1 hm hn
 unfold aggM at *
 generalize m.ss.length = n at *
 generalize m.ps.length = k at *
 generalize m.rs.length = q at *
 generalize 1 + m.cs.length = z at *
 go_enter Tryz.func309, Tryz.ntmps309
 go_wp2
 go_ret2
 exact BefPost.nil (((Bw.refl _).alloc _).alloc _)
theorem before_all (m : Mdl) (hm : MdlOk m) (hn : NmOk m) (s : Int) (cs : List Int) (hv : oneP 8 m.t (cfgV s cs) = true) (ru : Int) (hr : -1 ≤ ru ∧ ru < (m.rs.length : Int)) (sv pv rv kv s1 : Value) (w : World) (h : MB w w.heap.size sv pv rv kv m) (h1 : KB w w.heap.size s1 (cfgV s cs).ks) :
   Calls Tryz.prog 309 #[aggM sv pv rv kv, .int .i64 ru, .agg #[.int .i64 0, s1]] w (BefPost w (predI m ru (cfgV s cs))) := by
 by_cases h0 : ru < 0
 · obtain rfl : ru = -1 := by omega
   have e : predI m (-1) (cfgV s cs) = [] := rfl
   rw [e]
   exact before_quiet m hm hn s cs sv pv rv kv s1 w h h1
 · obtain ⟨i, rfl⟩ := Int.eq_ofNat_of_zero_le (show 0 ≤ ru by omega)
   have hi : i < m.rs.length := by omega
   have e : predI m (i : Int) (cfgV s cs) = predR m.rs[i] (cfgV s cs) := by
     unfold predI
     rw [if_neg h0, Int.toNat_natCast, List.getElem?_eq_getElem hi]
   rw [e]
   exact before_any m hm hn s cs hv i hi sv pv rv kv s1 w h h1
theorem prone_any (m : Mdl) (hm : MdlOk m) (hn : NmOk m) (s : Int) (cs : List Int) (hv : oneP 8 m.t (cfgV s cs) = true) (ru : Int) (hr : -1 ≤ ru ∧ ru < (m.rs.length : Int)) (sv pv rv kv s1 : Value) (w : World) (h : MB w w.heap.size sv pv rv kv m) (h1 : KB w w.heap.size s1 (cfgV s cs).ks) :
   Calls Tryz.prog 250 #[aggM sv pv rv kv, .int .i64 ru, .agg #[.int .i64 0, s1]] w (ValsErr w (predI m ru (cfgV s cs)) 0) := by
 obtain ⟨A1, c1, A2, c2, A3, c3, A4, c4, rfl, rfl, rfl, rfl⟩ := h.form
 obtain ⟨A5, n5, c5, rfl, l5, b5, _⟩ := h1.form
 have CB : Hid (∀ W, Bw w W → Calls Tryz.prog 309 #[aggM (.slice A1 m.ss.length c1) (.slice A2 m.ps.length c2) (.slice A3 m.rs.length c3) (.slice A4 (1 + m.cs.length) c4), .int .i64 ru, .agg #[.int .i64 0, .slice A5 n5 c5]] W (BefPost W (predI m ru (cfgV s cs)))) := Lib.hid (fun W g => before_all m hm hn s cs hv ru hr _ _ _ _ _ W (h.bw g) (h1.bw g))
 have CT : Hid (∀ W, Bw w W → Calls Tryz.prog 65 #[aggM (.slice A1 m.ss.length c1) (.slice A2 m.ps.length c2) (.slice A3 m.rs.length c3) (.slice A4 (1 + m.cs.length) c4)] W (TypeErr W m.t)) := Lib.hid (fun W g => mdType_any m hm hn _ _ _ _ W (h.bw g))
 have PV : Hid (∀ y ∈ predI m ru (cfgV s cs), validP m.t y = true) := Lib.hid (fun y hy => validM hm (predI_ok hm hv hy))
 have CM : Hid (∀ W pv' s2, TB W W.heap.size (.slice none 0 0) pv' m.t → KB W W.heap.size s2 (predI m ru (cfgV s cs)) → Calls Tryz.prog 66 #[.agg #[.int .i64 3, .int .i64 0, .slice none 0 0, pv'], s2] W (ValsErr W (predI m ru (cfgV s cs)) 0)) := Lib.hid (fun W pv' s2 hT hk => by
   have hl : (predI m ru (cfgV s cs)).length ≤ 1000000 := by
     rcases predI_few m ru (cfgV s cs) with e | ⟨y, e⟩ <;> rw [e] <;> simp
   have := bMinimise_any m.t (predI m ru (cfgV s cs)) hl (.slice none 0 0) pv' s2 W hT hk
   rwa [predI_min hm hv] at this)
 have CD : Hid (∀ (w1 w2 : World) (L : Nat) (ps : List VS) (s6 pv7 : Value), MRow w1 L s6 ps → L ≤ w1.heap.size → ps.map (·.1) = predI m ru (cfgV s cs) → PAt w2 (fun b => w1.heap.size ≤ b ∧ b < w2.heap.size) pv7 m.t.parts → Bw w1 w2 →
     Calls Tryz.prog 181 #[s6, .func (.func 310) #[] #[.pointer (some ⟨w2.heap.size, 0, none⟩)]] (w2.alloc (.cells #[.int .i64 3, .int .i64 0, .slice none 0 0, pv7] 50)) (fun e w3 => ∃ s7, e = .returned s7 ∧ KB w3 w3.heap.size s7 (predI m ru (cfgV s cs)) ∧ TB w3 w3.heap.size (.slice none 0 0) pv7 m.t ∧ Blk w3 w2.heap.size 50 #[.int .i64 3, .int .i64 0, .slice none 0 0, pv7] ∧ w1.grownBy w3 s6.ownBlock)) := Lib.hid (fun w1 w2 L ps s6 pv7 hm1 hL hps hp2 hg2 => by
   have hmA := (hm1.bw hg2 hL).bw ((Bw.refl w2).alloc (.cells #[.int .i64 3, .int .i64 0, .slice none 0 0, pv7] 50)) (Nat.le_trans hL hg2.size)
   have hs2 := hg2.size
   have hne : ∀ W, (w2.alloc (.cells #[.int .i64 3, .int .i64 0, .slice none 0 0, pv7] 50)).grownBy W s6.ownBlock → Blk W w2.heap.size 50 #[.int .i64 3, .int .i64 0, .slice none 0 0, pv7] ∧ TB W W.heap.size (.slice none 0 0) pv7 m.t := fun W g => by
     refine ⟨(Blk.new w2 50 _).grown g (fun e => by have := (hm1.own.lt _ e.symm).2; omega), IAt.nil _ _ (Nat.zero_le _), ?_⟩
     have hsz := g.size
     rw [World.size_alloc] at hsz
     refine hp2.keep (fun b hb => by show b < W.heap.size; omega) (fun p hp => ?_)
     rw [World.cell?_of_block (g.block p.block (by rw [World.size_alloc]; omega) (fun e => by have := (hm1.own.lt _ e.symm).2; omega))]
     exact World.cell?_alloc_lt w2 _ p hp.2
   refine (delVal_any L ps (fun v => !validP m.t v) 310 _ (enters_of Tryz.func310 (by kernel_rfl) rfl) s6 _ hmA (by rw [World.size_alloc]; omega) (fun v hv' s' W g hk => ?_)).mono ?_
   · obtain ⟨k1, k2⟩ := hne W g
     exact prone1_any m.t v w2.heap.size _ _ s' W k1 k2 hk
   · rintro e w3 ⟨s7, rfl, hm3, hg3, hob⟩
     obtain ⟨k1, k2⟩ := hne w3 hg3
     have hf : (ps.filter fun x => !(!validP m.t x.1)) = ps := List.filter_eq_self.2 fun x hx => by
       have : x.1 ∈ predI m ru (cfgV s cs) := by rw [← hps]; exact List.mem_map_of_mem hx
       simp [PV.out _ this]
     rw [hf] at hm3
     refine ⟨s7, rfl, ?_, k2, k1, ?_⟩
     · have hsz := hg3.size
       rw [World.size_alloc] at hsz
       have := hm3.kb (by omega)
       rwa [hps] at this
     · exact grownBy_trans (gb_any hg2 _) (grownBy_trans (gb_any ((Bw.refl w2).alloc _) _) hg3))
 clear h h1 hm hn hv PV
 unfold aggM at *
 unfold BefPost at CB
 unfold TypeErr at CT
 unfold ValsErr at CM
 generalize predI m ru (cfgV s cs) = pl at *
 generalize m.ss.length = n at *
 generalize m.ps.length = k at *
 generalize m.rs.length = q at *
 generalize 1 + m.cs.length = z at *
 have BX : Hid (Bw w ((w.alloc (.cells #[.int .i64 1, .slice A1 n c1, .slice A2 k c2, .slice none 0 0, .slice none 0 0, .int .i64 0, .int .i64 0, .slice A3 q c3, .int .i64 0, .slice A4 z c4] 33)).alloc (.cells #[.int .i64 0, .slice A5 n5 c5] 31)) ∧ ∀ W, Bw ((w.alloc (.cells #[.int .i64 1, .slice A1 n c1, .slice A2 k c2, .slice none 0 0, .slice none 0 0, .int .i64 0, .int .i64 0, .slice A3 q c3, .int .i64 0, .slice A4 z c4] 33)).alloc (.cells #[.int .i64 0, .slice A5 n5 c5] 31)) W → Bw w W ∧ w.heap.size < W.heap.size ∧ w.heap.size + 1 < W.heap.size ∧ W.cell? ⟨w.heap.size, 0, none⟩ = some (.int .i64 1) ∧ W.cell? ⟨w.heap.size, 1, none⟩ = some (.slice A1 n c1) ∧ W.cell? ⟨w.heap.size, 2, none⟩ = some (.slice A2 k c2) ∧ W.cell? ⟨w.heap.size, 3, none⟩ = some (.slice none 0 0) ∧ W.cell? ⟨w.heap.size, 4, none⟩ = some (.slice none 0 0) ∧ W.cell? ⟨w.heap.size, 5, none⟩ = some (.int .i64 0) ∧ W.cell? ⟨w.heap.size, 6, none⟩ = some (.int .i64 0) ∧ W.cell? ⟨w.heap.size, 7, none⟩ = some (.slice A3 q c3) ∧ W.cell? ⟨w.heap.size, 8, none⟩ = some (.int .i64 0) ∧ W.cell? ⟨w.heap.size, 9, none⟩ = some (.slice A4 z c4) ∧ W.cell? ⟨w.heap.size + 1, 0, none⟩ = some (.int .i64 0) ∧ W.cell? ⟨w.heap.size + 1, 1, none⟩ = some (.slice A5 n5 c5)) := Lib.hid ⟨(((Bw.refl _).alloc _).alloc _), fun W g => by
   have h0 := (Blk.new w 33 #[.int .i64 1, .slice A1 n c1, .slice A2 k c2, .slice none 0 0, .slice none 0 0, .int .i64 0, .int .i64 0, .slice A3 q c3, .int .i64 0, .slice A4 z c4])
   have k0 := (h0.alloc (.cells #[.int .i64 0, .slice A5 n5 c5] 31)).below g.b (h0.alloc (.cells #[.int .i64 0, .slice A5 n5 c5] 31)).lt
   have h1 := (Blk.new (w.alloc (.cells #[.int .i64 1, .slice A1 n c1, .slice A2 k c2, .slice none 0 0, .slice none 0 0, .int .i64 0, .int .i64 0, .slice A3 q c3, .int .i64 0, .slice A4 z c4] 33)) 31 #[.int .i64 0, .slice A5 n5 c5])
   simp only [World.size_alloc] at h1
   have k1 := h1.below g.b h1.lt
   exact ⟨(((Bw.refl _).alloc _).alloc _).trans g, k0.lt, k1.lt, k0.cell 0, k0.cell 1, k0.cell 2, k0.cell 3, k0.cell 4, k0.cell 5, k0.cell 6, k0.cell 7, k0.cell 8, k0.cell 9, k1.cell 0, k1.cell 1⟩⟩
 go_enter Tryz.func250, Tryz.ntmps250
 go_wp2_with (first
   | (go_at_call 309; go_must (refine (CB.out _ BX.out.1).mono ?_; rintro e w1 ⟨s6, L, ps, rfl, hL0, hL1, hm1, hps, hg⟩; obtain ⟨A6, c6, rfl, _, _⟩ := hm1.form; (obtain ⟨-, ylt0, ylt1, y0_0, y0_1, y0_2, y0_3, y0_4, y0_5, y0_6, y0_7, y0_8, y0_9, y1_0, y1_1⟩ := BX.out.2 _ hg); (have HM1 := Lib.hid (And.intro hm1 (And.intro hL0 hL1))); (have HPS := Lib.hid hps); (have HG1 := Lib.hid hg); clear hg hm1 hL0 hL1 hps))
   | (go_at_call 65; go_must (refine (CT.out _ (BX.out.1.trans HG1.out)).mono ?_; rintro e w2 ⟨pv2, rfl, hp2, hg2⟩; obtain ⟨A7, n7, c7, rfl, _, _, _⟩ := hp2.form; (have CD2 := Lib.hid (CD.out w1 w2 _ _ _ _ HM1.out.1 HM1.out.2.2 HPS.out hp2 hg2)); (have HG2 := Lib.hid hg2); clear hg2 hp2))
   | (go_at_call 181; go_must (refine CD2.out.mono ?_; rintro e w3 ⟨s7, rfl, hk3, hT3, hb3, hg3⟩; obtain ⟨A8, n8, c8, rfl, _, _, _⟩ := hk3.form; (have t0 := hb3.cell 0); (have t1 := hb3.cell 1); (have t2 := hb3.cell 2); (have t3 := hb3.cell 3); (have tl := hb3.lt); (have HW3 : Hid (Bw w w3) := Lib.hid (bw_gb (BX.out.1.trans HG1.out) hg3 (fun r e => Nat.le_trans (BX.out.1.size) (Nat.le_trans HM1.out.2.1 (HM1.out.1.own.lt r e).1)))); (have HK3 := Lib.hid hk3); (have HT3 := Lib.hid hT3); clear hk3 hT3 hb3 hg3))
   | (go_at_call 66; go_must (refine (CM.out _ _ _ HT3.out HK3.out).mono ?_; rintro e w4 ⟨s9, rfl, hk9, hg9⟩; obtain ⟨A9, n9, c9, rfl, _, _, _⟩ := hk9.form; (have HK9 := Lib.hid hk9); (have HG9 := Lib.hid hg9); clear hk9 hg9)))
 go_ret2
 exact ⟨_, rfl, HK9.out.keep (fun b hb => ⟨Nat.le_trans HW3.out.size hb.1, hb.2⟩) (fun _ _ => rfl), HW3.out.trans HG9.out⟩
theorem prOne_any (m : Mdl) (hm : MdlOk m) (hn : NmOk m) (s : Int) (cs : List Int) (hv : oneP 8 m.t (cfgV s cs) = true) (ru : Int) (hr : -1 ≤ ru ∧ ru < (m.rs.length : Int)) (sv pv rv kv s1 : Value) (w : World) (h : MB w w.heap.size sv pv rv kv m) (h1 : KB w w.heap.size s1 (cfgV s cs).ks) :
   Calls Tryz.prog 187 #[aggM sv pv rv kv, .int .i64 ru, .agg #[.int .i64 0, s1]] w (ValsErr w (predI m ru (cfgV s cs)) 0) := by
 obtain ⟨A1, c1, A2, c2, A3, c3, A4, c4, rfl, rfl, rfl, rfl⟩ := h.form
 obtain ⟨A5, n5, c5, rfl, l5, b5, _⟩ := h1.form
 have CK : Hid (∀ W, Bw w W → Calls Tryz.prog 249 #[aggM (.slice A1 m.ss.length c1) (.slice A2 m.ps.length c2) (.slice A3 m.rs.length c3) (.slice A4 (1 + m.cs.length) c4), .int .i64 ru] W (NumPost W 0)) := Lib.hid (fun W g => prcheck_any m hm hn ru hr _ _ _ _ W (h.bw g))
 have CV : Hid (∀ W, Bw w W → Calls Tryz.prog 27 #[aggM (.slice A1 m.ss.length c1) (.slice A2 m.ps.length c2) (.slice A3 m.rs.length c3) (.slice A4 (1 + m.cs.length) c4), .agg #[.int .i64 0, .slice A5 n5 c5]] W (BoolPost W true)) := Lib.hid (fun W g => by
   have := mdValid_any m hm hn (cfgV s cs) _ _ _ _ _ W (h.bw g) (h1.bw g)
   rwa [validM hm hv] at this)
 have CO : Hid (∀ W, Bw w W → Calls Tryz.prog 250 #[aggM (.slice A1 m.ss.length c1) (.slice A2 m.ps.length c2) (.slice A3 m.rs.length c3) (.slice A4 (1 + m.cs.length) c4), .int .i64 ru, .agg #[.int .i64 0, .slice A5 n5 c5]] W (ValsErr W (predI m ru (cfgV s cs)) 0)) := Lib.hid (fun W g => prone_any m hm hn s cs hv ru hr _ _ _ _ _ W (h.bw g) (h1.bw g))
 clear h h1 hm hn hv hr
 unfold aggM at *
 unfold ValsErr at CO
 generalize predI m ru (cfgV s cs) = pl at *
 generalize m.ss.length = n at *
 generalize m.ps.length = k at *
 generalize m.rs.length = q at *
 generalize 1 + m.cs.length = z at *
 have BX : Hid (Bw w ((w.alloc (.cells #[.int .i64 1, .slice A1 n c1, .slice A2 k c2, .slice none 0 0, .slice none 0 0, .int .i64 0, .int .i64 0, .slice A3 q c3, .int .i64 0, .slice A4 z c4] 33)).alloc (.cells #[.int .i64 0, .slice A5 n5 c5] 31)) ∧ ∀ W, Bw ((w.alloc (.cells #[.int .i64 1, .slice A1 n c1, .slice A2 k c2, .slice none 0 0, .slice none 0 0, .int .i64 0, .int .i64 0, .slice A3 q c3, .int .i64 0, .slice A4 z c4] 33)).alloc (.cells #[.int .i64 0, .slice A5 n5 c5] 31)) W → Bw w W ∧ w.heap.size < W.heap.size ∧ w.heap.size + 1 < W.heap.size ∧ W.cell? ⟨w.heap.size, 0, none⟩ = some (.int .i64 1) ∧ W.cell? ⟨w.heap.size, 1, none⟩ = some (.slice A1 n c1) ∧ W.cell? ⟨w.heap.size, 2, none⟩ = some (.slice A2 k c2) ∧ W.cell? ⟨w.heap.size, 3, none⟩ = some (.slice none 0 0) ∧ W.cell? ⟨w.heap.size, 4, none⟩ = some (.slice none 0 0) ∧ W.cell? ⟨w.heap.size, 5, none⟩ = some (.int .i64 0) ∧ W.cell? ⟨w.heap.size, 6, none⟩ = some (.int .i64 0) ∧ W.cell? ⟨w.heap.size, 7, none⟩ = some (.slice A3 q c3) ∧ W.cell? ⟨w.heap.size, 8, none⟩ = some (.int .i64 0) ∧ W.cell? ⟨w.heap.size, 9, none⟩ = some (.slice A4 z c4) ∧ W.cell? ⟨w.heap.size + 1, 0, none⟩ = some (.int .i64 0) ∧ W.cell? ⟨w.heap.size + 1, 1, none⟩ = some (.slice A5 n5 c5)) := Lib.hid ⟨(((Bw.refl _).alloc _).alloc _), fun W g => by
   have h0 := (Blk.new w 33 #[.int .i64 1, .slice A1 n c1, .slice A2 k c2, .slice none 0 0, .slice none 0 0, .int .i64 0, .int .i64 0, .slice A3 q c3, .int .i64 0, .slice A4 z c4])
   have k0 := (h0.alloc (.cells #[.int .i64 0, .slice A5 n5 c5] 31)).below g.b (h0.alloc (.cells #[.int .i64 0, .slice A5 n5 c5] 31)).lt
   have h1 := (Blk.new (w.alloc (.cells #[.int .i64 1, .slice A1 n c1, .slice A2 k c2, .slice none 0 0, .slice none 0 0, .int .i64 0, .int .i64 0, .slice A3 q c3, .int .i64 0, .slice A4 z c4] 33)) 31 #[.int .i64 0, .slice A5 n5 c5])
   simp only [World.size_alloc] at h1
   have k1 := h1.below g.b h1.lt
   exact ⟨(((Bw.refl _).alloc _).alloc _).trans g, k0.lt, k1.lt, k0.cell 0, k0.cell 1, k0.cell 2, k0.cell 3, k0.cell 4, k0.cell 5, k0.cell 6, k0.cell 7, k0.cell 8, k0.cell 9, k1.cell 0, k1.cell 1⟩⟩
 go_enter Tryz.func187, Tryz.ntmps187
 go_wp2_with (first
   | (go_at_call 249; go_must (refine (CK.out _ BX.out.1).mono ?_; rintro e w1 ⟨rfl, hg⟩; (obtain ⟨-, ylt0, ylt1, y0_0, y0_1, y0_2, y0_3, y0_4, y0_5, y0_6, y0_7, y0_8, y0_9, y1_0, y1_1⟩ := BX.out.2 _ hg); (have HG1 := Lib.hid hg); clear hg))
   | (go_at_call 27; go_must (refine (CV.out _ (BX.out.1.trans HG1.out)).mono ?_; rintro e w2 ⟨rfl, hg⟩; (have hg := HG1.out.trans hg); clear ylt0 ylt1 y0_0 y0_1 y0_2 y0_3 y0_4 y0_5 y0_6 y0_7 y0_8 y0_9 y1_0 y1_1; (obtain ⟨-, ylt0, ylt1, y0_0, y0_1, y0_2, y0_3, y0_4, y0_5, y0_6, y0_7, y0_8, y0_9, y1_0, y1_1⟩ := BX.out.2 _ hg); (have HG2 := Lib.hid hg); clear hg))
   | (go_at_call 250; go_must (refine (CO.out _ (BX.out.1.trans HG2.out)).mono ?_; rintro e w4 ⟨s9, rfl, hk9, hg9⟩; obtain ⟨A9, n9, c9, rfl, _, _, _⟩ := hk9.form; (have HK9 := Lib.hid hk9); (have HG9 := Lib.hid hg9); clear hk9 hg9)))
 go_ret2
 have hbw := BX.out.1.trans HG2.out
 exact ⟨_, rfl, HK9.out.keep (fun b hb => ⟨Nat.le_trans hbw.size hb.1, hb.2⟩) (fun _ _ => rfl), hbw.trans HG9.out⟩
end
end Go.Proofs.YthhbkabdhkdafaaGreat
