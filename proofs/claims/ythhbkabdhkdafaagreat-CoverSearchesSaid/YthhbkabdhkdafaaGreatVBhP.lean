/- Part of a proof of coverSearches_holds. -/
import Derived.Test.YthhbkabdhkdafaaGreatVBeP
set_option linter.unusedSimpArgs false
set_option linter.unusedVariables false
set_option maxRecDepth 100000
set_option maxHeartbeats 16000000
namespace Go.Proofs.YthhbkabdhkdafaaGreat
section
open Go.RowKit
theorem infoOriB : (Tryz.prog.info? 112).map (fun i => (i.zero, i.size, i.bytes)) = some (some (.agg #[.int .i64 0, .slice none 0 0, .int .i64 0, .int .i64 0, .slice none 0 0]), 5, 72) := by kernel_rfl
theorem ori5 (x y z : Int) (A A' : Option Addr) (n c n' c' : Nat) : ∀ u ∈ [Value.int .i64 x, .slice A n c, .int .i64 y, .int .i64 z, .slice A' n' c'], u.oneCell' = true := by simp [Value.oneCell']
theorem reads_new5 (W : World) (t : TypeId) (a b c d e : Value) : Reads (W.alloc (.cells #[a, b, c, d, e] t)) (W.heap.size + 1) 5 (some ⟨W.heap.size, 0, none⟩) 1 [a, b, c, d, e] := reads_blk (n := 1) (Blk.new W t #[a, b, c, d, e]) (by omega) rfl
def OwnO (B : Nat) (W : World) (v : Value) (l : List Ori) : Prop := ∃ ps, ERow encO W 112 B (fun b => B ≤ b ∧ b < W.heap.size ∧ v.ownBlock ≠ some b) v ps ∧ ps.map (·.1) = l
theorem OwnO.push {B : Nat} {A W : World} {v v' : Value} {l : List Ori} {ps : List (Ori × Value × Value)} (h : ERow encO A 112 B (fun b => B ≤ b ∧ b < A.heap.size ∧ v.ownBlock ≠ some b) v ps) (e : ps.map (·.1) = l) {x : Ori} {s1 s2 : Value} (h1 : KAt A (fun b => B ≤ b ∧ b < A.heap.size ∧ v.ownBlock ≠ some b) s1 x.v.ks) (h2 : KAt A (fun b => B ≤ b ∧ b < A.heap.size ∧ v.ownBlock ≠ some b) s2 x.nx.ks)
   (hown : W.ownsRow B 112 5 v' (ps.length + 1) (ps.flatMap encO.enc ++ [.int .i64 x.v.n, s1, .int .i64 x.r, .int .i64 x.nx.n, s2])) (hg : A.grownBy W v.ownBlock) (hv : v'.ownBlock = v.ownBlock ∨ v'.ownBlock = some A.heap.size) : OwnO B W v' (l ++ [x]) := by
 refine ⟨ps ++ [(x, s1, s2)], h.push (x := (x, s1, s2)) (fun q hq => ?_) hown hg (fun b hb => ⟨⟨hb.1, Nat.lt_of_lt_of_le hb.2.1 hg.size, fun e => ?_⟩, hb.2.1, hb.2.2⟩), by simp [e]⟩
 · simp only [encO, List.mem_cons, List.not_mem_nil, or_false] at hq
   rcases hq with rfl | rfl
   · exact h1
   · exact h2
 · rcases hv with e1 | e1
   · rw [e1] at e; exact hb.2.2 e
   · rw [e1] at e; injection e with e; have := hb.2.1; omega
theorem OwnO.bw {B : Nat} {w w' : World} {v : Value} {l : List Ori} (h : OwnO B w v l) (g : Bw w w') : OwnO B w' v l := by
 obtain ⟨ps, h1, e⟩ := h
 exact ⟨ps, h1.bw g (fun b hb => ⟨⟨hb.1, Nat.lt_of_lt_of_le hb.2.1 g.size, hb.2.2⟩, hb.2.1⟩), e⟩
theorem SOwn.low {w w' : World} {B k : Nat} {K : Option Nat} {bv ov fv : Value} {s : Sk} (h : SOwn w B K bv ov fv s) (g : w.grownBy w' (some k)) (hk : k < B) : SOwn w' B K bv ov fv s := by
 obtain ⟨ps, h1, e1⟩ := h.o
 obtain ⟨qs, h2, e2⟩ := h.f
 obtain ⟨o1, o2⟩ := h.olt
 have hD : ∀ b, Dk w B K ov fv b → Dk w' B K ov fv b ∧ b < w.heap.size ∧ some k ≠ some b := fun b hb => ⟨hb.bw g.size, hb.2.1, fun e => by injection e with e; have := hb.1; omega⟩
 exact ⟨h.b.keep (fun b hb => hb.bw g.size) (fun p hp => World.cell?_of_block (g.block p.block hp.2.1 (fun e => (hD _ hp).2.2 e.symm))), ⟨ps, h1.keep g (.inr (fun e => by have := (o1 _ e.symm).1; omega)) hD, e1⟩, ⟨qs, h2.keep g (.inr (fun e => by have := (o2 _ e.symm).1; omega)) hD, e2⟩, fun j e => ⟨(h.ko j e).1, (h.ko j e).2.1, Nat.lt_of_lt_of_le (h.ko j e).2.2 g.size⟩⟩
theorem SOwn.of3 {B : Nat} {wr w6 w7 : World} {bv ov fv : Value} {s : Sk} {ss1 ss2 : List Value} (hO : OwnO B wr ov s.og) (hB : B ≤ wr.heap.size) (g6 : Bw wr w6) (hb : VRow w6 31 wr.heap.size wr.heap.size bv s.ba ss1) (g7 : Bw w6 w7) (hf : VRow w7 31 w6.heap.size w6.heap.size fv s.fr ss2) : SOwn w7 B none bv ov fv s := by
 obtain ⟨ps, h1, e1⟩ := hO
 obtain ⟨qs, h2, e2⟩ := vrow_erow hf
 have l6 := g6.size
 have l7 := g7.size
 refine ⟨?_, ⟨ps, ?_, e1⟩, ⟨qs, ⟨own_down h2.own (by omega), fun x hx q hq => (h2.kid x hx q hq).keep (fun b hb => ⟨by have := hb.1; omega, hb.2.1, by simp, fun e => ?_, hb.2.2⟩) (fun _ _ => rfl)⟩, e2⟩, fun k e => by cases e⟩
 · refine (hb.kat (Nat.le_refl _)).keep (fun b hb => ⟨by have := hb.1; omega, by have := hb.2; omega, by simp, fun e => ?_, fun e => ?_⟩) (fun p hp => g7.b.cell hp.2)
   · have := (h1.own.lt _ e).2; have := hb.1; omega
   · have := (hf.own.lt _ e).1; have := hb.2; omega
 · refine h1.bw (g6.trans g7) (fun b hb => ⟨⟨hb.1, by have := hb.2.1; omega, by simp, hb.2.2, fun e => ?_⟩, hb.2.1⟩)
   have := (hf.own.lt _ e).1; have := hb.2.1; omega
 · have := (h1.own.lt _ e).2; have := hb.1; omega
theorem bkown_any (m : Mdl) (hm : MdlOk m) (s : Sk) (hs : SkOk m s) (bv ov fv : Value) (w : World) (h : SAt w (· < w.heap.size) bv ov fv s) :
   Calls Tryz.prog 120 #[aggS bv ov fv s.us] w (fun e w' => ∃ bv' ov' fv', e = .returned (aggS bv' ov' fv' s.us) ∧ SOwn w' w.heap.size none bv' ov' fv' s ∧ Bw w w') := by
 obtain ⟨A1, c1, A2, c2, A3, c3, rfl, rfl, rfl⟩ := h.form
 obtain ⟨l, hO, hle⟩ := h.o
 have hl2 : l.length = s.og.length := by rw [← hle, List.length_map]
 have ho9 : s.og.length ≤ 512 := hs.ol
 have CA : Hid (∀ W, Bw w W → Calls Tryz.prog 67 #[.slice A1 s.ba.length c1] W (AllPost W s.ba)) := Lib.hid (fun W g => sall_any _ (fun v hv => by have := one_size hm (hs.one v hv); omega) _ W (h.b.bw g) (by have := hs.blen; omega))
 have CF : Hid (∀ W, Bw w W → Calls Tryz.prog 67 #[.slice A3 s.fr.length c3] W (AllPost W s.fr)) := Lib.hid (fun W g => sall_any _ (fun v hv => by have := one_size hm (hs.fr v hv); omega) _ W (h.f.bw g) (by have := hs.flen; omega))
 have OZ : Hid (∀ q ∈ l, q.1.v.size ≤ 8 ∧ q.1.nx.size ≤ 8) := Lib.hid (fun q hq => by
   have : q.1 ∈ s.og := by rw [← hle]; exact List.mem_map_of_mem hq
   exact ⟨one_size hm (hs.og _ this).1, (hs.og _ this).2.1⟩)
 have HO := Lib.hid hO
 have HLE := Lib.hid hle
 obtain ⟨i0, hi, hz0, hz1, hz2⟩ := info_parts infoOriB
 obtain ⟨ba, og, fr, us⟩ := s
 dsimp only at *
 obtain ⟨mo1, mo2⟩ : og.length ≤ c2 ∧ c2 ≤ maxLen := by
   obtain ⟨A, c, e, h1, h2⟩ := hO.form
   injection e with _ _ e
   subst e
   rw [hl2] at h1
   exact ⟨h1, h2⟩
 unfold maxLen at mo2
 clear h hO hle hs hm
 unfold AllPost at CA CF
 generalize ba.length = n1 at *
 generalize fr.length = n3 at *
 generalize hn2 : og.length = n2 at *
 have LN := Lib.hid hl2
 have LG := Lib.hid hn2
 clear hl2 hn2
 have hb9 : i0.bytes * n2 ≤ 281474976710656 := by rw [hz2]; omega
 have hm9 : n2 ≤ maxLen := by unfold maxLen; omega
 have HB9 := Lib.hid hb9
 have BX : Hid (Bw w ((w.alloc (.cells #[.slice A1 n1 c1, .slice A2 n2 c2, .slice A3 n3 c3, .int .i64 us] 67)).alloc (.cells #[.slice none 0 0, .slice none 0 0, .slice none 0 0, .int .i64 0] 67)) ∧ ∀ W, Bw ((w.alloc (.cells #[.slice A1 n1 c1, .slice A2 n2 c2, .slice A3 n3 c3, .int .i64 us] 67)).alloc (.cells #[.slice none 0 0, .slice none 0 0, .slice none 0 0, .int .i64 0] 67)) W → Bw w W ∧ w.heap.size < W.heap.size ∧ w.heap.size + 1 < W.heap.size ∧ W.cell? ⟨w.heap.size, 0, none⟩ = some (.slice A1 n1 c1) ∧ W.cell? ⟨w.heap.size, 1, none⟩ = some (.slice A2 n2 c2) ∧ W.cell? ⟨w.heap.size, 2, none⟩ = some (.slice A3 n3 c3) ∧ W.cell? ⟨w.heap.size, 3, none⟩ = some (.int .i64 us) ∧ W.cell? ⟨w.heap.size + 1, 0, none⟩ = some (.slice none 0 0) ∧ W.cell? ⟨w.heap.size + 1, 1, none⟩ = some (.slice none 0 0) ∧ W.cell? ⟨w.heap.size + 1, 2, none⟩ = some (.slice none 0 0) ∧ W.cell? ⟨w.heap.size + 1, 3, none⟩ = some (.int .i64 0)) := Lib.hid ⟨(((Bw.refl _).alloc _).alloc _), fun W g => by
   have h0 := (Blk.new w 67 #[.slice A1 n1 c1, .slice A2 n2 c2, .slice A3 n3 c3, .int .i64 us])
   have k0 := (h0.alloc (.cells #[.slice none 0 0, .slice none 0 0, .slice none 0 0, .int .i64 0] 67)).below g.b (h0.alloc (.cells #[.slice none 0 0, .slice none 0 0, .slice none 0 0, .int .i64 0] 67)).lt
   have h1 := (Blk.new (w.alloc (.cells #[.slice A1 n1 c1, .slice A2 n2 c2, .slice A3 n3 c3, .int .i64 us] 67)) 67 #[.slice none 0 0, .slice none 0 0, .slice none 0 0, .int .i64 0])
   simp only [World.size_alloc] at h1
   have k1 := h1.below g.b h1.lt
   exact ⟨(((Bw.refl _).alloc _).alloc _).trans g, k0.lt, k1.lt, k0.cell 0, k0.cell 1, k0.cell 2, k0.cell 3, k1.cell 0, k1.cell 1, k1.cell 2, k1.cell 3⟩⟩
 have HZ : Hid (∀ W, Bw ((w.alloc (.cells #[.slice A1 n1 c1, .slice A2 n2 c2, .slice A3 n3 c3, .int .i64 us] 67)).alloc (.cells #[.slice none 0 0, .slice none 0 0, .slice none 0 0, .int .i64 0] 67)) W → Blk W (w.heap.size + 1) 67 #[.slice none 0 0, .slice none 0 0, .slice none 0 0, .int .i64 0]) := Lib.hid (fun W g => by
   have h1 := Blk.new (w.alloc (.cells #[.slice A1 n1 c1, .slice A2 n2 c2, .slice A3 n3 c3, .int .i64 us] 67)) 67 #[.slice none 0 0, .slice none 0 0, .slice none 0 0, .int .i64 0]
   rw [World.size_alloc] at h1
   exact h1.below g.b h1.lt)
 go_enter Tryz.func120, Tryz.ntmps120
 go_wp2_with (at_make; go_must (refine wpList_make_own _ rfl _ _ 65 rfl (w.heap.size + 1 + 1) 112 i0 (.agg #[.int .i64 0, .slice none 0 0, .int .i64 0, .int .i64 0, .slice none 0 0]) 5 Tryz.underlying65 hi hz0 hz1 .i64 .i64 n2 n2 rfl rfl rfl HB9.out hm9 (by simp) ?_; intro w3 hown3 hgr3; simp only [World.size_alloc] at hown3; (obtain ⟨-, ylt0, ylt1, y0_0, y0_1, y0_2, y0_3, y1_0, y1_1, y1_2, y1_3⟩ := BX.out.2 _ (Bw.grown hgr3)); (have HO3 := Lib.hid hown3); (have HG3 : Hid (Bw ((w.alloc (.cells #[.slice A1 n1 c1, .slice A2 n2 c2, .slice A3 n3 c3, .int .i64 us] 67)).alloc (.cells #[.slice none 0 0, .slice none 0 0, .slice none 0 0, .int .i64 0] 67)) w3) := Lib.hid (Bw.grown hgr3)); clear hown3 hgr3))
 clear ylt0 ylt1 y0_0 y0_1 y0_2 y0_3 y1_0 y1_1 y1_2 y1_3
 go_loopw [3, 13] (fun s3 i wr => ∃ k : Nat, k ≤ n2 ∧ i = .int .i64 k ∧ Hid (OwnO (w.heap.size + 1 + 1) wr s3 (og.take k) ∧ Bw ((w.alloc (.cells #[.slice A1 n1 c1, .slice A2 n2 c2, .slice A3 n3 c3, .int .i64 us] 67)).alloc (.cells #[.slice none 0 0, .slice none 0 0, .slice none 0 0, .int .i64 0] 67)) wr)) (fun _ i _ => n2 - (intOf i).toNat)
 case atStart => exact ⟨0, by omega, rfl, Lib.hid ⟨⟨[], ⟨HO3.out, fun x hx => absurd hx (by simp)⟩, rfl⟩, HG3.out⟩⟩
 case round =>
   clear HO3 HG3
   obtain ⟨k, hk, rfl, HR⟩ := hrel
   obtain ⟨⟨ps, hrow, hpe⟩, hw⟩ := HR.out
   obtain ⟨-, ylt0, ylt1, y0_0, y0_1, y0_2, y0_3, y1_0, y1_1, y1_2, y1_3⟩ := BX.out.2 _ hw
   have hpl : ps.length = k := by
     have := congrArg List.length hpe
     simp at this
     have := LG.out
     omega
   obtain ⟨VA, vc, rfl, vb1, vb2⟩ := hrow.form
   rw [hpl] at hrow vb1 ⊢
   by_cases hlt : k < n2
   · have e1 : k < l.length := by rw [LN.out]; exact hlt
     have e2 : k < og.length := by rw [LG.out]; exact hlt
     obtain ⟨ad, rfl, hb, z0, z1, ck⟩ := (HO.out.bw (BX.out.1.trans hw)).at_ (by exact e1)
     have q0 : wr.cell? (ad.add (k * 5)) = some (.int .i64 l[k].1.v.n) := z0 _ rfl
     have q1 : wr.cell? ⟨(ad.add (k * 5)).block, (ad.add (k * 5)).off + 1, none⟩ = some l[k].2.1 := z1 0 _ rfl
     have q2 : wr.cell? ⟨(ad.add (k * 5)).block, (ad.add (k * 5)).off + 2, none⟩ = some (.int .i64 l[k].1.r) := z1 1 _ rfl
     have q3 : wr.cell? ⟨(ad.add (k * 5)).block, (ad.add (k * 5)).off + 3, none⟩ = some (.int .i64 l[k].1.nx.n) := z1 2 _ rfl
     have q4 : wr.cell? ⟨(ad.add (k * 5)).block, (ad.add (k * 5)).off + 4, none⟩ = some l[k].2.2 := z1 3 _ rfl
     have hs1 := ck (l[k].2.1, l[k].1.v.ks) (by simp [encO])
     have hs2 := ck (l[k].2.2, l[k].1.nx.ks) (by simp [encO])
     obtain ⟨oz1, oz2⟩ := OZ.out _ (List.getElem_mem e1)
     have hge : l[k].1 = og[k] := by have := HLE.out; subst this; simp
     obtain ⟨sA, sn, sc, hB1, _, _, _⟩ := hs1.form
     obtain ⟨tA, tn, tc, hB2, _, _, _⟩ := hs2.form
     dsimp only at hB1 hB2 hs1 hs2
     rw [hB1] at q1 hs1
     rw [hB2] at q4 hs2
     have HT : Hid (og.take (k + 1) = og.take k ++ [og[k]]) := Lib.hid (List.take_succ_eq_append_getElem e2)
     clear ck z0 z1 hB1 hB2
     rw [hge] at q0 q2 q3 hs1 hs2 oz1 oz2
     clear hge
     generalize og[k] = x at *
     have CV1 : Hid (∀ W, Bw wr W → Calls Tryz.prog 68 #[.agg #[.int .i64 x.v.n, .slice sA sn sc]] W (ValPost W x.v)) := Lib.hid (fun W g => sown_any _ (by omega) _ _ (hs1.bw g))
     have CV2 : Hid (∀ W, Bw wr W → Calls Tryz.prog 68 #[.agg #[.int .i64 x.nx.n, .slice tA tn tc]] W (ValPost W x.nx)) := Lib.hid (fun W g => sown_any _ (by omega) _ _ (hs2.bw g))
     have HROW := Lib.hid hrow
     have HPE := Lib.hid hpe
     have HPL := Lib.hid hpl
     have HW := Lib.hid hw
     have hsw := hw.size
     simp only [World.size_alloc] at hsw
     clear hs1 hs2 oz1 oz2 hrow hw HR hpe hpl
     unfold ValPost at CV1 CV2
     obtain ⟨xn, hxn⟩ : ∃ xn, x.v.n = xn := ⟨_, rfl⟩
     obtain ⟨xr, hxr⟩ : ∃ xr, x.r = xr := ⟨_, rfl⟩
     obtain ⟨xm, hxm⟩ : ∃ xm, x.nx.n = xm := ⟨_, rfl⟩
     rw [hxn] at CV1 q0
     rw [hxr] at q2
     rw [hxm] at CV2 q3
     have HXN := Lib.hid (And.intro hxn (And.intro hxr hxm))
     clear hxn hxr hxm
     go_wp2_with fail
     refine wp_world (fun W => Hid (Bw (wr.alloc (.cells #[.int .i64 xn, .slice sA sn sc, .int .i64 xr, .int .i64 xm, .slice tA tn tc] 112)) W)) (Lib.hid (Bw.refl _)) ?_
     clear q0 q1 q2 q3 q4 ylt0 ylt1 y0_0 y0_1 y0_2 y0_3 y1_0 y1_1 y1_2 y1_3
     intro W1 HW1
     have hw1 : Bw wr W1 := ((Bw.refl _).alloc _).trans HW1.out
     have hbo := (Blk.new wr 112 #[.int .i64 xn, .slice sA sn sc, .int .i64 xr, .int .i64 xm, .slice tA tn tc]).below HW1.out.b (by simp)
     have hnb : some wr.heap.size ≠ (Value.slice VA k vc).ownBlock := fun e => by have := (HROW.out.own.lt _ e.symm).2; omega
     have KS : Hid (∀ w', W1.grownBy w' (Value.slice VA k vc).ownBlock → w'.cell? ⟨wr.heap.size, 0, none⟩ = some (.int .i64 xn) ∧ w'.cell? ⟨wr.heap.size, 1, none⟩ = some (.slice sA sn sc) ∧ w'.cell? ⟨wr.heap.size, 2, none⟩ = some (.int .i64 xr) ∧ w'.cell? ⟨wr.heap.size, 3, none⟩ = some (.int .i64 xm) ∧ w'.cell? ⟨wr.heap.size, 4, none⟩ = some (.slice tA tn tc) ∧ W1.grownBy w' (Value.slice VA k vc).ownBlock) := Lib.hid (fun w' g => by
       have b := hbo.grown g hnb
       exact ⟨b.cell 0, b.cell 1, b.cell 2, b.cell 3, b.cell 4, g⟩)
     have hbl := hbo.lt
     have HW2 := Lib.hid hw1
     have CV3 : Hid (∀ W, Bw W1 W → Calls Tryz.prog 68 #[.agg #[.int .i64 xn, .slice sA sn sc]] W (fun e w' => ∃ s, e = .returned (.agg #[.int .i64 xn, s]) ∧ KAt w' (fun b => W.heap.size ≤ b ∧ b < w'.heap.size) s x.v.ks ∧ Bw W w')) := Lib.hid (fun W g => CV1.out W (hw1.trans g))
     have CV4 : Hid (∀ W, Bw W1 W → Calls Tryz.prog 68 #[.agg #[.int .i64 xm, .slice tA tn tc]] W (fun e w' => ∃ s, e = .returned (.agg #[.int .i64 xm, s]) ∧ KAt w' (fun b => W.heap.size ≤ b ∧ b < w'.heap.size) s x.nx.ks ∧ Bw W w')) := Lib.hid (fun W g => CV2.out W (hw1.trans g))
     clear CV1 CV2 hbo hw1
     have hfl : (ps.flatMap encO.enc).length = k * 5 := by rw [flat_length, HPL.out]; rfl
     have HROW1 := Lib.hid (HROW.out.bw HW2.out (D' := fun b => w.heap.size + 1 + 1 ≤ b ∧ b < wr.heap.size ∧ (Value.slice VA k vc).ownBlock ≠ some b) (fun b hb => ⟨hb, hb.2.1⟩))
     go_region_held3 (fun w' => w'.cell? ⟨wr.heap.size, 0, none⟩ = some (.int .i64 xn) ∧ w'.cell? ⟨wr.heap.size, 1, none⟩ = some (.slice sA sn sc) ∧ w'.cell? ⟨wr.heap.size, 2, none⟩ = some (.int .i64 xr) ∧ w'.cell? ⟨wr.heap.size, 3, none⟩ = some (.int .i64 xm) ∧ w'.cell? ⟨wr.heap.size, 4, none⟩ = some (.slice tA tn tc) ∧ W1.grownBy w' (Value.slice VA k vc).ownBlock) (first | (refine KS.out _ ?_; first | exact gb_any (Bw.refl _).drew _ | exact gb_any hA _ | exact gb_any hB _ | exact gb_any (hA.alloc _) _ | exact gb_any (hB.alloc _) _ | exact grownBy_trans (gb_any (hA.alloc _) _) hgr8 | exact grownBy_trans (gb_any (hB.alloc _) _) hgr8)) (first
       | (go_at_call 68; (with_reducible refine (CV3.out _ (by first | exact hB | exact (Bw.refl _).drew)).mono ?_); rintro e w6 ⟨s6, rfl, hk6, hg6⟩; obtain ⟨A6, n6, c6, rfl, _, _, _⟩ := hk6.form; (have hA : Bw W1 w6 := by first | exact hB.trans hg6 | exact (Bw.refl _).drew.trans hg6))
       | (go_at_call 68; (with_reducible refine (CV4.out _ (by first | exact hA | exact (Bw.refl _).drew)).mono ?_); rintro e w7 ⟨s7, rfl, hk7, hg7⟩; obtain ⟨A7, n7, c7, rfl, _, _, _⟩ := hk7.form; (have hB : Bw W1 w7 := by first | exact hA.trans hg7 | exact (Bw.refl _).drew.trans hg7))
       | (refine step_append_any _ rfl (.tmp 17) (.tmp 27) 65 rfl (w.heap.size + 1 + 1) 112 i0 _ 5 72 Tryz.underlying65 hi hz0 hz1 hz2 rfl (by decide) (.slice VA k vc) k (ps.flatMap encO.enc) (by rfl) (by have := (HROW1.out.bw hB (D' := fun _ => True) (fun b hb => ⟨trivial, by have := HW2.out.size; omega⟩)).own.alloc (.cells #[.int .i64 xn, .slice A6 n6 c6, .int .i64 xr, .int .i64 xm, .slice A7 n7 c7] 112); rwa [HPL.out] at this) (w7.heap.size + 1) (some ⟨w7.heap.size, 0, none⟩) 1 1 [.int .i64 xn, .slice A6 n6 c6, .int .i64 xr, .int .i64 xm, .slice A7 n7 c7] (by rfl) (reads_new5 w7 _ _ _ _ _ _) (ori5 _ _ _ _ _ _ _ _ _) (by unfold maxLen; omega) (by omega) (by simp; have := hB.size; have := HW2.out.size; omega) ?_; intro v8 w8 hown8 hgr8 hl8; obtain ⟨A8, c8, rfl⟩ := own_form hown8)
       | (refine step_append_any _ rfl (.tmp 17) (.tmp 27) 65 rfl (w.heap.size + 1 + 1) 112 i0 _ 5 72 Tryz.underlying65 hi hz0 hz1 hz2 rfl (by decide) (.slice VA k vc) k (ps.flatMap encO.enc) (by rfl) (by have := (HROW1.out.bw hA (D' := fun _ => True) (fun b hb => ⟨trivial, by have := HW2.out.size; omega⟩)).own.alloc (.cells #[.int .i64 xn, .slice A6 n6 c6, .int .i64 xr, .int .i64 xm, .slice A7 n7 c7] 112); rwa [HPL.out] at this) (w6.heap.size + 1) (some ⟨w6.heap.size, 0, none⟩) 1 1 [.int .i64 xn, .slice A6 n6 c6, .int .i64 xr, .int .i64 xm, .slice A7 n7 c7] (by rfl) (reads_new5 w6 _ _ _ _ _ _) (ori5 _ _ _ _ _ _ _ _ _) (by unfold maxLen; omega) (by omega) (by simp; have := hA.size; have := HW2.out.size; omega) ?_; intro v8 w8 hown8 hgr8 hl8; obtain ⟨A8, c8, rfl⟩ := own_form hown8))
     have hs6 := hA.size
     have hs7 := hg7.size
     have hs1 := HW2.out.size
     have ha7 := (Bw.refl w7).alloc (.cells #[.int .i64 xn, .slice A6 n6 c6, .int .i64 xr, .int .i64 xm, .slice A7 n7 c7] 112)
     have hrowA := HROW1.out.bw (hB.trans ha7) (D' := fun b => w.heap.size + 1 + 1 ≤ b ∧ b < (w7.alloc (.cells #[.int .i64 xn, .slice A6 n6 c6, .int .i64 xr, .int .i64 xm, .slice A7 n7 c7] 112)).heap.size ∧ (Value.slice VA k vc).ownBlock ≠ some b) (fun b hb => ⟨⟨hb.1, by rw [World.size_alloc]; omega, hb.2.2⟩, by omega⟩)
     have hpush : OwnO (w.heap.size + 1 + 1) w8 (.slice A8 (k + 1) c8) (og.take k ++ [x]) := by
       refine OwnO.push hrowA HPE.out (x := x) (s1 := .slice A6 n6 c6) (s2 := .slice A7 n7 c7) ?_ ?_ ?_ hgr8 hl8
       · have hlt6 : ∀ b, (Value.slice VA k vc).ownBlock = some b → b < wr.heap.size := fun b e => (HROW.out.own.lt b e).2
         refine hk6.keep (fun b hb => ⟨?_, ?_, fun e => ?_⟩) (fun p hp => (hg7.trans ha7).b.cell hp.2)
         · have h1 : W1.heap.size ≤ b := hb.1; omega
         · have := hb.2; rw [World.size_alloc]; omega
         · have h1 : W1.heap.size ≤ b := hb.1; have := hlt6 b e; omega
       · have hlt6 : ∀ b, (Value.slice VA k vc).ownBlock = some b → b < wr.heap.size := fun b e => (HROW.out.own.lt b e).2
         refine hk7.keep (fun b hb => ⟨by have := hb.1; omega, by have := hb.2; rw [World.size_alloc]; omega, fun e => by have := hb.1; have := hlt6 b e; omega⟩) (fun p hp => ha7.b.cell hp.2)
       · rw [HPL.out, HXN.out.1, HXN.out.2.1, HXN.out.2.2]; exact hown8
     have HPU := Lib.hid hpush
     have HBW : Hid (Bw ((w.alloc (.cells #[.slice A1 n1 c1, .slice (some ad) n2 c2, .slice A3 n3 c3, .int .i64 us] 67)).alloc (.cells #[.slice none 0 0, .slice none 0 0, .slice none 0 0, .int .i64 0] 67)) w8) := Lib.hid (bw_gb ((HW.out.trans HW2.out).trans (hB.trans ha7)) hgr8 (fun r e => by have := (HROW.out.own.lt r e).1; simp; omega))
     clear hk6 hk7 hg6 hg7 hA hB hgr8 hown8 hl8 hrowA hpush ha7 KS CV3 CV4
     go_wp2
     go_roundw
     case rel => exact ⟨k + 1, by omega, by go_num, Lib.hid ⟨by rw [HT.out]; exact HPU.out, HBW.out⟩⟩
     case measure => simp [intOf]; omega
   · obtain rfl : n2 = k := by omega
     have hO : OwnO (w.heap.size + 1 + 1) wr (.slice VA n2 vc) og := ⟨ps, by rw [← hpl] at hrow ⊢; exact hrow, by rw [hpe, List.take_of_length_le (by rw [LG.out]; exact Nat.le_refl _)]⟩
     have HOF := Lib.hid hO
     have HW := Lib.hid hw
     have hsw := hw.size
     simp only [World.size_alloc] at hsw
     clear hrow hw HR hpe hpl hO
     go_wp2_with fail
     refine wp_world (fun W => Hid (Bw wr W)) (Lib.hid (Bw.refl _)) ?_
     intro W1 HW1
     have hbx := fun w' (g : Bw W1 w') => BX.out.2 w' ((HW.out.trans HW1.out).trans g)
     have KS : Hid (∀ w', W1.grownBy w' (some (w.heap.size + 1)) → w'.cell? ⟨w.heap.size, 0, none⟩ = some (.slice A1 n1 c1) ∧ w'.cell? ⟨w.heap.size, 1, none⟩ = some (.slice A2 n2 c2) ∧ w'.cell? ⟨w.heap.size, 2, none⟩ = some (.slice A3 n3 c3) ∧ w'.cell? ⟨w.heap.size, 3, none⟩ = some (.int .i64 us) ∧ W1.grownBy w' (some (w.heap.size + 1))) := Lib.hid (fun w' g => by
       have b0 := Blk.new w 67 #[.slice A1 n1 c1, .slice A2 n2 c2, .slice A3 n3 c3, .int .i64 us]
       have b1 := b0.alloc (.cells #[.slice none 0 0, .slice none 0 0, .slice none 0 0, .int .i64 0] 67)
       have b := (b1.below ((HW.out.trans HW1.out).b) b1.lt).grown g (fun e => by injection e with e; omega)
       exact ⟨b.cell 0, b.cell 1, b.cell 2, b.cell 3, g⟩)
     have hbl : w.heap.size + 1 < W1.heap.size := by have := HW1.out.size; omega
     have CA2 : Hid (∀ W, Bw W1 W → Calls Tryz.prog 67 #[.slice A1 n1 c1] W (fun e w' => ∃ s ss, e = .returned s ∧ VRow w' 31 W.heap.size W.heap.size s ba ss ∧ Bw W w')) := Lib.hid (fun W g => CA.out W ((BX.out.1.trans (HW.out.trans HW1.out)).trans g))
     have CF2 : Hid (∀ W, Bw W1 W → Calls Tryz.prog 67 #[.slice A3 n3 c3] W (fun e w' => ∃ s ss, e = .returned s ∧ VRow w' 31 W.heap.size W.heap.size s fr ss ∧ Bw W w')) := Lib.hid (fun W g => CF.out W ((BX.out.1.trans (HW.out.trans HW1.out)).trans g))
     clear CA CF hbx
     go_region_held3 (fun w' => w'.cell? ⟨w.heap.size, 0, none⟩ = some (.slice A1 n1 c1) ∧ w'.cell? ⟨w.heap.size, 1, none⟩ = some (.slice A2 n2 c2) ∧ w'.cell? ⟨w.heap.size, 2, none⟩ = some (.slice A3 n3 c3) ∧ w'.cell? ⟨w.heap.size, 3, none⟩ = some (.int .i64 us) ∧ W1.grownBy w' (some (w.heap.size + 1))) (first | (refine KS.out _ ?_; first | exact gb_any (Bw.refl _).drew _ | exact gb_any hA _ | exact gb_any hB _ | exact hS)) (first
       | (go_at_call 67; (with_reducible refine (CA2.out _ (Bw.refl _).drew).mono ?_); rintro e w6 ⟨s6, ss6, rfl, hv6, hg6⟩; obtain ⟨A6, c6, rfl, _, _⟩ := hv6.form; have hA : Bw W1 w6 := (Bw.refl _).drew.trans hg6)
       | (go_at_call 67; (with_reducible refine (CF2.out _ hA).mono ?_); rintro e w7 ⟨s7, ss7, rfl, hv7, hg7⟩; obtain ⟨A7, c7, rfl, _, _⟩ := hv7.form; have hB : Bw W1 w7 := hA.trans hg7; have hz := HZ.out w7 ((HW.out.trans HW1.out).trans hB); have r0 := hz.cell 0; have r1 := hz.cell 1; have r2 := hz.cell 2; have r3 := hz.cell 3; have f0 := hz.frozen 0; have f1 := hz.frozen 1; have f2 := hz.frozen 2; have f3 := hz.frozen 3; have rl := hz.lt; have hst := blk4 (v0 := .slice A6 ba.length c6) (v1 := .slice VA n2 vc) (v2 := .slice A7 fr.length c7) (v3 := .int .i64 us) hz; have hS := grownBy_trans (gb_any hB (some (w.heap.size + 1))) hst.2))
     have HS := Lib.hid ((SOwn.of3 (s := ⟨ba, og, fr, us⟩) (HOF.out.bw HW1.out) (by have := HW1.out.size; omega) hA hv6 hg7 hv7))
     have HBB := Lib.hid hst
     have HBW : Hid (Bw w w7) := Lib.hid (((BX.out.1.trans HW.out).trans HW1.out).trans hB)
     clear hA hB hst hS hv6 hv7 hg6 hg7 hz r0 r1 r2 r3 f0 f1 f2 f3 KS CA2 CF2
     go_wp2
     refine bodyPost_ret (results_cell_row (p := 2) (ty := 67) rfl _ _ (w.heap.size + 1) 67 _ (0, 0) _ rfl HBB.out.1 Tryz.underlying67 rfl (by kernel_rfl)) rfl ?_
     exact ⟨_, _, _, rfl, (HS.out.low HBB.out.2 (by omega)).more (by omega), bw_gb HBW.out HBB.out.2 (fun r e => by injection e with e; omega)⟩
end
end Go.Proofs.YthhbkabdhkdafaaGreat
