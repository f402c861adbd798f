/- Part of a proof of coverSearches_holds. -/
import Derived.Test.YthhbkabdhkdafaaGreatVAoP
set_option linter.unusedSimpArgs false
set_option linter.unusedVariables false
set_option maxRecDepth 100000
set_option maxHeartbeats 16000000
namespace Go.Proofs.YthhbkabdhkdafaaGreat
section
open Go.RowKit
theorem infoRowsI : (Tryz.prog.info? 44).map (fun i => (i.zero, i.size, i.bytes)) = some (some (.slice none 0 0), 1, 24) := by kernel_rfl
def AllI (B : Nat) (W : World) (g n k : Nat) (gs cs : List Int) : Prop := ∃ ss : List Value, W.ownsRow B 44 1 (.slice (some ⟨g, 0, none⟩) n n) n ss ∧ (∀ j (h : j < ss.length), j < k → IIAt W (fun b => B ≤ b ∧ b < W.heap.size ∧ b ≠ g) ss[j] [unitC n j (exC gs cs j)]) ∧ ∀ j (h : j < ss.length), k ≤ j → ss[j] = .slice none 0 0
theorem AllI.bw {B g n k : Nat} {W W' : World} {gs cs : List Int} (h : AllI B W g n k gs cs) (b : Bw W W') : AllI B W' g n k gs cs := by
 obtain ⟨ss, h1, h2, h3⟩ := h
 exact ⟨ss, own_kept_below h1 b, fun j hj hjk => (h2 j hj hjk).keep (fun x hx => ⟨hx.1, Nat.lt_of_lt_of_le hx.2.1 b.size, hx.2.2⟩) (fun p hp => b.b.cell hp.2.1), h3⟩
theorem AllI.len {B g n k : Nat} {W : World} {gs cs : List Int} (h : AllI B W g n k gs cs) : B ≤ g ∧ (0 < n → g < W.heap.size) := by
 obtain ⟨ss, h1, _⟩ := h
 rcases h1.2 with ⟨h', _⟩ | ⟨g', cap', cur, h', hb, hg, _⟩
 · simp at h'
 · simp only [Value.slice.injEq, Option.some.injEq, Addr.mk.injEq, and_true, true_and] at h'
   obtain ⟨rfl, rfl⟩ := h'
   exact ⟨hb, fun _ => (h1.lt _ rfl).2⟩
theorem AllI.cell {B g n k : Nat} {W : World} {gs cs : List Int} (h : AllI B W g n k gs cs) (hk : k < n) : W.cell? ⟨g, k, none⟩ = some (.slice none 0 0) := by
 obtain ⟨ss, h1, _, h3⟩ := h
 have hl : ss.length = n := by have := h1.1; simpa using this
 rw [h1.cellAt k (by omega), List.getElem?_eq_getElem (by omega), h3 k (by omega) (Nat.le_refl _)]
theorem AllI.frozen {B g n k : Nat} {W : World} {gs cs : List Int} (h : AllI B W g n k gs cs) (j : Nat) : W.frozen? ⟨g, j, none⟩ = false := by
 obtain ⟨ss, h1, _⟩ := h
 exact h1.frozenAt j
theorem AllI.way {B g n k : Nat} {W : World} {gs cs : List Int} (h : AllI B W g n k gs cs) {j : Nat} (hj : j < k) (hk : k ≤ n) : ∃ v, W.cell? ⟨g, j, none⟩ = some v ∧ IIAt W (fun b => B ≤ b ∧ b < W.heap.size ∧ b ≠ g) v [unitC n j (exC gs cs j)] := by
 obtain ⟨ss, h1, h2, _⟩ := h
 have hl : ss.length = n := by have := h1.1; simpa using this
 exact ⟨ss[j], by rw [h1.cellAt j (by omega), List.getElem?_eq_getElem (by omega)], h2 j (by omega) hj⟩
theorem AllI.step {B g n k : Nat} {W : World} {gs cs : List Int} (h : AllI B W g n k gs cs) (hk : k < n) {v : Value} (hv : IIAt W (fun b => B ≤ b ∧ b < W.heap.size ∧ b ≠ g) v [unitC n k (exC gs cs k)]) : AllI B (W.setCell ⟨g, k, none⟩ v) g n (k + 1) gs cs := by
 obtain ⟨ss, h1, h2, h3⟩ := h
 have hl : ss.length = n := by have := h1.1; simpa using this
 have key : ∀ (u : Value) (l : List (List Int)), IIAt W (fun b => B ≤ b ∧ b < W.heap.size ∧ b ≠ g) u l → IIAt (W.setCell ⟨g, k, none⟩ v) (fun b => B ≤ b ∧ b < (W.setCell ⟨g, k, none⟩ v).heap.size ∧ b ≠ g) u l := fun u l hu =>
   hu.keep (fun x hx => ⟨hx.1, by rw [World.size_setCell]; exact hx.2.1, hx.2.2⟩) (fun p hp => World.cell?_of_block ((h1.stored k v).2.block p.block hp.2.1 (fun e => hp.2.2 (by injection e))))
 refine ⟨ss.set k v, (h1.stored k v).1, fun j hj hjk => ?_, fun j hj hjk => ?_⟩
 · rw [List.length_set] at hj
   rw [List.getElem_set]
   by_cases e : k = j
   · subst e; rw [if_pos rfl]; exact key _ _ hv
   · rw [if_neg e]; exact key _ _ (h2 j hj (by omega))
 · rw [List.length_set] at hj
   rw [List.getElem_set, if_neg (by omega)]
   exact h3 j hj (by omega)
theorem own_one {w : World} {B e size n : Nat} {v : Value} {xs : List Value} (h : w.ownsRow B e size v n xs) (hn : 0 < n) : ∃ g c, v = .slice (some ⟨g, 0, none⟩) n c ∧ B ≤ g ∧ g < w.heap.size ∧ n ≤ c ∧ c ≤ maxLen := by
 obtain ⟨g, c, rfl, h1, h2⟩ := h.form hn
 obtain ⟨A, c', e', h3, h4⟩ := own_bounds h
 injection e' with _ _ e'
 exact ⟨g, c, rfl, h1, h2, by omega, by omega⟩
theorem IAt.isAt {w : World} {B : Nat} {A : Option Addr} {n c : Nat} {cs : List Int} (h : IAt w (· < B) (.slice A n c) cs) : IsAt w B A cs := by
 obtain ⟨A', n', c', e, h2, h3, h4, h5⟩ := h
 injection e with e1 e2 e3
 subst e1 e2 e3
 refine ⟨by simp [intVs], fun hn => ?_⟩
 obtain ⟨ad, e, h6, h7⟩ := h5 (by omega)
 refine ⟨ad, e, h6, fun j u hu => ?_⟩
 rw [intVs, List.getElem?_map] at hu
 obtain ⟨x, hx, rfl⟩ := Option.map_eq_some_iff.1 hu
 obtain ⟨hk, rfl⟩ := List.getElem?_eq_some_iff.1 hx
 exact h7 j hk
theorem exC_bd {gs cs : List Int} (hc : ∀ c ∈ cs, 0 ≤ c ∧ c ≤ 1048576) {i : Nat} (hg : 0 ≤ gs.getD i 0) (hi : i < cs.length) : 0 ≤ exC gs cs i ∧ exC gs cs i ≤ 1048576 := by
 have h1 := hc _ (List.getElem_mem hi)
 have h2 : cs.getD i 0 = cs[i] := by simp [List.getD, hi]
 unfold exC
 rw [h2]; omega
def optL (o : Option (List Int)) : List (List Int) := match o with
 | none => []
 | some l => [l]
def CouPost (w : World) (ls : List (List Int)) (e : Ending) (w' : World) : Prop := ∃ s, e = .returned (.tuple #[s, .bool false]) ∧ IIAt w' (· < w'.heap.size) s ls ∧ Bw w w'
theorem counters_any (q : Nat) (r : Rul) (cs : List Int) (hr : RulOk q cs.length r) (hc : ∀ c ∈ cs, 0 ≤ c ∧ c ≤ 1048576) (h0 : 0 < cs.length) (h6 : cs.length ≤ 6) (nd gv s : Value) (w : World) (h1 : IB w w.heap.size nd r.need) (h2 : IB w w.heap.size gv r.give) (h3 : IB w w.heap.size s cs) :
   Calls Tryz.prog 356 #[aggR r nd gv, s] w (CouPost w (optL (askC r.need r.give cs))) := by
 obtain ⟨An, nn, cn, rfl, ln, _, _⟩ := h1.form
 obtain ⟨Ag, ng, cg, rfl, lg, _, _⟩ := h2.form
 obtain ⟨At, m, ct, rfl, lt, bt, mt⟩ := h3.form
 obtain ⟨i0, hi, hz0, hz1, hz2⟩ := info_parts infoRowsI
 obtain ⟨i1, hi1, hy0, hy1, hy2⟩ := info_parts infoInt
 obtain ⟨i2, hi2, hx0, hx1, hx2⟩ := info_parts infoIntsJ
 have hz2' : i0.bytes * m ≤ 281474976710656 := by rw [hz2]; omega
 have hm9 : m ≤ maxLen := by unfold maxLen; omega
 have HND := Lib.hid h1
 have HGV := Lib.hid h2
 have HCS := Lib.hid h3
 have HRU := Lib.hid hr
 have HC := Lib.hid hc
 have LT := Lib.hid lt
 have LNG := Lib.hid (And.intro ln lg)
 have CS : Hid (∀ (W : World) (k : Nat), Calls Tryz.prog 383 #[aggR r (.slice An nn cn) (.slice Ag ng cg), .int .i64 (m : Int), .int .i64 (k : Int)] W (IntsF W [(k : Int)])) := Lib.hid (fun W k => sources_any r _ _ m k W _ _ _ _ _ _ rfl rfl)
 clear h1 h2 h3 hr hc ln lg
 rw [lt] at h0 h6
 clear lt
 unfold aggR at *
 have BX : Hid (∀ W, Bw (w.alloc (.cells #[.string r.nm, .int .i64 r.fr, .int .i64 r.tz, .slice An nn cn, .slice Ag ng cg, .slice none 0 0, .int .i64 0, .int .i64 0, .int .i64 0, .slice none 0 0, .slice none 0 0, .slice none 0 0, .slice none 0 0, .int .i64 0] 75)) W → Blk W w.heap.size 75 #[.string r.nm, .int .i64 r.fr, .int .i64 r.tz, .slice An nn cn, .slice Ag ng cg, .slice none 0 0, .int .i64 0, .int .i64 0, .int .i64 0, .slice none 0 0, .slice none 0 0, .slice none 0 0, .slice none 0 0, .int .i64 0]) := Lib.hid (fun W g => (Blk.new w 75 _).below g.b (by simp))
 go_enter Tryz.func356, Tryz.ntmps356
 have HZ2 := Lib.hid hz2'
 go_wp2_with (at_make; go_must (refine wpList_make_full _ rfl _ _ 336 rfl w.heap.size 44 i0 (.slice none 0 0) 1 Tryz.underlying336 hi hz0 hz1 .i64 .i64 m m m rfl rfl rfl rfl HZ2.out hm9 (by simp) ?_; intro w3 hown3 hgr3; (replace hown3 : w3.ownsRow w.heap.size 44 1 (.slice (some ⟨w.heap.size + 1, 0, none⟩) m m) m (List.replicate m (.slice none 0 0)) := by (rw [← toList_madeCells_one]; rw [Nat.mul_one] at hown3; simp only [World.size_alloc] at hown3; exact hown3)); (have HO3 := Lib.hid hown3); (have HG3 : Hid (Bw (w.alloc (.cells #[.string r.nm, .int .i64 r.fr, .int .i64 r.tz, .slice An nn cn, .slice Ag ng cg, .slice none 0 0, .int .i64 0, .int .i64 0, .int .i64 0, .slice none 0 0, .slice none 0 0, .slice none 0 0, .slice none 0 0, .int .i64 0] 75)) w3) := Lib.hid (Bw.grown hgr3)); clear hown3 hgr3))
 have hwb : w.heap.size + 1 ≤ w3.heap.size := by have := HG3.out.size; simpa using this
 go_loopw [34] (fun i wr => ∃ k : Nat, k ≤ m ∧ i = .int .i64 k ∧ Hid (AllI w.heap.size wr (w.heap.size + 1) m k r.give cs ∧ Bw (w.alloc (.cells #[.string r.nm, .int .i64 r.fr, .int .i64 r.tz, .slice An nn cn, .slice Ag ng cg, .slice none 0 0, .int .i64 0, .int .i64 0, .int .i64 0, .slice none 0 0, .slice none 0 0, .slice none 0 0, .slice none 0 0, .int .i64 0] 75)) wr ∧ ∀ j, j < k → exC r.give cs j ≤ 1048576 - r.need.getD j 0)) (fun i _ => m - (intOf i).toNat)
 case atStart => exact ⟨0, by omega, rfl, Lib.hid ⟨⟨_, HO3.out, fun j hj h => absurd h (by omega), fun j hj _ => List.getElem_replicate _⟩, HG3.out, fun j h => absurd h (by omega)⟩⟩
 case round =>
   obtain ⟨k, hk, rfl, HR⟩ := hrel
   obtain ⟨hall, hw, hle⟩ := HR.out
   have HAL := Lib.hid hall
   have HWB := Lib.hid hw
   have HW0 : Hid (Bw w wr) := Lib.hid (((Bw.refl w).alloc _).trans HWB.out)
   have HLE := Lib.hid hle
   have hs0 : w.heap.size + 1 < wr.heap.size := hall.len.2 h0
   clear hall hw hle HR
   by_cases hlt : k < m
   · have e1 : k < cs.length := by rw [LT.out]; exact hlt
     have e2 : k < r.need.length := by rw [HRU.out.nl]; exact e1
     have e3 : k < r.give.length := by rw [HRU.out.gl]; exact e1
     obtain ⟨adt, rfl, bdt, qt⟩ := (HCS.out.bw HW0.out).at_ e1
     obtain ⟨adn, rfl, bdn, qn⟩ := HND.out.at_ e2
     obtain ⟨adg, rfl, bdg, qg⟩ := HGV.out.at_ e3
     have hkn : k < nn := by have := LNG.out.1; omega
     have hkg : k < ng := by have := LNG.out.2; omega
     have hx := HC.out _ (List.getElem_mem e1)
     have hz := HRU.out.n0 k e1
     have hy := HRU.out.g0 k e1
     have EX : Hid (exC r.give cs k = max 0 (cs[k] - r.give[k]) ∧ r.need.getD k 0 = r.need[k]) := Lib.hid (by simp [exC, List.getD, e1, e2, e3])
     rw [EX.out.2] at hz
     rw [show r.give.getD k 0 = r.give[k] from by simp [List.getD, e3]] at hy
     generalize cs[k] = x at *
     generalize r.need[k] = z at *
     generalize r.give[k] = y at *
     have QN : Hid (∀ W, Bw w W → W.cell? (adn.add k) = some (.int .i64 z)) := Lib.hid (fun W g => (g.b.cell (p := adn.add k) (by rw [add_block]; exact bdn)).trans qn)
     have QG : Hid (∀ W, Bw w W → W.cell? (adg.add k) = some (.int .i64 y)) := Lib.hid (fun W g => (g.b.cell (p := adg.add k) (by rw [add_block]; exact bdg)).trans qg)
     have hbx := BX.out _ HWB.out
     have b0 : wr.cell? ⟨w.heap.size, 0, none⟩ = some (.string r.nm) := hbx.cell 0
     have b1 : wr.cell? ⟨w.heap.size, 1, none⟩ = some (.int .i64 r.fr) := hbx.cell 1
     have b2 : wr.cell? ⟨w.heap.size, 2, none⟩ = some (.int .i64 r.tz) := hbx.cell 2
     have b3 : wr.cell? ⟨w.heap.size, 3, none⟩ = some (.slice (some adn) nn cn) := hbx.cell 3
     have b4 : wr.cell? ⟨w.heap.size, 4, none⟩ = some (.slice (some adg) ng cg) := hbx.cell 4
     have b5 : wr.cell? ⟨w.heap.size, 5, none⟩ = some (.slice none 0 0) := hbx.cell 5
     have b6 : wr.cell? ⟨w.heap.size, 6, none⟩ = some (.int .i64 0) := hbx.cell 6
     have b7 : wr.cell? ⟨w.heap.size, 7, none⟩ = some (.int .i64 0) := hbx.cell 7
     have b8 : wr.cell? ⟨w.heap.size, 8, none⟩ = some (.int .i64 0) := hbx.cell 8
     have b9 : wr.cell? ⟨w.heap.size, 9, none⟩ = some (.slice none 0 0) := hbx.cell 9
     have b10 : wr.cell? ⟨w.heap.size, 10, none⟩ = some (.slice none 0 0) := hbx.cell 10
     have b11 : wr.cell? ⟨w.heap.size, 11, none⟩ = some (.slice none 0 0) := hbx.cell 11
     have b12 : wr.cell? ⟨w.heap.size, 12, none⟩ = some (.slice none 0 0) := hbx.cell 12
     have b13 : wr.cell? ⟨w.heap.size, 13, none⟩ = some (.int .i64 0) := hbx.cell 13
     clear hbx
     have BR : Hid (∀ W, Bw wr W → (∀ i : Nat, W.cell? ⟨w.heap.size, i, none⟩ = wr.cell? ⟨w.heap.size, i, none⟩) ∧ w.heap.size < W.heap.size) := Lib.hid (fun W g => ⟨fun i => g.b.cell (p := ⟨w.heap.size, i, none⟩) (by simp; omega), by have := g.size; omega⟩)
     go_wp2_with (go_at_call 383; go_must (refine (CS.out _ k).mono ?_; rintro e w4 ⟨s4, rfl, ho4, hb4⟩; (have ho4 : w4.ownsRow wr.heap.size 3 1 s4 1 (intVs [(k : Int)]) := ho4); obtain ⟨g4, c4, rfl, hg4, hl4⟩ := ho4.form (by omega); (have p0 : w4.cell? ⟨g4, 0, none⟩ = some (.int .i64 (k : Int)) := ho4.cellAt 0 (by omega)); (have t3 := ((BR.out w4 hb4).1 3).trans b3); (have t4 := ((BR.out w4 hb4).1 4).trans b4); (have tl := (BR.out w4 hb4).2); (have tn := QN.out w4 (HW0.out.trans hb4)); (have HB4 := Lib.hid hb4); clear ho4 hb4))
     refine wp_loop_rounds 2 ?_
     rw [rounds_succ]
     have bz : -100 ≤ 1048576 - z ∧ 1048576 - z ≤ 1048576 := by omega
     have hs4 := HB4.out.size
     go_wp2_with (at_builtin; go_must (refine wpList_append_any _ rfl _ _ 27 rfl w.heap.size 3 i1 _ 1 8 Tryz.underlying27 hi1 hy0 hy1 hy2 rfl (by decide) (.slice none 0 0) 0 [] rfl (World.ownsRow_nil _ _ _ _) (w4.heap.size + 1) (some ⟨w4.heap.size, 0, none⟩) 1 1 [.int .i64 (1048576 - z)] rfl (reads_new1 w4 _) (by simp [Value.oneCell']) (by unfold maxLen; omega) (by omega) (by simp; omega) ?_; intro v5 w5 hown5 hgr5 hl5; obtain ⟨g5, c5, rfl, hg5, hl6, bc5, mc5⟩ := own_one hown5 (by omega); (have hb5 : Bw w4 w5 := ((Bw.refl w4).alloc _).trans (Bw.grown hgr5)); (have p5 : w5.cell? ⟨g5, 0, none⟩ = some (.int .i64 (1048576 - z)) := hown5.cellAt 0 (by omega)); (have HO5 := Lib.hid hown5); (have HB5 := Lib.hid hb5); clear hown5 hgr5 hl5 hb5))
     obtain ⟨e, d0⟩ : ∃ e, max 0 (x - y) = e := ⟨_, rfl⟩
     rw [d0] at EX
     have be : 0 ≤ e ∧ e ≤ 1048576 := by omega
     have hs5 := HB5.out.size
     have bc5' : 1 ≤ c5 ∧ c5 ≤ maxLen := ⟨by omega, mc5⟩
     have hbr := BR.out w5 (HB4.out.trans HB5.out)
     have t5 : w5.cell? ⟨w.heap.size, 4, none⟩ = some (.slice (some adg) ng cg) := (hbr.1 4).trans b4
     have tl5 := hbr.2
     have tg : w5.cell? (adg.add k) = some (.int .i64 y) := QG.out w5 ((HW0.out.trans HB4.out).trans HB5.out)
     have hal5 := HAL.out.bw (HB4.out.trans HB5.out)
     have ta : w5.cell? ⟨w.heap.size + 1, k, none⟩ = some (.slice none 0 0) := hal5.cell hlt
     have HAL5 := Lib.hid hal5
     clear hbr hal5
     have hblk : w.heap.size + 1 < w5.heap.size := by omega
     rw [rounds_succ]
     rcases Int.lt_or_le (1048576 - z) e with hem | hem
     · have CSP : Hid (Calls Tryz.prog 384 #[.int .i64 e, .slice (some ⟨g5, 0, none⟩) 1 c5, .int .i64 257] w5 (fun e w' => e = .returned (.slice none 0 0) ∧ w5 = w')) := Lib.hid (spread_more e (1048576 - z) be bz hem ⟨g5, 0, none⟩ c5 bc5' w5 hl6 p5)
       go_wp2_with (go_at_call 384; go_must (refine CSP.out.mono ?_; rintro e8 w8 ⟨rfl, rfl⟩))
       refine wp_loop_rounds 1 ?_
       rw [rounds_succ]
       go_wp2
       go_ret2
       have hno : askC r.need r.give cs = none := askC_none (by rw [HRU.out.nl]) (by rw [HRU.out.gl]) e1 (by rw [EX.out.1, EX.out.2]; exact hem)
       rw [hno]
       exact ⟨_, rfl, IIAt.nil', (HW0.out.trans HB4.out).trans HB5.out⟩
     · have CSP : Hid (Calls Tryz.prog 384 #[.int .i64 e, .slice (some ⟨g5, 0, none⟩) 1 c5, .int .i64 257] w5 (IIF w5 [[e]])) := Lib.hid (spread_one e (1048576 - z) be bz hem ⟨g5, 0, none⟩ c5 bc5' w5 hl6 p5)
       go_wp2_with (go_at_call 384; go_must (refine CSP.out.mono ?_; rintro e8 w6 ⟨s6, rfl, hii, hb6⟩; (have HB6 := Lib.hid hb6); obtain ⟨A6, n6, c6, rfl, l6, _, _⟩ := hii.form; (have HII := Lib.hid hii); clear hb6 hii))
       obtain rfl : n6 = 1 := by simpa using l6.symm
       obtain ⟨ad6, sA, sn, sc, rfl, hS6, q6, hl6', hia⟩ := HII.out.at_ (k := 0) (by simp)
       obtain rfl : sn = 1 := by simpa using hl6'.symm
       obtain ⟨ad7, rfl, hS7, q7⟩ := hia.at_ (k := 0) (by simp)
       rw [show ad6.add 0 = ad6 by simp [Addr.add]] at q6
       rw [show ad7.add 0 = ad7 by simp [Addr.add]] at q7
       have q7' : w6.cell? ad7 = some (.int .i64 e) := q7
       have hs6 := HB6.out.size
       have HY2 : Hid (i1.bytes * m ≤ 281474976710656) := Lib.hid (by rw [hy2]; omega)
       have FR : Hid (∀ W, Bw w6 W → W.cell? ⟨g4, 0, none⟩ = some (.int .i64 (k : Int)) ∧ W.cell? ad7 = some (.int .i64 e)) := Lib.hid (fun W g => ⟨(g.b.cell (p := ⟨g4, 0, none⟩) (by show g4 < _; omega)).trans (((HB5.out.trans HB6.out).b.cell (p := ⟨g4, 0, none⟩) hl4).trans p0), (g.b.cell hS7.2).trans q7'⟩)
       clear hia q7 hl6' l6
       refine wp_loop_rounds 2 ?_
       rw [rounds_succ]
       go_wp2_with (at_make; go_must (refine wpList_make_full _ rfl _ _ 27 rfl w.heap.size 3 i1 (.int .i64 0) 1 Tryz.underlying27 hi1 hy0 hy1 .i64 .i64 m m m rfl rfl rfl rfl HY2.out hm9 (by omega) ?_; intro w7 hown7 hgr7; (replace hown7 : w7.ownsRow w.heap.size 3 1 (.slice (some ⟨w6.heap.size, 0, none⟩) m m) m (List.replicate m (.int .i64 0)) := by (rw [← toList_madeCells_one]; rw [Nat.mul_one] at hown7; exact hown7)); (have c0 : w7.cell? ⟨w6.heap.size, k, none⟩ = some (.int .i64 0) := (hown7.cellAt k (by omega)).trans (by rw [List.getElem?_replicate, if_pos hlt])); (have f0 := hown7.frozenAt k); (have z7 : w6.heap.size < w7.heap.size := (hown7.lt _ rfl).2); (obtain ⟨y0, y1⟩ := FR.out w7 (Bw.grown hgr7)); (have HO7 := Lib.hid hown7); (have HG7 := Lib.hid hgr7); clear hown7 hgr7))
       refine wp_loop_rounds 2 ?_
       rw [rounds_succ]
       go_wp2
       rw [rounds_succ]
       have hb7 : Bw w5 (w7.setCell ⟨w6.heap.size, k, none⟩ (.int .i64 e)) := Bw.setCell (HB6.out.trans (Bw.grown HG7.out)) hs6 _
       have how : (w7.setCell ⟨w6.heap.size, k, none⟩ (.int .i64 e)).ownsRow w.heap.size 3 1 (.slice (some ⟨w6.heap.size, 0, none⟩) m m) m (intVs (unitC m k e)) := by
         have := (HO7.out.stored k (.int .i64 e)).1
         rwa [show (List.replicate m (Value.int .i64 0)).set k (.int .i64 e) = intVs (unitC m k e) from by simp [intVs, unitC, List.map_set]] at this
       have hal9 := HAL5.out.bw hb7
       have hgi : w6.heap.size < (w7.setCell ⟨w6.heap.size, k, none⟩ (.int .i64 e)).heap.size := (how.lt _ rfl).2
       have hia9 : IAt (w7.setCell ⟨w6.heap.size, k, none⟩ (.int .i64 e)) (fun b => b = w6.heap.size) (.slice (some ⟨w6.heap.size, 0, none⟩) m m) (unitC m k e) :=
         ⟨_, m, m, rfl, unitC_length _ _ _, Nat.le_refl _, hm9, fun _ => ⟨_, rfl, rfl, fun j hj => by
           rw [unitC_length] at hj
           rw [add_zero_blk, how.cellAt j (by omega), intVs, List.getElem?_map, List.getElem?_eq_getElem (by rw [unitC_length]; exact hj)]; rfl⟩⟩
       refine wp_world (fun W => Hid (Bw w5 W) ∧ Hid (AllI w.heap.size W (w.heap.size + 1) m k r.give cs) ∧ Hid (IAt W (fun b => b = w6.heap.size) (.slice (some ⟨w6.heap.size, 0, none⟩) m m) (unitC m k e)) ∧ w6.heap.size < W.heap.size) ⟨Lib.hid hb7, Lib.hid hal9, Lib.hid hia9, hgi⟩ ?_
       clear hb7 how hal9 hia9 hgi y0 y1 c0 f0 z7 HO7 HG7
       rintro W9 ⟨HB9, HA9, HI9, hg9⟩
       have hs9 := HB9.out.size
       have ta9 : W9.cell? ⟨w.heap.size + 1, k, none⟩ = some (.slice none 0 0) := HA9.out.cell hlt
       have tl9 : w.heap.size + 1 < W9.heap.size := by omega
       go_wp2_with (at_builtin; go_must (refine wpList_append_any _ rfl _ _ 44 rfl (w.heap.size + 2) 27 i2 _ 1 24 Tryz.underlying44 hi2 hx0 hx1 hx2 rfl (by decide) (.slice none 0 0) 0 [] rfl (World.ownsRow_nil _ _ _ _) (W9.heap.size + 1) (some ⟨W9.heap.size, 0, none⟩) 1 1 [.slice (some ⟨w6.heap.size, 0, none⟩) m m] rfl (reads_blk (n := 1) (Blk.new W9 27 #[.slice (some ⟨w6.heap.size, 0, none⟩) m m]) (by omega) rfl) (by simp [Value.oneCell']) (by unfold maxLen; omega) (by omega) (by simp; omega) ?_; intro v8 w8 hown8 hgr8 hl8; obtain ⟨g8, c8, rfl, hg8, hl8', bc8, mc8⟩ := own_one hown8 (by omega); (have hb8 : Bw W9 w8 := ((Bw.refl W9).alloc _).trans (Bw.grown hgr8)); (have ha8 := HA9.out.bw hb8); (have ta8 : w8.cell? ⟨w.heap.size + 1, k, none⟩ = some (.slice none 0 0) := ha8.cell hlt); (have tf8 : w8.frozen? ⟨w.heap.size + 1, k, none⟩ = false := ha8.frozen k); (have HO8 := Lib.hid hown8); (have HA8 := Lib.hid ha8); (have HB8 := Lib.hid hb8); clear hown8 hgr8 hb8 ha8))
       rw [rounds_succ]
       go_wp2
       go_roundw
       case rel =>
         refine ⟨k + 1, by omega, by go_num, Lib.hid ⟨?_, ?_, ?_⟩⟩
         · refine HA8.out.step hlt ?_
           rw [EX.out.1]
           refine own_iiat HO8.out rfl (fun b h1 h2 => ⟨by omega, h2, by omega⟩) (fun j hj hj' => ?_)
           obtain rfl : j = 0 := by simpa using hj
           have := HI9.out
           refine this.keep (fun b hb => ?_) (fun p hp => HB8.out.b.cell (p := p) (by rw [hp]; exact hg9))
           subst hb
           have := HB8.out.size
           exact ⟨by omega, by omega, by omega⟩
         · refine Bw.setCell (((HWB.out.trans HB4.out).trans HB5.out).trans (HB9.out.trans HB8.out)) (by simp) _
         · intro j hj
           by_cases ej : j = k
           · subst ej; rw [EX.out.1, EX.out.2]; exact hem
           · exact HLE.out j (by omega)
       case measure => simp [intOf]; omega
   · obtain rfl : k = m := by omega
     have hall : ∀ j, j < cs.length → exC r.give cs j ≤ 1048576 - r.need.getD j 0 := fun j hj => HLE.out j (by have := LT.out; omega)
     have HAS : Hid (askC r.need r.give cs = some (uptoC r.need r.give cs k)) := Lib.hid (by rw [askC_all (by rw [HRU.out.nl]) (by rw [HRU.out.gl]) hall, LT.out])
     have hbx := BX.out _ HWB.out
     have b3 : wr.cell? ⟨w.heap.size, 3, none⟩ = some (.slice An nn cn) := hbx.cell 3
     have hbl := hbx.lt
     clear hbx hall
     obtain ⟨wo, hwo⟩ : ∃ wo, wo = wr := ⟨_, rfl⟩
     subst hwo
     have HI0 : Hid (IIAt (wo.alloc (.cells #[.slice An nn cn] 27)) (· < (wo.alloc (.cells #[.slice An nn cn] 27)).heap.size) (.slice (some ⟨wo.heap.size, 0, none⟩) 1 1) [r.need]) := Lib.hid ⟨_, 1, 1, [.slice An nn cn], rfl, rfl, rfl, Nat.le_refl _, by unfold maxLen; omega, fun _ => ⟨_, rfl, by simp, fun j hj => by
         obtain rfl : j = 0 := by simpa using hj
         exact (Blk.new wo 27 #[.slice An nn cn]).cell 0⟩, fun j hj hj' => by
         obtain rfl : j = 0 := by simpa using hj
         exact ((HND.out.bw HW0.out).bw ((Bw.refl _).alloc _))⟩
     have HNL : Hid (r.need.length = cs.length) := Lib.hid HRU.out.nl
     go_wp2
     go_loopw [18, 116] (fun o i wr => ∃ j : Nat, j ≤ k ∧ i = .int .i64 j ∧ ∃ A c, o = .slice A 1 c ∧ Hid (IIAt wr (· < wr.heap.size) (.slice A 1 c) [uptoC r.need r.give cs j] ∧ Bw wo wr)) (fun _ i _ => k - (intOf i).toNat)
     case atStart => exact ⟨0, by omega, rfl, _, _, rfl, Lib.hid ⟨HI0.out, (Bw.refl _).alloc _⟩⟩
     case round =>
       obtain ⟨j, hj, rfl, Ao, co, rfl, HR⟩ := hrel
       obtain ⟨hii, hw⟩ := HR.out
       have HII := Lib.hid hii
       have HW5 := Lib.hid hw
       have HAL5 := Lib.hid (HAL.out.bw hw)
       clear hii hw HR
       by_cases hlt : j < k
       · have e1 : j < cs.length := by rw [LT.out]; exact hlt
         obtain ⟨v, qv, hv⟩ := HAL5.out.way hlt (Nat.le_refl _)
         obtain ⟨Aw, nw, cw, rfl, lw, _, _⟩ := hv.form
         obtain rfl : nw = 1 := by simpa using lw.symm
         obtain ⟨adw, sA, sn, sc, rfl, hSw, qw, hlw, hiw⟩ := hv.at_ (k := 0) (by simp)
         obtain ⟨ado, tA, tn, tc, rfl, hSo, qo, hlo, hio⟩ := HII.out.at_ (k := 0) (by simp)
         rw [show adw.add 0 = adw by simp [Addr.add]] at qw
         rw [show ado.add 0 = ado by simp [Addr.add]] at qo
         have hsn : k = sn := by rw [← hlw]; simp [unitC_length, LT.out]
         have htn : k = tn := by rw [← hlo]; show k = (uptoC r.need r.give cs j).length; rw [uptoC_length HNL.out, LT.out]
         subst hsn
         subst htn
         have CCL : Hid (Calls Tryz.prog 29 #[.slice tA k tc] wr (ClonePost wr (uptoC r.need r.give cs j) k)) := Lib.hid (clone_any tA k tc _ wr hio.isAt (by rw [uptoC_length HNL.out, LT.out]) h0 (by omega))
         have HIW := Lib.hid hiw
         have HS1 : Hid (uptoC r.need r.give cs (j + 1) = addC (uptoC r.need r.give cs j) (unitC k j (exC r.give cs j))) := Lib.hid (by rw [uptoC, LT.out])
         have hal : (uptoC r.need r.give cs j).length = k := by rw [uptoC_length HNL.out, LT.out]
         have hbl : (unitC k j (exC r.give cs j)).length = k := unitC_length _ _ _
         have AB : Hid (∀ i (h1 : i < (uptoC r.need r.give cs j).length) (h2 : i < (unitC k j (exC r.give cs j)).length), (uptoC r.need r.give cs j)[i] ≤ 3000000 ∧ -1 ≤ (uptoC r.need r.give cs j)[i] ∧ (unitC k j (exC r.give cs j))[i] ≤ 3000000 ∧ -1 ≤ (unitC k j (exC r.give cs j))[i]) := Lib.hid (fun i h1 h2 => by
           have hi : i < cs.length := by rw [LT.out]; omega
           have g1 := uptoC_get (gs := r.give) HNL.out hi j
           have g2 := unitC_get (n := k) (k := j) (e := exC r.give cs j) (j := i) (by omega)
           simp only [List.getD_eq_getElem?_getD, List.getElem?_eq_getElem h1, List.getElem?_eq_getElem h2, Option.getD_some] at g1 g2
           have b1 := exC_bd (gs := r.give) HC.out (HRU.out.g0 i hi).1 hi
           have b2 := exC_bd (gs := r.give) HC.out (HRU.out.g0 j e1).1 e1
           have b3 := HRU.out.n0 i hi
           rw [List.getD_eq_getElem?_getD] at b3
           rw [g1, g2]
           constructor
           · split <;> omega
           · refine ⟨?_, ?_, ?_⟩ <;> split <;> omega)
         clear hiw hio hlw hlo hv
         generalize uptoC r.need r.give cs j = av at *
         generalize unitC k j (exC r.give cs j) = bv at *
         have HAL2 := Lib.hid (And.intro hal hbl)
         clear hal hbl
         obtain ⟨wp, hwp⟩ : ∃ wp, wp = wr := ⟨_, rfl⟩
         subst hwp
         go_wp2
         refine wp_loop_rounds 2 ?_
         rw [rounds_succ]
         go_wp2
         refine wp_loop_rounds 2 ?_
         rw [rounds_succ]
         unfold ClonePost at CCL
         go_wp2_with (go_at_call 29; go_must (refine CCL.out.mono ?_; rintro e1 w1 ⟨gc, cc, rfl, hoc, hbc⟩; (have HOC := Lib.hid hoc); (have HBC : Hid (Bw wp w1) := Lib.hid hbc); clear hoc hbc))
         go_loopw [142] (fun i wr => ∃ i' : Nat, i' ≤ k ∧ i = .int .i64 i' ∧ Hid (wr.ownsRow wp.heap.size 3 1 (.slice (some ⟨gc, 0, none⟩) k cc) k (intVs (mixA av bv i')) ∧ Bw wp wr)) (fun i _ => k - (intOf i).toNat)
         case atStart => exact ⟨0, by omega, rfl, Lib.hid ⟨by rw [mixA_zero]; exact HOC.out, HBC.out⟩⟩
         case round =>
           obtain ⟨i', hi', rfl, HR⟩ := hrel
           obtain ⟨ho8, hb8⟩ := HR.out
           by_cases hlt8 : i' < k
           · have ea : i' < av.length := by rw [HAL2.out.1]; exact hlt8
             have eb : i' < bv.length := by rw [HAL2.out.2]; exact hlt8
             obtain ⟨adb, rfl, hSb, qb⟩ := HIW.out.at_ eb
             have qb8 : wr.cell? (adb.add i') = some (.int .i64 bv[i']) := (hb8.b.cell (p := adb.add i') (by rw [add_block]; exact hSb.2.1)).trans qb
             have qa8 : wr.cell? ⟨gc, i', none⟩ = some (.int .i64 av[i']) := (ho8.cellAt i' (by omega)).trans (mixA_get (by rw [HAL2.out.1, HAL2.out.2]) ea)
             have qf8 := ho8.frozenAt i'
             have ql8 : gc < wr.heap.size := (ho8.lt _ rfl).2
             have HT8 : Hid ((intVs (mixA av bv i')).set i' (.int .i64 (av[i'] + bv[i'])) = intVs (mixA av bv (i' + 1))) := Lib.hid (mixA_set (by rw [HAL2.out.1, HAL2.out.2]) ea)
             have hbd := AB.out i' ea eb
             have HO8 := Lib.hid ho8
             have HB8 := Lib.hid hb8
             clear ho8 hb8 HR qb
             generalize av[i'] = xa at *
             generalize bv[i'] = xb at *
             go_wp2
             go_roundw
             case rel =>
               refine ⟨i' + 1, by omega, by go_num, Lib.hid ⟨?_, ?_⟩⟩
               · rw [← HT8.out]; exact (HO8.out.stored i' _).1
               · exact Bw.setCell HB8.out (show wp.heap.size ≤ gc from (HO8.out.lt gc rfl).1) _
             case measure => simp [intOf]; omega
           · obtain rfl : k = i' := by omega
             have HIA : Hid (IAt wr (fun b => b < wr.heap.size) (.slice (some ⟨gc, 0, none⟩) k cc) (addC av bv)) := Lib.hid (by
               rw [show mixA av bv k = addC av bv from by rw [← mixA_all (a := av) (b := bv) (by rw [HAL2.out.1, HAL2.out.2]), HAL2.out.1]] at ho8
               exact (own_iat ho8).keep (fun b hb => hb.2) (fun _ _ => rfl))
             have HB8 := Lib.hid hb8
             have hs8 := hb8.size
             clear ho8 hb8 HR
             go_wp2_with (at_builtin; go_must (refine wpList_append_any _ rfl _ _ 44 rfl w.heap.size 27 i2 _ 1 24 Tryz.underlying44 hi2 hx0 hx1 hx2 rfl (by decide) (.slice none 0 0) 0 [] rfl (World.ownsRow_nil _ _ _ _) (wr.heap.size + 1) (some ⟨wr.heap.size, 0, none⟩) 1 1 [.slice (some ⟨gc, 0, none⟩) k cc] rfl (reads_blk (n := 1) (Blk.new wr 27 #[.slice (some ⟨gc, 0, none⟩) k cc]) (by omega) rfl) (by simp [Value.oneCell']) (by unfold maxLen; omega) (by omega) (by simp; have := HW0.out.size; have := HW5.out.size; omega) ?_; intro v9 w9 hown9 hgr9 hl9; obtain ⟨g9, c9, rfl, hg9, hl9', bc9, mc9⟩ := own_one hown9 (by omega); (have HB9 : Hid (Bw wr w9) := Lib.hid (((Bw.refl wr).alloc _).trans (Bw.grown hgr9))); (have HO9 := Lib.hid hown9); clear hown9 hgr9 hl9))
             rw [rounds_succ]
             go_wp2
             rw [rounds_succ]
             go_wp2
             go_roundw
             case rel =>
               refine ⟨j + 1, by omega, by go_num, _, _, rfl, Lib.hid ⟨?_, (HW5.out.trans HB8.out).trans HB9.out⟩⟩
               rw [HS1.out]
               refine own_iiat HO9.out rfl (fun b _ h => h) (fun x hx hx' => ?_)
               obtain rfl : x = 0 := by simpa using hx
               exact HIA.out.keep (fun b hb => Nat.lt_of_lt_of_le hb HB9.out.size) (fun p hp => HB9.out.b.cell hp)
             case measure => simp [intOf]; omega
       · obtain rfl : j = k := by omega
         go_wp2
         go_ret2
         rw [HAS.out]
         exact ⟨_, rfl, HII.out, HW0.out.trans HW5.out⟩
end
end Go.Proofs.YthhbkabdhkdafaaGreat
