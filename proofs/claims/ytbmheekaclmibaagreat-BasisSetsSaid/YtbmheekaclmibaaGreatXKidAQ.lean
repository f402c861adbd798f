/- Part of a proof of basisSets_holds. -/
import Derived.Test.YtbmheekaclmibaaGreatXAppAQ
import Derived.Deep.RegionLaw
set_option maxRecDepth 100000
set_option maxHeartbeats 16000000
namespace Go.Proofs.YtbmheekaclmibaaGreat
open Go.RowKit
set_option linter.unusedSimpArgs false
set_option linter.unusedVariables false

structure KidsI (W w : World) (P E : TypeId) (x : Int) (A : Option Addr) (n c : Nat) (sv : Value) (l : List V) (ss : List Value) : Prop where
 b0 : Blk W w.heap.size P #[.int .i64 x, .slice A n c]
 b1 : Blk W (w.heap.size + 1) E #[.int .i64 0, .slice none 0 0]
 b2 : Blk W (w.heap.size + 1 + 1) E #[.int .i64 x, sv]
 row : VRow W E (w.heap.size + 1 + 1 + 1) (w.heap.size + 1 + 1 + 1) sv l ss
 bw : Bw w W
theorem KidsI.keep {W W' w : World} {P E : TypeId} {x : Int} {A : Option Addr} {n c : Nat} {sv : Value} {l : List V} {ss : List Value} (h : KidsI W w P E x A n c sv l ss) (g : Bw W W') : KidsI W' w P E x A n c sv l ss :=
 ⟨h.b0.below g.b h.b0.lt, h.b1.below g.b h.b1.lt, h.b2.below g.b h.b2.lt, h.row.bw g, h.bw.trans g⟩
theorem KidsI.start (w : World) (P E : TypeId) (x : Int) (A : Option Addr) (n c : Nat) : KidsI (((w.alloc (.cells #[.int .i64 x, .slice A n c] P)).alloc (.cells #[.int .i64 0, .slice none 0 0] E)).alloc (.cells #[.int .i64 x, .slice none 0 0] E)) w P E x A n c (.slice none 0 0) [] [] :=
 ⟨((Blk.new _ _ _).alloc _).alloc _, by have := (Blk.new (w.alloc (.cells #[.int .i64 x, .slice A n c] P)) E #[.int .i64 0, .slice none 0 0]).alloc (.cells #[.int .i64 x, .slice none 0 0] E); simpa only [World.size_alloc] using this,
  by have := Blk.new ((w.alloc (.cells #[.int .i64 x, .slice A n c] P)).alloc (.cells #[.int .i64 0, .slice none 0 0] E)) E #[.int .i64 x, .slice none 0 0]; simpa only [World.size_alloc] using this,
  VRow.nil _ _ _ _, (((Bw.refl _).alloc _).alloc _).alloc _⟩
theorem KidsI.push {W w w7 : World} {P E : TypeId} {x : Int} {A : Option Addr} {n c : Nat} {sv v7 : Value} {l : List V} {ss : List Value} (h : KidsI W w P E x A n c sv l ss) {y : V} {s : Value}
   (hs : KAt W (fun b => w.heap.size + 1 + 1 + 1 ≤ b ∧ b < W.heap.size ∧ sv.ownBlock ≠ some b) s y.ks) (hown : w7.ownsRow (w.heap.size + 1 + 1 + 1) E 2 v7 (l.length + 1) (vCells l ss ++ [.int .i64 y.n, s])) (hg : W.grownBy w7 sv.ownBlock) (hv : v7.ownBlock = sv.ownBlock ∨ v7.ownBlock = some W.heap.size) :
   KidsI (w7.setCell ⟨w.heap.size + 1 + 1, 1, none⟩ v7) w P E x A n c v7 (l ++ [y]) (ss ++ [s]) := by
 have hr : ∀ r, sv.ownBlock = some r → w.heap.size + 1 + 1 + 1 ≤ r := fun r e => (h.row.own.lt r e).1
 have ne : ∀ r, r < w.heap.size + 1 + 1 + 1 → some r ≠ sv.ownBlock := fun r hr' e => by have := hr r e.symm; omega
 have hrow := h.row.push hs hown hg hv
 have e1 := grownBy_setCell (p := ⟨w.heap.size + 1 + 1, 1, none⟩) (World.grownBy.refl w7 (some (w.heap.size + 1 + 1))) (.inl rfl) v7
 have hl := h.b2.lt
 refine ⟨(h.b0.grown hg (ne _ (by omega))).far (by dsimp only; omega) _, (h.b1.grown hg (ne _ (by omega))).far (by dsimp only; omega) _, (h.b2.grown hg (ne _ (by omega))).set_ 1 v7, hrow.keep e1 (fun r e => by
   injection e with e; subst e
   exact ⟨fun e => by have := (hown.lt _ e).1; omega, by omega⟩), ?_⟩
 have h1 : Below w.heap.size w w7 := below_own (h.bw.b) (own_base h.row.own (by omega)) hg h.bw.size
 exact Below.setCell h1 (by dsimp only; omega) v7
theorem KidsI.out {W w : World} {P E : TypeId} {x : Int} {A : Option Addr} {n c : Nat} {sv : Value} {l : List V} {ss : List Value} (h : KidsI W w P E x A n c sv l ss) :
   KAt ((W.setCell ⟨w.heap.size + 1, 0, none⟩ (.int .i64 x)).setCell ⟨w.heap.size + 1, 1, none⟩ sv) (fun b => w.heap.size ≤ b ∧ b < ((W.setCell ⟨w.heap.size + 1, 0, none⟩ (.int .i64 x)).setCell ⟨w.heap.size + 1, 1, none⟩ sv).heap.size) sv l ∧
   Bw w ((W.setCell ⟨w.heap.size + 1, 0, none⟩ (.int .i64 x)).setCell ⟨w.heap.size + 1, 1, none⟩ sv) :=
 ⟨(h.row.kat (Nat.le_refl _)).keep (fun b hb => ⟨by have := hb.1; omega, by have := hb.2; simp [World.setCell]; exact this⟩) (fun p hp => by
   have hp1 := hp.1
   rw [World.cell?_setCell_other _ _ _ _ (by intro e; subst e; simp at hp1; omega), World.cell?_setCell_other _ _ _ _ (by intro e; subst e; simp at hp1; omega)]),
  (h.bw.setCell (p := ⟨w.heap.size + 1, 0, none⟩) (by dsimp only; omega) _).setCell (p := ⟨w.heap.size + 1, 1, none⟩) (by dsimp only; omega) _⟩

theorem tagsOf_step (v : V) (h9 : v.size ≤ 1000000) (ih : ∀ k ∈ v.ks, ∀ (s : Value) (W : World), KB W W.heap.size s k.ks → Calls Tryz.prog 136 #[aggV k s] W (ValPost W k)) (s : Value) (w : World) (h : KB w w.heap.size s v.ks) :
   Calls Tryz.prog 136 #[.agg #[.int .i64 v.n, s]] w (ValPost w v) := by
 obtain ⟨A, n, c, rfl, ln, bn, mn⟩ := h.form
 unfold maxLen at mn
 have h10 : v.ks.length ≤ 1000000 := by have := sizeL_length v.ks; have := v.size_eq; omega
 rw [ln] at h10
 have HK := Lib.hid h
 have HIH := Lib.hid ih
 have LN := Lib.hid ln
 unfold ValPost
 have HST := Lib.hid (KidsI.start w 39 95 v.n A n c)
 clear h ih ln h9
 obtain ⟨i0, hi, hz0, hz1, hz2⟩ := info_parts infoTree
 generalize v.n = x at *
 go_enter Tryz.func136, Tryz.ntmps136
 go_wp2
 go_loopw [12] (fun i wr => ∃ k : Nat, k ≤ n ∧ i = .int .i64 k ∧ Hid (∃ sv ss, KidsI wr w 39 95 x A n c sv (v.ks.take k) ss)) (fun i _ => n - (intOf i).toNat)
 case atStart => exact ⟨0, by omega, rfl, Lib.hid ⟨_, [], HST.out⟩⟩
 case round =>
   obtain ⟨k, hk, rfl, HR⟩ := hrel
   obtain ⟨sv, ss, hI⟩ := HR.out
   have HI0 := Lib.hid hI
   obtain ⟨VA, vc, rfl, vb1, vb2⟩ := hI.row.form
   have hlk : (v.ks.take k).length = k := by rw [List.length_take, LN.out]; omega
   have w2 := hI.b2.lt
   have q2 := hI.b2.cell 0
   have q3 := hI.b2.cell 1
   have f3 := hI.b2.frozen 1
   rw [hlk] at q3 HI0 vb1
   by_cases hlt : k < n
   · have e1 : k < v.ks.length := by rw [LN.out]; exact hlt
     obtain ⟨ad, sA, sn, sc, rfl, hb, q0, q1, sl, hs⟩ := (HK.out.bw hI.bw).at_ e1
     have HT : Hid (v.ks.take (k + 1) = v.ks.take k ++ [v.ks[k]]) := Lib.hid (List.take_succ_eq_append_getElem e1)
     have CP : Hid (∀ W, Bw wr W → Calls Tryz.prog 136 #[.agg #[.int .i64 v.ks[k].n, .slice sA sn sc]] W (ValPost W v.ks[k])) := Lib.hid (fun W g => HIH.out _ (List.getElem_mem e1) _ _ (hs.bw g))

     clear hs sl hI HR hlk
     generalize hy : v.ks[k] = y at *
     clear hy
     obtain ⟨yn, hyn⟩ : ∃ yn, y.n = yn := ⟨_, rfl⟩
     unfold ValPost at CP
     rw [hyn] at CP q0
     have HYN := Lib.hid hyn
     clear hyn
     go_wp2_with fail
     refine wp_world (fun WR => Hid (Bw wr WR ∧ Blk WR wr.heap.size 39 #[.int .i64 yn, .slice sA sn sc])) (Lib.hid ⟨(Bw.refl _).alloc _, Blk.new _ _ _⟩) ?_
     intro WR HW2
     obtain ⟨hgw, k3⟩ := HW2.out
     have q4 := k3.cell 0
     have q5 := k3.cell 1
     have hl3 := k3.lt
     have HGW := Lib.hid hgw
     have q6 := (hgw.b.cell (p := ⟨w.heap.size + 1 + 1, 1, none⟩) w2).trans q3
     have f6 := (hgw.b.frozen (p := ⟨w.heap.size + 1 + 1, 1, none⟩) w2).trans f3
     have w22 : w.heap.size + 1 + 1 < WR.heap.size := Nat.lt_of_lt_of_le w2 hgw.size
     clear hgw k3 HW2 q2 q3 f3 q0 q1
     have KS : Hid (∀ W', Bw WR.drew W' → w.heap.size + 1 + 1 < W'.heap.size ∧ W'.cell? ⟨w.heap.size + 1 + 1, 1, none⟩ = some (.slice VA k vc) ∧ KidsI W' w 39 95 x (some ad) n c (.slice VA k vc) (v.ks.take k) ss) := Lib.hid (fun W' g => by
       have h2 := (HI0.out.keep HGW.out).keep ((Bw.refl _).drew.trans g)
       exact ⟨h2.b2.lt, h2.b2.cell 1, h2⟩)
     have CP2 : Hid (Calls Tryz.prog 136 #[.agg #[.int .i64 yn, .slice sA sn sc]] WR.drew _) := Lib.hid (CP.out _ (HGW.out.drew))
     clear CP
     have HLK : Hid ((v.ks.take k).length = k) := Lib.hid (by rw [List.length_take, LN.out]; omega)
     have hsz9 : WR.drew.heap.size = WR.heap.size := rfl
     go_region_law (first
       | (refine step_append_any _ rfl (.tmp 17) (.tmp 20) 93 rfl (w.heap.size + 1 + 1 + 1) 95 i0 _ 2 32 Tryz.underlying93 hi hz0 hz1 hz2 rfl (by decide) (.slice VA k vc) k (vCells (v.ks.take k) ss) (by simp [Act.eval, Act.put]) (by have := (HI6.out.row.own.alloc (.cells #[.int .i64 yn, .slice A6 n6 c6] 95)); rwa [HLK.out] at this) (w6.heap.size + 1) (some ⟨w6.heap.size, 0, none⟩) 1 1 [.int .i64 yn, .slice A6 n6 c6] (by simp [Act.eval, Act.put]) (reads_new2 w6 _ _ _) (one2 _ _ _ _) (by unfold maxLen; omega) (by omega) (by simp <;> omega) ?_; intro v7 w7 hown7 hgr7 hl7; obtain ⟨A7, c7, rfl⟩ := own_form hown7; have hne7 : some (w.heap.size + 1 + 1) ≠ (Value.slice VA k vc).ownBlock := (fun e => by have := (HI6.out.row.own.lt _ e.symm).1; omega); have k7 := (HI6.out.b2.alloc (.cells #[.int .i64 yn, .slice A6 n6 c6] 95)).grown hgr7 hne7; have y7 := k7.cell 1; have z7 := k7.frozen 1; have l7 := k7.lt; have HO7 := Lib.hid hown7; have HG7 := Lib.hid hgr7; have HL7 := Lib.hid hl7; clear hown7 hgr7 hl7 k7 hne7)
       | (go_simp; go_at_call 136; refine CP2.out.mono ?_; rintro e w6 ⟨s6, rfl, hk6, hg6⟩; obtain ⟨A6, n6, c6, rfl, ln6, _, _⟩ := hk6.form; have HK6 := Lib.hid hk6; obtain ⟨u0, u1, u2⟩ := KS.out _ hg6; have HI6 := Lib.hid u2; have HG6 := Lib.hid hg6; have hs6 := hg6.size; clear hk6 hg6 ln6 u2))
     all_goals
       go_wp2
       go_roundw
       case rel =>
         refine ⟨k + 1, by omega, by go_num, Lib.hid ⟨.slice A7 (k + 1) c7, ss ++ [.slice A6 n6 c6], ?_⟩⟩
         rw [HT.out]
         have hI6 := HI6.out
         refine (hI6.keep ((Bw.refl w6).alloc (.cells #[.int .i64 yn, .slice A6 n6 c6] 95))).push (y := y) (s := .slice A6 n6 c6) ?_ ?_ HG7.out HL7.out
         · refine KAt.keep (S := fun b => WR.heap.size ≤ b ∧ b < w6.heap.size) ?_ (fun b hb => ⟨by have := HI0.out.b2.lt; have := HGW.out.size; omega, by simp; omega, fun e => ?_⟩) (fun p hp => World.cell?_alloc_lt w6 _ p hp.2)
           · exact HK6.out.keep (fun b hb => hb) (fun _ _ => rfl)
           · have h3 := (HI0.out.row.own.lt b e).2; have := HGW.out.size; omega
         · rw [HLK.out, HYN.out]; exact HO7.out
       case measure => simp [intOf]; omega
   · obtain rfl : k = n := by omega
     have b0 := hI.b0.cell 1
     have r0 := hI.b1.cell 0
     have r1 := hI.b1.cell 1
     have g0 := hI.b1.frozen 0
     have g1 := hI.b1.frozen 1
     have HBB := Lib.hid (blk_set (i := 1) (.slice VA k vc) (blk_set (i := 0) (.int .i64 x) hI.b1))
     clear hI HR
     go_wp2
     refine bodyPost_ret (results_cell_row (p := 2) (ty := 95) rfl _ _ (w.heap.size + 1) 95 _ (0, 0) _ rfl HBB.out Tryz.underlying95 rfl (by kernel_rfl)) rfl ?_
     have := HI0.out.out
     rw [List.take_of_length_le (by rw [LN.out]; omega)] at this
     exact ⟨_, rfl, this.1, this.2⟩
theorem tagsOf_any (v : V) : v.size ≤ 1000000 → ∀ (s : Value) (w : World), KB w w.heap.size s v.ks → Calls Tryz.prog 136 #[aggV v s] w (ValPost w v) := by
 induction v using V.ind with
 | h n ks ih =>
   intro hsz s w h
   exact tagsOf_step (.mk n ks) hsz (fun k hk s W h2 => ih k hk (by have := V.size_kid (v := .mk n ks) hk; omega) s W h2) s w h

theorem mvalue_step (v : V) (h9 : v.size ≤ 1000000) (ih : ∀ k ∈ v.ks, ∀ (s : Value) (W : World), KB W W.heap.size s k.ks → Calls Tryz.prog 86 #[aggV k s] W (ValPost W k)) (s : Value) (w : World) (h : KB w w.heap.size s v.ks) :
   Calls Tryz.prog 86 #[.agg #[.int .i64 v.n, s]] w (ValPost w v) := by
 obtain ⟨A, n, c, rfl, ln, bn, mn⟩ := h.form
 unfold maxLen at mn
 have h10 : v.ks.length ≤ 1000000 := by have := sizeL_length v.ks; have := v.size_eq; omega
 rw [ln] at h10
 have HK := Lib.hid h
 have HIH := Lib.hid ih
 have LN := Lib.hid ln
 unfold ValPost
 have HST := Lib.hid (KidsI.start w 95 39 v.n A n c)
 clear h ih ln h9
 obtain ⟨i0, hi, hz0, hz1, hz2⟩ := info_parts infoVal
 generalize v.n = x at *
 go_enter Tryz.func86, Tryz.ntmps86
 go_wp2
 go_loopw [4] (fun i wr => ∃ k : Nat, k ≤ n ∧ i = .int .i64 k ∧ Hid (∃ sv ss, KidsI wr w 95 39 x A n c sv (v.ks.take k) ss)) (fun i _ => n - (intOf i).toNat)
 case atStart => exact ⟨0, by omega, rfl, Lib.hid ⟨_, [], HST.out⟩⟩
 case round =>
   obtain ⟨k, hk, rfl, HR⟩ := hrel
   obtain ⟨sv, ss, hI⟩ := HR.out
   have HI0 := Lib.hid hI
   obtain ⟨VA, vc, rfl, vb1, vb2⟩ := hI.row.form
   have hlk : (v.ks.take k).length = k := by rw [List.length_take, LN.out]; omega
   have w2 := hI.b2.lt
   have q2 := hI.b2.cell 0
   have q3 := hI.b2.cell 1
   have f3 := hI.b2.frozen 1
   rw [hlk] at q3 HI0 vb1
   by_cases hlt : k < n
   · have e1 : k < v.ks.length := by rw [LN.out]; exact hlt
     obtain ⟨ad, sA, sn, sc, rfl, hb, q0, q1, sl, hs⟩ := (HK.out.bw hI.bw).at_ e1
     have HT : Hid (v.ks.take (k + 1) = v.ks.take k ++ [v.ks[k]]) := Lib.hid (List.take_succ_eq_append_getElem e1)
     have CP : Hid (∀ W, Bw wr W → Calls Tryz.prog 86 #[.agg #[.int .i64 v.ks[k].n, .slice sA sn sc]] W (ValPost W v.ks[k])) := Lib.hid (fun W g => HIH.out _ (List.getElem_mem e1) _ _ (hs.bw g))
     have b1 := hI.b0.cell 1
     have lb0 := hI.b0.lt
     clear hs sl hI HR hlk
     generalize hy : v.ks[k] = y at *
     clear hy
     obtain ⟨yn, hyn⟩ : ∃ yn, y.n = yn := ⟨_, rfl⟩
     unfold ValPost at CP
     rw [hyn] at CP q0
     have HYN := Lib.hid hyn
     clear hyn
     go_wp2_with fail
     have HGW : Hid (Bw wr wr) := Lib.hid (Bw.refl _)
     have KS : Hid (∀ W', Bw wr.drew W' → w.heap.size + 1 + 1 < W'.heap.size ∧ W'.cell? ⟨w.heap.size + 1 + 1, 1, none⟩ = some (.slice VA k vc) ∧ KidsI W' w 95 39 x (some ad) n c (.slice VA k vc) (v.ks.take k) ss) := Lib.hid (fun W' g => by
       have h2 := (HI0.out.keep HGW.out).keep ((Bw.refl _).drew.trans g)
       exact ⟨h2.b2.lt, h2.b2.cell 1, h2⟩)
     have CP2 : Hid (Calls Tryz.prog 86 #[.agg #[.int .i64 yn, .slice sA sn sc]] wr.drew _) := Lib.hid (CP.out _ (HGW.out.drew))
     clear CP
     have HLK : Hid ((v.ks.take k).length = k) := Lib.hid (by rw [List.length_take, LN.out]; omega)
     have hsz9 : wr.drew.heap.size = wr.heap.size := rfl
     go_region_law (first
       | (refine step_append_any _ rfl (.tmp 16) (.tmp 23) 31 rfl (w.heap.size + 1 + 1 + 1) 39 i0 _ 2 32 Tryz.underlying31 hi hz0 hz1 hz2 rfl (by decide) (.slice VA k vc) k (vCells (v.ks.take k) ss) (by simp [Act.eval, Act.put]) (by have := (HI6.out.row.own.alloc (.cells #[.int .i64 yn, .slice A6 n6 c6] 39)); rwa [HLK.out] at this) (w6.heap.size + 1) (some ⟨w6.heap.size, 0, none⟩) 1 1 [.int .i64 yn, .slice A6 n6 c6] (by simp [Act.eval, Act.put]) (reads_new2 w6 _ _ _) (one2 _ _ _ _) (by unfold maxLen; omega) (by omega) (by simp <;> omega) ?_; intro v7 w7 hown7 hgr7 hl7; obtain ⟨A7, c7, rfl⟩ := own_form hown7; have hne7 : some (w.heap.size + 1 + 1) ≠ (Value.slice VA k vc).ownBlock := (fun e => by have := (HI6.out.row.own.lt _ e.symm).1; omega); have k7 := (HI6.out.b2.alloc (.cells #[.int .i64 yn, .slice A6 n6 c6] 39)).grown hgr7 hne7; have y7 := k7.cell 1; have z7 := k7.frozen 1; have l7 := k7.lt; have HO7 := Lib.hid hown7; have HG7 := Lib.hid hgr7; have HL7 := Lib.hid hl7; clear hown7 hgr7 hl7 k7 hne7)
       | (go_simp; go_at_call 86; refine CP2.out.mono ?_; rintro e w6 ⟨s6, rfl, hk6, hg6⟩; obtain ⟨A6, n6, c6, rfl, ln6, _, _⟩ := hk6.form; have HK6 := Lib.hid hk6; obtain ⟨u0, u1, u2⟩ := KS.out _ hg6; have HI6 := Lib.hid u2; have HG6 := Lib.hid hg6; have hs6 := hg6.size; clear hk6 hg6 ln6 u2))
     all_goals
       go_wp2
       go_roundw
       case rel =>
         refine ⟨k + 1, by omega, by go_num, Lib.hid ⟨.slice A7 (k + 1) c7, ss ++ [.slice A6 n6 c6], ?_⟩⟩
         rw [HT.out]
         have hI6 := HI6.out
         refine (hI6.keep ((Bw.refl w6).alloc (.cells #[.int .i64 yn, .slice A6 n6 c6] 39))).push (y := y) (s := .slice A6 n6 c6) ?_ ?_ HG7.out HL7.out
         · refine KAt.keep (S := fun b => wr.heap.size ≤ b ∧ b < w6.heap.size) ?_ (fun b hb => ⟨by have := HI0.out.b2.lt; have := HGW.out.size; omega, by simp; omega, fun e => ?_⟩) (fun p hp => World.cell?_alloc_lt w6 _ p hp.2)
           · exact HK6.out.keep (fun b hb => hb) (fun _ _ => rfl)
           · have h3 := (HI0.out.row.own.lt b e).2; have := HGW.out.size; omega
         · rw [HLK.out, HYN.out]; exact HO7.out
       case measure => simp [intOf]; omega
   · obtain rfl : k = n := by omega
     have b0 := hI.b0.cell 1
     have r0 := hI.b1.cell 0
     have r1 := hI.b1.cell 1
     have g0 := hI.b1.frozen 0
     have g1 := hI.b1.frozen 1
     have HBB := Lib.hid (blk_set (i := 1) (.slice VA k vc) (blk_set (i := 0) (.int .i64 x) hI.b1))
     clear hI HR
     go_wp2
     refine bodyPost_ret (results_cell_row (p := 2) (ty := 39) rfl _ _ (w.heap.size + 1) 39 _ (0, 0) _ rfl HBB.out Tryz.underlying39 rfl (by kernel_rfl)) rfl ?_
     have := HI0.out.out
     rw [List.take_of_length_le (by rw [LN.out]; omega)] at this
     exact ⟨_, rfl, this.1, this.2⟩
theorem mvalue_any (v : V) : v.size ≤ 1000000 → ∀ (s : Value) (w : World), KB w w.heap.size s v.ks → Calls Tryz.prog 86 #[aggV v s] w (ValPost w v) := by
 induction v using V.ind with
 | h n ks ih =>
   intro hsz s w h
   exact mvalue_step (.mk n ks) hsz (fun k hk s W h2 => ih k hk (by have := V.size_kid (v := .mk n ks) hk; omega) s W h2) s w h

theorem r6Copy_step (v : V) (h9 : v.size ≤ 1000000) (ih : ∀ k ∈ v.ks, ∀ (s : Value) (W : World), KB W W.heap.size s k.ks → Calls Tryz.prog 117 #[aggV k s] W (ValPost W k)) (s : Value) (w : World) (h : KB w w.heap.size s v.ks) :
   Calls Tryz.prog 117 #[.agg #[.int .i64 v.n, s]] w (ValPost w v) := by
 obtain ⟨A, n, c, rfl, ln, bn, mn⟩ := h.form
 unfold maxLen at mn
 have h10 : v.ks.length ≤ 1000000 := by have := sizeL_length v.ks; have := v.size_eq; omega
 rw [ln] at h10
 have HK := Lib.hid h
 have HIH := Lib.hid ih
 have LN := Lib.hid ln
 unfold ValPost
 have HST := Lib.hid (KidsI.start w 39 39 v.n A n c)
 clear h ih ln h9
 obtain ⟨i0, hi, hz0, hz1, hz2⟩ := info_parts infoVal
 generalize v.n = x at *
 go_enter Tryz.func117, Tryz.ntmps117
 go_wp2
 go_loopw [4] (fun i wr => ∃ k : Nat, k ≤ n ∧ i = .int .i64 k ∧ Hid (∃ sv ss, KidsI wr w 39 39 x A n c sv (v.ks.take k) ss)) (fun i _ => n - (intOf i).toNat)
 case atStart => exact ⟨0, by omega, rfl, Lib.hid ⟨_, [], HST.out⟩⟩
 case round =>
   obtain ⟨k, hk, rfl, HR⟩ := hrel
   obtain ⟨sv, ss, hI⟩ := HR.out
   have HI0 := Lib.hid hI
   obtain ⟨VA, vc, rfl, vb1, vb2⟩ := hI.row.form
   have hlk : (v.ks.take k).length = k := by rw [List.length_take, LN.out]; omega
   have w2 := hI.b2.lt
   have q2 := hI.b2.cell 0
   have q3 := hI.b2.cell 1
   have f3 := hI.b2.frozen 1
   rw [hlk] at q3 HI0 vb1
   by_cases hlt : k < n
   · have e1 : k < v.ks.length := by rw [LN.out]; exact hlt
     obtain ⟨ad, sA, sn, sc, rfl, hb, q0, q1, sl, hs⟩ := (HK.out.bw hI.bw).at_ e1
     have HT : Hid (v.ks.take (k + 1) = v.ks.take k ++ [v.ks[k]]) := Lib.hid (List.take_succ_eq_append_getElem e1)
     have CP : Hid (∀ W, Bw wr W → Calls Tryz.prog 117 #[.agg #[.int .i64 v.ks[k].n, .slice sA sn sc]] W (ValPost W v.ks[k])) := Lib.hid (fun W g => HIH.out _ (List.getElem_mem e1) _ _ (hs.bw g))
     have b1 := hI.b0.cell 1
     have lb0 := hI.b0.lt
     clear hs sl hI HR hlk
     generalize hy : v.ks[k] = y at *
     clear hy
     obtain ⟨yn, hyn⟩ : ∃ yn, y.n = yn := ⟨_, rfl⟩
     unfold ValPost at CP
     rw [hyn] at CP q0
     have HYN := Lib.hid hyn
     clear hyn
     go_wp2_with fail
     have HGW : Hid (Bw wr wr) := Lib.hid (Bw.refl _)
     have KS : Hid (∀ W', Bw wr.drew W' → w.heap.size + 1 + 1 < W'.heap.size ∧ W'.cell? ⟨w.heap.size + 1 + 1, 1, none⟩ = some (.slice VA k vc) ∧ KidsI W' w 39 39 x (some ad) n c (.slice VA k vc) (v.ks.take k) ss) := Lib.hid (fun W' g => by
       have h2 := (HI0.out.keep HGW.out).keep ((Bw.refl _).drew.trans g)
       exact ⟨h2.b2.lt, h2.b2.cell 1, h2⟩)
     have CP2 : Hid (Calls Tryz.prog 117 #[.agg #[.int .i64 yn, .slice sA sn sc]] wr.drew _) := Lib.hid (CP.out _ (HGW.out.drew))
     clear CP
     have HLK : Hid ((v.ks.take k).length = k) := Lib.hid (by rw [List.length_take, LN.out]; omega)
     have hsz9 : wr.drew.heap.size = wr.heap.size := rfl
     go_region_law (first
       | (refine step_append_any _ rfl (.tmp 16) (.tmp 23) 31 rfl (w.heap.size + 1 + 1 + 1) 39 i0 _ 2 32 Tryz.underlying31 hi hz0 hz1 hz2 rfl (by decide) (.slice VA k vc) k (vCells (v.ks.take k) ss) (by simp [Act.eval, Act.put]) (by have := (HI6.out.row.own.alloc (.cells #[.int .i64 yn, .slice A6 n6 c6] 39)); rwa [HLK.out] at this) (w6.heap.size + 1) (some ⟨w6.heap.size, 0, none⟩) 1 1 [.int .i64 yn, .slice A6 n6 c6] (by simp [Act.eval, Act.put]) (reads_new2 w6 _ _ _) (one2 _ _ _ _) (by unfold maxLen; omega) (by omega) (by simp <;> omega) ?_; intro v7 w7 hown7 hgr7 hl7; obtain ⟨A7, c7, rfl⟩ := own_form hown7; have hne7 : some (w.heap.size + 1 + 1) ≠ (Value.slice VA k vc).ownBlock := (fun e => by have := (HI6.out.row.own.lt _ e.symm).1; omega); have k7 := (HI6.out.b2.alloc (.cells #[.int .i64 yn, .slice A6 n6 c6] 39)).grown hgr7 hne7; have y7 := k7.cell 1; have z7 := k7.frozen 1; have l7 := k7.lt; have HO7 := Lib.hid hown7; have HG7 := Lib.hid hgr7; have HL7 := Lib.hid hl7; clear hown7 hgr7 hl7 k7 hne7)
       | (go_simp; go_at_call 117; refine CP2.out.mono ?_; rintro e w6 ⟨s6, rfl, hk6, hg6⟩; obtain ⟨A6, n6, c6, rfl, ln6, _, _⟩ := hk6.form; have HK6 := Lib.hid hk6; obtain ⟨u0, u1, u2⟩ := KS.out _ hg6; have HI6 := Lib.hid u2; have HG6 := Lib.hid hg6; have hs6 := hg6.size; clear hk6 hg6 ln6 u2))
     all_goals
       go_wp2
       go_roundw
       case rel =>
         refine ⟨k + 1, by omega, by go_num, Lib.hid ⟨.slice A7 (k + 1) c7, ss ++ [.slice A6 n6 c6], ?_⟩⟩
         rw [HT.out]
         have hI6 := HI6.out
         refine (hI6.keep ((Bw.refl w6).alloc (.cells #[.int .i64 yn, .slice A6 n6 c6] 39))).push (y := y) (s := .slice A6 n6 c6) ?_ ?_ HG7.out HL7.out
         · refine KAt.keep (S := fun b => wr.heap.size ≤ b ∧ b < w6.heap.size) ?_ (fun b hb => ⟨by have := HI0.out.b2.lt; have := HGW.out.size; omega, by simp; omega, fun e => ?_⟩) (fun p hp => World.cell?_alloc_lt w6 _ p hp.2)
           · exact HK6.out.keep (fun b hb => hb) (fun _ _ => rfl)
           · have h3 := (HI0.out.row.own.lt b e).2; have := HGW.out.size; omega
         · rw [HLK.out, HYN.out]; exact HO7.out
       case measure => simp [intOf]; omega
   · obtain rfl : k = n := by omega
     have b0 := hI.b0.cell 1
     have r0 := hI.b1.cell 0
     have r1 := hI.b1.cell 1
     have g0 := hI.b1.frozen 0
     have g1 := hI.b1.frozen 1
     have HBB := Lib.hid (blk_set (i := 1) (.slice VA k vc) (blk_set (i := 0) (.int .i64 x) hI.b1))
     clear hI HR
     go_wp2
     refine bodyPost_ret (results_cell_row (p := 2) (ty := 39) rfl _ _ (w.heap.size + 1) 39 _ (0, 0) _ rfl HBB.out Tryz.underlying39 rfl (by kernel_rfl)) rfl ?_
     have := HI0.out.out
     rw [List.take_of_length_le (by rw [LN.out]; omega)] at this
     exact ⟨_, rfl, this.1, this.2⟩
theorem r6Copy_any (v : V) : v.size ≤ 1000000 → ∀ (s : Value) (w : World), KB w w.heap.size s v.ks → Calls Tryz.prog 117 #[aggV v s] w (ValPost w v) := by
 induction v using V.ind with
 | h n ks ih =>
   intro hsz s w h
   exact r6Copy_step (.mk n ks) hsz (fun k hk s W h2 => ih k hk (by have := V.size_kid (v := .mk n ks) hk; omega) s W h2) s w h

end Go.Proofs.YtbmheekaclmibaaGreat
