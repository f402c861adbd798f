/- Part of a proof of coverSearches_holds. -/
import Derived.Test.YthhbkabdhkdafaaGreatVBoP
import Derived.Test.YthhbkabdhkdafaaGreatVBmP
import Derived.Test.YthhbkabdhkdafaaGreatVBlP
set_option linter.unusedSimpArgs false
set_option linter.unusedVariables false
set_option maxRecDepth 100000
set_option maxHeartbeats 16000000
namespace Go.Proofs.YthhbkabdhkdafaaGreat
section
open Go.RowKit
structure SeedsArg (w : World) (A : Option Addr) (n c : Nat) : Prop where
 le : n ≤ c
 c63 : c ≤ 9223372036854775807
 rd : ∃ zs : List Int, ∀ k, k < n → ∃ ad : Addr, A = some ad ∧ ad.block < w.heap.size ∧ w.cell? (ad.add k) = some (.int .u8 (zs.getD k 0)) ∧ 0 ≤ zs.getD k 0 ∧ zs.getD k 0 ≤ 255
theorem SeedsArg.up {w w' : World} {A : Option Addr} {n c : Nat} (h : SeedsArg w A n c) (hb : Below w.heap.size w w') : SeedsArg w' A n c := by
 obtain ⟨h1, h2, zs, hr⟩ := h
 refine ⟨h1, h2, zs, fun k hk => ?_⟩
 obtain ⟨ad, e, hl, hc, hz⟩ := hr k hk
 exact ⟨ad, e, Nat.lt_of_lt_of_le hl hb.size, (hb.cell (by rw [add_block]; exact hl)).trans hc, hz⟩
theorem pnew_arg (w : World) (A : Option Addr) (n c : Nat) (h : SeedsArg w A n c) : Calls Tryz.prog 7 #[.slice A n c] w (PNewPost w) := by
 obtain ⟨h1, h2, zs, hr⟩ := h
 exact pnew_any w A n c zs h1 h2 hr
def IntsV3 (B n : Nat) (v : Value) (W : World) : Prop := ∃ (xs : List Int) (A : Option Addr) (c : Nat), v = .slice A n c ∧ xs.length = n ∧ (∀ x ∈ xs, 0 ≤ x ∧ x ≤ 3) ∧ W.ownsRow B 3 1 (.slice A n c) n (intVs xs)
def CfgV3 (B n1 n2 : Nat) (v : Value) (W : World) : Prop := ∃ (r : Nat) (xs : List Int) (s : Value), v = .agg #[.int .i64 0, s] ∧ r < n1 ∧ xs.length = n2 ∧ (∀ x ∈ xs, 0 ≤ x ∧ x ≤ 3) ∧ KAt W (fun b => B ≤ b ∧ b < W.heap.size) s (cfgV (r : Int) xs).ks
def pcV (w : World) (B b n1 n2 : Nat) (A1 A2 : Option Addr) (c1 c2 : Nat) : Nat → Value → World → Prop
 | 0, v, _ => v = .pointer (some ⟨b, 0, none⟩)
 | 1, v, _ => v = .pointer (some ⟨w.heap.size, 1, none⟩)
 | 2, v, _ => v = .slice A1 n1 c1
 | 3, v, _ => v = .int .i64 (n1 : Int)
 | 4, v, _ => ∃ r : Nat, r < n1 ∧ v = .int .i64 (r : Int)
 | 5, v, _ => v = .pointer (some ⟨b, 0, none⟩)
 | 6, v, _ => v = .pointer (some ⟨w.heap.size, 2, none⟩)
 | 7, v, _ => v = .slice A2 n2 c2
 | 8, v, _ => v = .int .i64 (n2 : Int)
 | 9, v, W => IntsV3 B n2 v W
 | 10, v, W => CfgV3 B n1 n2 v W
 | _, _, _ => True
theorem pcV_st {w W W' : World} {B b n1 n2 : Nat} {A1 A2 : Option Addr} {c1 c2 : Nat} (hb : b < B) (i : Nat) (v : Value) (hi : i < 11) (h : pcV w B b n1 n2 A1 A2 c1 c2 i v W) (g : W.grownBy W' (some b)) : pcV w B b n1 n2 A1 A2 c1 c2 i v W' := by
 rcases (by omega : i = 0 ∨ i = 1 ∨ i = 2 ∨ i = 3 ∨ i = 4 ∨ i = 5 ∨ i = 6 ∨ i = 7 ∨ i = 8 ∨ i = 9 ∨ i = 10) with rfl | rfl | rfl | rfl | rfl | rfl | rfl | rfl | rfl | rfl | rfl
 · exact h
 · exact h
 · exact h
 · exact h
 · exact h
 · exact h
 · exact h
 · exact h
 · exact h
 · obtain ⟨xs, A, c, h1, h2, h3, h4⟩ := h; exact ⟨xs, A, c, h1, h2, h3, own_put h4 g hb⟩
 · obtain ⟨r, xs, s, h1, h2, h3, h4, h5⟩ := h
   exact ⟨r, xs, s, h1, h2, h3, h4, h5.keep (fun q hq => ⟨hq.1, Nat.lt_of_lt_of_le hq.2 g.size⟩) (fun p hp => World.cell?_of_block (g.block p.block hp.2 (fun e => by injection e with e; omega)))⟩
def PCfgPost (w : World) (b n1 n2 : Nat) (e : Ending) (w' : World) : Prop := ∃ (r : Nat) (xs : List Int) (s : Value), e = .returned (.agg #[.int .i64 0, s]) ∧ r < n1 ∧ xs.length = n2 ∧ (∀ x ∈ xs, 0 ≤ x ∧ x ≤ 3) ∧ KAt w' (fun g => w.heap.size ≤ g ∧ g < w'.heap.size) s (cfgV (r : Int) xs).ks ∧ DiceOk w' b ∧ w.grownBy w' (some b)
theorem pconfig_any (w : World) (b : Nat) (hd : DiceOk w b) (A1 A2 A3 A4 : Option Addr) (n1 n2 n3 n4 c1 c2 c3 c4 : Nat) (h1 : 1 ≤ n1) (h2 : n1 ≤ 1000) (h3 : n2 ≤ 1000) : Calls Tryz.prog 12 #[.pointer (some ⟨b, 0, none⟩), aggM (.slice A1 n1 c1) (.slice A2 n2 c2) (.slice A3 n3 c3) (.slice A4 n4 c4)] w (PCfgPost w b n1 n2) := by
 have hbl := hd.lt
 have PKN : Hid (∀ W n, DiceOk W b → 1 ≤ n → n ≤ 100000 → Calls Tryz.prog 10 #[.pointer (some ⟨b, 0, none⟩), .int .i64 n] W (PickPost W b n)) := Lib.hid (fun W n h1 h2 h3 => ppick_any W b h1 n h2 h3)
 have INT : Hid (∀ W (n : Nat) most, DiceOk W b → n ≤ 1000 → 0 ≤ most → most ≤ 1000 → Calls Tryz.prog 31 #[.pointer (some ⟨b, 0, none⟩), .int .i64 (n : Int), .int .i64 most] W (DIntsF W b n most)) := Lib.hid (fun W n most h1 h2 h3 h4 => pints_any W b h1 n h2 most h3 h4)
 have CF : Hid (∀ (r : Nat) cs s W, IB W W.heap.size s cs → cs.length ≤ 1000 → Calls Tryz.prog 30 #[.int .i64 (r : Int), s] W (ValPost W (cfgV (r : Int) cs))) := Lib.hid (fun r cs s W h1 h2 => qconfig_any r cs s W h1 h2)
 have HD := Lib.hid hd
 clear hd
 go_enter Tryz.func12, Tryz.ntmps12
 go_upto_region 3 with fail
 refine wp_world (fun W => Hid (Blk W w.heap.size 33 #[.int .i64 1, .slice A1 n1 c1, .slice A2 n2 c2, .slice none 0 0, .slice none 0 0, .int .i64 0, .int .i64 0, .slice A3 n3 c3, .int .i64 0, .slice A4 n4 c4] ∧ Blk W (w.heap.size + 1) 31 #[.int .i64 0, .slice none 0 0] ∧ DiceOk W b ∧ w.grownBy W (some b) ∧ w.heap.size + 2 ≤ W.heap.size)) (Lib.hid ⟨(Blk.new w _ _).alloc _, by have := Blk.new (w.alloc (.cells #[.int .i64 1, .slice A1 n1 c1, .slice A2 n2 c2, .slice none 0 0, .slice none 0 0, .int .i64 0, .int .i64 0, .slice A3 n3 c3, .int .i64 0, .slice A4 n4 c4] 33)) 31 #[.int .i64 0, .slice none 0 0]; simpa only [World.size_alloc] using this, (HD.out.al _).al _, grownBy_alloc (grownBy_alloc (World.grownBy.refl _ _) _) _, by simp⟩) ?_
 clear HD
 intro W0 HW0
 have hb0 : b < W0.heap.size := by have := HW0.out.2.2.2.2; omega
 have HM := Lib.hid HW0.out.1
 have HZ := Lib.hid HW0.out.2.1
 have hmb : w.heap.size ≠ b := by omega
 have hzb : w.heap.size + 1 ≠ b := by omega
 refine wp_region_prod mixedO 11 (by rfl) (fun i => ([9, 10, 11, 12, 13, 14, 15, 16, 17, 18, 19] : List Nat).getD i 0) (fun i j hi hj => (by decide : ∀ i, i < 11 → ∀ j, j < 11 → ([9, 10, 11, 12, 13, 14, 15, 16, 17, 18, 19] : List Nat).getD i 0 = ([9, 10, 11, 12, 13, 14, 15, 16, 17, 18, 19] : List Nat).getD j 0 → i = j) i hi j hj) (fun i hi => (by decide : ∀ i, i < 11 → ([9, 10, 11, 12, 13, 14, 15, 16, 17, 18, 19] : List Nat).getD i 0 < 47) i hi)
   (fun W => W0.grownBy W (some b) ∧ DiceOk W b) (fun W W' => W.grownBy W' (some b)) (pcV w W0.heap.size b n1 n2 A1 A2 c1 c2) ⟨grownBy_drewN (World.grownBy.refl _ _) 1, HW0.out.2.2.1.drewN 1⟩ (fun i v W W' hi h g => pcV_st hb0 i v hi h g) (by kernel_rfl) (by kernel_rfl) ?hstep ?hlast
 case hstep =>
   intro i hi a W hR hoth hdep K hK
   rcases (by omega : i = 0 ∨ i = 1 ∨ i = 2 ∨ i = 3 ∨ i = 4 ∨ i = 5 ∨ i = 6 ∨ i = 7 ∨ i = 8 ∨ i = 9 ∨ i = 10) with rfl | rfl | rfl | rfl | rfl | rfl | rfl | rfl | rfl | rfl | rfl
   · refine ⟨_, (by simp only [List.getElem?_toArray, List.getElem?_cons_succ, List.getElem?_cons_zero]; exact rfl), rfl, ?_⟩
     have e0 : a.tmps[0]?.getD undef = .pointer (some ⟨b, 0, none⟩) := (hoth 0 (by decide)).trans rfl
     go_simp
     exact hK _ W rfl hR (World.grownBy.refl _ _)
   · refine ⟨_, (by simp only [List.getElem?_toArray, List.getElem?_cons_succ, List.getElem?_cons_zero]; exact rfl), rfl, ?_⟩
     have e3 : a.tmps[3]?.getD undef = .pointer (some ⟨w.heap.size, 0, none⟩) := (hoth 3 (by decide)).trans rfl
     go_simp
     exact hK _ W rfl hR (World.grownBy.refl _ _)
   · refine ⟨_, (by simp only [List.getElem?_toArray, List.getElem?_cons_succ, List.getElem?_cons_zero]; exact rfl), rfl, ?_⟩
     have e1 : a.tmps[10]?.getD undef = .pointer (some ⟨w.heap.size, 1, none⟩) := hdep 1 (by decide) (by kernel_rfl)
     have c1 := (gb_blk HM.out hR.1 hmb).cell 1
     go_simp
     exact hK _ W rfl hR (World.grownBy.refl _ _)
   · refine ⟨_, (by simp only [List.getElem?_toArray, List.getElem?_cons_succ, List.getElem?_cons_zero]; exact rfl), rfl, ?_⟩
     have e1 : a.tmps[11]?.getD undef = .slice A1 n1 c1 := hdep 2 (by decide) (by kernel_rfl)
     go_simp
     exact hK _ W rfl hR (World.grownBy.refl _ _)
   · refine ⟨_, (by simp only [List.getElem?_toArray, List.getElem?_cons_succ, List.getElem?_cons_zero]; exact rfl), rfl, ?_⟩
     have e1 : a.tmps[9]?.getD undef = .pointer (some ⟨b, 0, none⟩) := hdep 0 (by decide) (by kernel_rfl)
     have e2 : a.tmps[12]?.getD undef = .int .i64 (n1 : Int) := hdep 3 (by decide) (by kernel_rfl)
     go_simp
     refine (PKN.out W n1 hR.2 (by omega) (by omega)).mono ?_
     rintro e w2 ⟨r, rfl, hr, hd1, hg1⟩
     exact hK _ w2 ⟨r, by omega, rfl⟩ ⟨grownBy_trans hR.1 hg1, hd1⟩ hg1
   · refine ⟨_, (by simp only [List.getElem?_toArray, List.getElem?_cons_succ, List.getElem?_cons_zero]; exact rfl), rfl, ?_⟩
     have e0 : a.tmps[0]?.getD undef = .pointer (some ⟨b, 0, none⟩) := (hoth 0 (by decide)).trans rfl
     go_simp
     exact hK _ W rfl hR (World.grownBy.refl _ _)
   · refine ⟨_, (by simp only [List.getElem?_toArray, List.getElem?_cons_succ, List.getElem?_cons_zero]; exact rfl), rfl, ?_⟩
     have e3 : a.tmps[3]?.getD undef = .pointer (some ⟨w.heap.size, 0, none⟩) := (hoth 3 (by decide)).trans rfl
     go_simp
     exact hK _ W rfl hR (World.grownBy.refl _ _)
   · refine ⟨_, (by simp only [List.getElem?_toArray, List.getElem?_cons_succ, List.getElem?_cons_zero]; exact rfl), rfl, ?_⟩
     have e1 : a.tmps[15]?.getD undef = .pointer (some ⟨w.heap.size, 2, none⟩) := hdep 6 (by decide) (by kernel_rfl)
     have c1 := (gb_blk HM.out hR.1 hmb).cell 2
     go_simp
     exact hK _ W rfl hR (World.grownBy.refl _ _)
   · refine ⟨_, (by simp only [List.getElem?_toArray, List.getElem?_cons_succ, List.getElem?_cons_zero]; exact rfl), rfl, ?_⟩
     have e1 : a.tmps[16]?.getD undef = .slice A2 n2 c2 := hdep 7 (by decide) (by kernel_rfl)
     go_simp
     exact hK _ W rfl hR (World.grownBy.refl _ _)
   · refine ⟨_, (by simp only [List.getElem?_toArray, List.getElem?_cons_succ, List.getElem?_cons_zero]; exact rfl), rfl, ?_⟩
     have e1 : a.tmps[14]?.getD undef = .pointer (some ⟨b, 0, none⟩) := hdep 5 (by decide) (by kernel_rfl)
     have e2 : a.tmps[17]?.getD undef = .int .i64 (n2 : Int) := hdep 8 (by decide) (by kernel_rfl)
     go_simp
     refine (INT.out W n2 3 hR.2 (by omega) (by omega) (by omega)).mono ?_
     rintro e w2 ⟨xs, A, c, rfl, z1, z2, z3, z4, z5⟩
     exact hK _ w2 ⟨xs, A, c, rfl, z1, z2, own_base z3 hR.1.size⟩ ⟨grownBy_trans hR.1 z5, z4⟩ z5
   · refine ⟨_, (by simp only [List.getElem?_toArray, List.getElem?_cons_succ, List.getElem?_cons_zero]; exact rfl), rfl, ?_⟩
     obtain ⟨r, hr, e1⟩ : ∃ r : Nat, r < n1 ∧ a.tmps[13]?.getD undef = .int .i64 (r : Int) := hdep 4 (by decide) (by kernel_rfl)
     obtain ⟨xs, A, c, e2, z1, z2, z3⟩ : IntsV3 W0.heap.size n2 (a.tmps[18]?.getD undef) W := hdep 9 (by decide) (by kernel_rfl)
     go_simp
     refine (CF.out r xs _ W ((own_iat2 (by rw [z1]; exact z3)).keep (fun g hg => hg.2) (fun _ _ => rfl)) (by rw [z1]; omega)).mono ?_
     rintro e w2 ⟨s3, rfl, hk3, hb3⟩
     exact hK _ w2 ⟨r, xs, s3, rfl, hr, z1, z2, hk3.keep (fun b hb => ⟨Nat.le_trans hR.1.size hb.1, hb.2⟩) (fun _ _ => rfl)⟩ ⟨gb_bw hR.1 hb3, hR.2.bw hb3⟩ (gb_bw (World.grownBy.refl _ _) hb3)
 case hlast =>
   intro a W hdf hsz hR hoth hv
   refine ⟨_, (by simp only [List.getElem?_toArray, List.getElem?_cons_succ, List.getElem?_cons_zero]; exact rfl), rfl, ?_⟩
   have HSZ := Lib.hid hsz
   have HOT := Lib.hid hoth
   obtain ⟨r, xs, s3, x19, hr, h1, h2, h3⟩ := hv 10 (by decide)
   obtain ⟨A6, n6, c6, rfl, -⟩ := h3.form
   have hz := gb_blk HZ.out hR.1 hzb
   have m0 := hz.cell 0
   have m1 := hz.cell 1
   have f0 := hz.frozen 0
   have f1 := hz.frozen 1
   have ml := hz.lt
   have x19 : a.tmps[19]?.getD undef = _ := x19
   have x4 : a.tmps[4]?.getD undef = .pointer (some ⟨w.heap.size + 1, 0, none⟩) := (hoth 4 (by decide)).trans rfl
   have hst := blk2 (v0 := .int .i64 0) (v1 := .slice A6 n6 c6) hz
   have HST := Lib.hid (And.intro hst (And.intro h3 (And.intro h1 h2)))
   clear hsz hoth hv hst
   go_simp
   clear m0 m1 f0 f1 x4
   have ha := fold_all [9, 10, 11, 12, 13, 14, 15, 16, 17, 18, 19] 11 rfl hdf HSZ.out (fun d h => (by decide : ∀ d ∈ ([9, 10, 11, 12, 13, 14, 15, 16, 17, 18, 19] : List Nat), d < 47) d h) HOT.out
   simp only [List.map_cons, List.map_nil, List.foldl_cons, List.foldl_nil, x19, put_mk, List.setIfInBounds_toArray, List.set_cons_succ, List.set_cons_zero] at ha
   generalize a.tmps[9]?.getD undef = u9 at ha
   generalize a.tmps[10]?.getD undef = u10 at ha
   generalize a.tmps[11]?.getD undef = u11 at ha
   generalize a.tmps[12]?.getD undef = u12 at ha
   generalize a.tmps[13]?.getD undef = u13 at ha
   generalize a.tmps[14]?.getD undef = u14 at ha
   generalize a.tmps[15]?.getD undef = u15 at ha
   generalize a.tmps[16]?.getD undef = u16 at ha
   generalize a.tmps[17]?.getD undef = u17 at ha
   generalize a.tmps[18]?.getD undef = u18 at ha
   clear x19 HSZ HOT hdf
   subst ha
   go_wp2_with fail
   refine bodyPost_ret (results_cell_row (p := 4) (ty := 31) rfl _ _ (w.heap.size + 1) 31 _ (0, 0) _ rfl HST.out.1.1 Tryz.underlying31 rfl (by kernel_rfl)) rfl ?_
   have hg := HST.out.1.2
   have hgz := hg.size
   have hw0 := HW0.out.2.2.2.2
   exact ⟨r, xs, _, rfl, hr, h1, h2, h3.keep (fun q hq => ⟨by omega, by omega⟩) (fun q hq => World.cell?_of_block (hg.block q.block hq.2 (fun e => by injection e with e; omega))), hR.2.grown hg (fun r e => by injection e with e; omega), gb_past (grownBy_trans HW0.out.2.2.2.1 hR.1) hg (fun r e => by injection e with e; omega)⟩
def TgPost (w : World) (b n1 n2 : Nat) (e : Ending) (w' : World) : Prop := ∃ (l : List V) (s : Value), e = .returned s ∧ l.length ≤ 2 ∧ (∀ v ∈ l, ∃ (r : Nat) (xs : List Int), v = cfgV (r : Int) xs ∧ r < n1 ∧ xs.length = n2 ∧ ∀ x ∈ xs, 0 ≤ x ∧ x ≤ 3) ∧ KAt w' (fun g => w.heap.size ≤ g ∧ g < w'.heap.size) s l ∧ DiceOk w' b ∧ w.grownBy w' (some b)
theorem ptargets_any (w : World) (b : Nat) (hd : DiceOk w b) (A1 A2 A3 A4 : Option Addr) (n1 n2 n3 n4 c1 c2 c3 c4 : Nat) (h1 : 1 ≤ n1) (h2 : n1 ≤ 1000) (h3 : n2 ≤ 1000) : Calls Tryz.prog 17 #[.pointer (some ⟨b, 0, none⟩), aggM (.slice A1 n1 c1) (.slice A2 n2 c2) (.slice A3 n3 c3) (.slice A4 n4 c4)] w (TgPost w b n1 n2) := by
 have hbl := hd.lt
 have CC : Hid (∀ W, DiceOk W b → Calls Tryz.prog 12 #[.pointer (some ⟨b, 0, none⟩), aggM (.slice A1 n1 c1) (.slice A2 n2 c2) (.slice A3 n3 c3) (.slice A4 n4 c4)] W (PCfgPost W b n1 n2)) := Lib.hid (fun W h => pconfig_any W b h _ _ _ _ _ _ _ _ _ _ _ _ h1 h2 h3)
 have PKN : Hid (∀ W n, DiceOk W b → 1 ≤ n → n ≤ 100000 → Calls Tryz.prog 10 #[.pointer (some ⟨b, 0, none⟩), .int .i64 n] W (PickPost W b n)) := Lib.hid (fun W n h1 h2 h3 => ppick_any W b h1 n h2 h3)
 obtain ⟨i0, hi0, hz00, hz01, hz02⟩ := info_parts infoVal
 have HD := Lib.hid hd
 clear hd
 unfold aggM at *
 go_enter Tryz.func17, Tryz.ntmps17
 go_upto_region 2 with (go_at_call 12; go_must (refine (CC.out _ (HD.out.al _)).mono ?_; rintro e w1 ⟨r, xs, s, rfl, z1, z2, z3, z4, z5, z6⟩; obtain ⟨SA, sn, sc, rfl, -⟩ := z4.form; (have HC1 := Lib.hid (And.intro z1 (And.intro z2 (And.intro z3 (And.intro z4 (And.intro z5 z6)))))); (have hmb1 := gb_blk (Blk.new w 33 _) z6 (by omega)); (have HM1 := Lib.hid hmb1); clear z1 z2 z3 z4 z5 z6 hmb1))
 have hz1 := HC1.out.2.2.2.2.2.size
 simp only [World.size_alloc] at hz1
 refine wp_world (fun W => Hid (VRow W 31 (w.heap.size + 1) (w.heap.size + 1) (.slice (some ⟨w1.heap.size, 0, none⟩) 1 1) [cfgV (r : Int) xs] [.slice SA sn sc] ∧ Blk W w.heap.size 33 #[.int .i64 1, .slice A1 n1 c1, .slice A2 n2 c2, .slice none 0 0, .slice none 0 0, .int .i64 0, .int .i64 0, .slice A3 n3 c3, .int .i64 0, .slice A4 n4 c4] ∧ DiceOk W b ∧ w.grownBy W (some b) ∧ w1.heap.size < W.heap.size)) (Lib.hid ⟨⟨own_base (own_new w1 31 #[.int .i64 0, .slice SA sn sc] 2 (n := 1) rfl rfl) (by omega), rfl, fun k g1 g2 => by
   obtain rfl : k = 0 := by simpa using g1
   exact HC1.out.2.2.2.1.keep (fun q hq => by simp only [World.size_alloc] at hq ⊢; exact ⟨hq.1, by omega, fun e => by injection e with e; simp at e; omega⟩) (fun p hp => World.cell?_of_block (Below.heap_alloc w1 _ p.block hp.2))⟩, HM1.out.alloc _, HC1.out.2.2.2.2.1.al _, grownBy_alloc (grownBy_trans (grownBy_alloc (World.grownBy.refl _ _) _) HC1.out.2.2.2.2.2) _, by simp⟩) ?_
 intro W1 HW1
 have HC : Hid (r < n1 ∧ xs.length = n2 ∧ ∀ x ∈ xs, 0 ≤ x ∧ x ≤ 3) := Lib.hid ⟨HC1.out.1, HC1.out.2.1, HC1.out.2.2.1⟩
 have hb1 : b < W1.heap.size := by have := HW1.out.2.2.2.2; omega
 clear HC1 HM1
 have CP := Lib.hid (PKN.out W1 2 HW1.out.2.2.1 (by omega) (by omega))
 go_wp2_with fail
 go_at_call 10
 refine CP.out.mono ?_
 rintro e w2 ⟨p, rfl, hp, hd2, hg2⟩
 have hv2 := HW1.out.1.keep hg2 (fun r e => by injection e with e; subst e; exact ⟨fun e => by injection e with e; simp at e; omega, by omega⟩)
 have hm2 := gb_blk HW1.out.2.1 hg2 (by omega)
 have HG2 : Hid (w.grownBy w2 (some b)) := Lib.hid (grownBy_trans HW1.out.2.2.2.1 hg2)
 have HD2 := Lib.hid hd2
 have hz2 := hg2.size
 have hz3 := HW1.out.2.2.2.2
 have HV2 := Lib.hid hv2
 have HM2 := Lib.hid hm2
 by_cases hp0 : p = 0
 · subst hp0
   have m0 := hm2.cell 0
   obtain ⟨ml, m0, m1, m2, m3, m4, m5, m6, m7, m8, m9⟩ := hm2.c10
   clear hv2 hm2 hd2 hg2 CP
   go_wp2_with (first
     | (go_at_call 12; go_must (refine (CC.out _ HD2.out).mono ?_; rintro e w3 ⟨r3, xs3, s3, rfl, z1, z2, z3, z4, z5, z6⟩; obtain ⟨SB, sn3, sc3, rfl, -⟩ := z4.form; (have hv3 := HV2.out.keep z6 (fun r e => by injection e with e; subst e; exact ⟨fun e => by injection e with e; simp at e; omega, by omega⟩)); (have HV3 := Lib.hid hv3); (have HC3 := Lib.hid (And.intro z1 (And.intro z2 (And.intro z3 (And.intro z4 (And.intro z5 z6)))))); (have HO3 : Hid (∀ o, (w3.alloc o).ownsRow (w.heap.size + 1) 31 2 (.slice (some ⟨w1.heap.size, 0, none⟩) 1 1) 1 (vCells [cfgV (r : Int) xs] [.slice SA sn sc])) := Lib.hid (fun o => hv3.own.alloc o)); (have hs3 := z6.size); clear z1 z2 z3 z4 z5 z6 hv3))
     | (at_builtin; go_must (refine wpList_append_any _ rfl _ _ 29 rfl (w.heap.size + 1) 31 i0 _ 2 32 Tryz.underlying29 hi0 hz00 hz01 hz02 rfl (by decide) (.slice (some ⟨w1.heap.size, 0, none⟩) 1 1) 1 (vCells [cfgV (r : Int) xs] [.slice SA sn sc]) rfl (HO3.out _) (w3.heap.size + 1) (some ⟨w3.heap.size, 0, none⟩) 1 1 [.int .i64 0, .slice SB sn3 sc3] rfl (reads_new2 w3 _ _ _) (one2 _ _ _ _) (by unfold maxLen; omega) (by omega) (by simp; omega) ?_; intro v7 w7 hown7 hgr7 hl7; obtain ⟨A7, c7, rfl⟩ := own_form hown7; (have HO7 := Lib.hid (And.intro hown7 (And.intro hgr7 hl7))); clear hown7 hgr7 hl7)))
   go_ret
   have hv4 := HV3.out.bw ((Bw.refl w3).alloc (.cells #[.int .i64 0, .slice SB sn3 sc3] 31))
   have hpu := hv4.push (x := cfgV (r3 : Int) xs3) (s := .slice SB sn3 sc3) (HC3.out.2.2.2.1.keep (fun q hq => ⟨by omega, by simp; omega, fun e => by injection e with e; simp at e; omega⟩) (fun p hp => World.cell?_of_block (Below.heap_alloc w3 _ p.block hp.2))) HO7.out.1 HO7.out.2.1 HO7.out.2.2
   refine ⟨_, _, rfl, by simp, fun v hv => ?_, (hpu.kat (Nat.le_refl _)).keep (fun q hq => ⟨by omega, hq.2⟩) (fun _ _ => rfl), ((HC3.out.2.2.2.2.1.al _).grown HO7.out.2.1 (fun r e => by injection e with e; simp at e; omega)), gb_past (grownBy_alloc (grownBy_trans HG2.out HC3.out.2.2.2.2.2) _) HO7.out.2.1 (fun r e => by injection e with e; simp at e; omega)⟩
   rcases List.mem_append.1 hv with hv | hv
   · rw [List.mem_singleton.1 hv]; exact ⟨r, xs, rfl, HC.out⟩
   · rw [List.mem_singleton.1 hv]; exact ⟨r3, xs3, rfl, HC3.out.1, HC3.out.2.1, HC3.out.2.2.1⟩
 · have hpi : ((p : Int) == 0) = false := by simpa using hp0
   have hpd : decide ((p : Int) = 0) = false := by simpa using hp0
   go_wp2_with fail
   go_ret
   exact ⟨_, _, rfl, by simp, fun v hv => (by rw [List.mem_singleton.1 hv]; exact ⟨r, xs, rfl, HC.out⟩), (HV2.out.kat (Nat.le_refl _)).keep (fun q hq => ⟨by omega, hq.2⟩) (fun _ _ => rfl), HD2.out, HG2.out⟩
theorem qin_any (f : List V) (x : V) (fv s : Value) (w : World) (h : KB w w.heap.size fv f) (hx : KB w w.heap.size s x.ks) (h9 : f.length ≤ 1000) : Calls Tryz.prog 21 #[fv, .agg #[.int .i64 x.n, s]] w (BoolPost w (decide (x ∈ f))) := by
 obtain ⟨A, n, c, rfl, ln, bn, mn⟩ := h.form
 obtain ⟨A5, n5, c5, rfl, _, _, _⟩ := hx.form
 have BX := Lib.hid (box1 w 31 #[.int .i64 x.n, .slice A5 n5 c5])
 have HF := Lib.hid (And.intro h hx)
 clear h hx
 go_enter Tryz.func21, Tryz.ntmps21
 go_wp2_with fail
 go_loopw [5] (fun i wr => ∃ k : Nat, k ≤ n ∧ i = .int .i64 k ∧ Hid (Bw (w.alloc (.cells #[.int .i64 x.n, .slice A5 n5 c5] 31)) wr ∧ ∀ j, ∀ (h : j < f.length), j < k → f[j] ≠ x)) (fun i _ => n - (intOf i).toNat)
 case atStart => exact ⟨0, by omega, rfl, Lib.hid ⟨Bw.refl _, fun j _ h => by omega⟩⟩
 case round =>
   obtain ⟨wo, hwo⟩ : ∃ wo, wo = wr := ⟨_, rfl⟩
   subst hwo
   obtain ⟨k, hk, rfl, HR⟩ := hrel
   by_cases hlt : k < n
   · have hlt' : (k : Int) < (n : Int) := by omega
     have hlf : k < f.length := by omega
     obtain ⟨ad, xA, xn, xc, rfl, hba, q0, q1, -, hkk⟩ := HF.out.1.at_ hlf
     have QF : Hid (∀ P : BwOf wo, P.val.cell? (ad.add (k * 2)) = some (.int .i64 f[k].n) ∧ P.val.cell? ⟨(ad.add (k * 2)).block, (ad.add (k * 2)).off + 1, none⟩ = some (.slice xA xn xc) ∧ P.val.cell? ⟨w.heap.size, 0, none⟩ = some (.int .i64 x.n) ∧ P.val.cell? ⟨w.heap.size, 1, none⟩ = some (.slice A5 n5 c5) ∧ w.heap.size < P.val.heap.size ∧
         Calls Tryz.prog 47 #[.agg #[.int .i64 f[k].n, .slice xA xn xc], .agg #[.int .i64 x.n, .slice A5 n5 c5]] P.val (fun e w' => e = .returned (.bool (decide (f[k] = x))) ∧ Bw P.val w')) := Lib.hid (fun P => by
       obtain ⟨hw, hb⟩ := BX.out.2 _ (HR.out.1.trans P.bw)
       exact ⟨(hw.b.cell (p := ad.add (k * 2)) (by rw [add_block]; exact hba)).trans q0, (hw.b.cell (p := ⟨(ad.add (k * 2)).block, (ad.add (k * 2)).off + 1, none⟩) (by dsimp only; rw [add_block]; exact hba)).trans q1, hb.cell 0, hb.cell 1, hb.lt, r6same_any f[k] x _ _ P.val (hkk.bw hw) (HF.out.2.bw hw)⟩)
     have D0 := fun P => (QF.out P).1
     have D1 := fun P => (QF.out P).2.1
     have D2 := fun P => (QF.out P).2.2.1
     have D3 := fun P => (QF.out P).2.2.2.1
     have D4 := fun P => (QF.out P).2.2.2.2.1
     have D5 := Lib.hid (fun P => (QF.out P).2.2.2.2.2)
     clear QF hkk q0 q1 hba
     have HKF : Hid (f[k] = x → x ∈ f) := Lib.hid (fun e => by rw [← e]; exact List.getElem_mem hlf)
     have HNX : Hid (f[k] ≠ x → ∀ j, ∀ (h : j < f.length), j < k + 1 → f[j] ≠ x) := Lib.hid (fun e j h hj => by
       by_cases hjk : j = k
       · subst hjk; exact e
       · exact HR.out.2 j h (by omega))
     obtain ⟨sm, hsm⟩ : ∃ sm, decide (f[k] = x) = sm := ⟨_, rfl⟩
     rw [hsm] at D5
     have HSM := Lib.hid hsm
     clear hsm
     generalize f[k].n = fk at *
     go_wp2_with fail
     refine wp_region_quiet_bw mixedO (by kernel_rfl) ?_
     repeat (go_big_quiet_step ((first | (go_at_call 47; with_reducible exact calls_bw _ (D5.out _)))))
     refine wpQuiet_nil ?_
     intro W3 hw'
     have HG3 : Hid (Bw wo W3) := Lib.hid (by obtain ⟨p, e⟩ := hw'; rw [e]; exact p.bw)
     clear hw' D0 D1 D2 D3 D4 D5
     rcases sm with _ | _
     · go_wp2_with fail
       go_roundw
       case rel => exact ⟨k + 1, by omega, by go_num, Lib.hid ⟨HR.out.1.trans HG3.out, HNX.out (of_decide_eq_false HSM.out)⟩⟩
       case measure => simp [intOf]; omega
     · go_wp2_with fail
       go_ret
       exact ⟨by rw [decide_eq_true (HKF.out (of_decide_eq_true HSM.out))]; rfl, (BX.out.2 _ (HR.out.1.trans HG3.out)).1⟩
   · obtain rfl : k = n := by omega
     go_wp2_with fail
     go_ret
     exact ⟨by rw [decide_eq_false (fun hm => by
       obtain ⟨j, hj, e⟩ := List.getElem_of_mem hm
       exact HR.out.2 j hj (by omega) e)]; rfl, (BX.out.2 _ HR.out.1).1⟩
theorem addSays (m : Mdl) (hm : MdlOk m) : AddSays m := fun s hs v x hv hx r B kb sv pv rv kv tp bv ov fv s1 s2 w hfm hI hT h1 h2 => bkadd_any m hm s hs v x hv hx r B kb sv pv rv kv tp bv ov fv s1 s2 w hfm hI hT h1 h2
end
end Go.Proofs.YthhbkabdhkdafaaGreat
