/- Part of a proof of coverSearches_holds. -/
import Derived.Test.YthhbkabdhkdafaaGreatVBeP
import Derived.Test.YthhbkabdhkdafaaGreatVBfP
set_option linter.unusedSimpArgs false
set_option linter.unusedVariables false
set_option maxRecDepth 100000
set_option maxHeartbeats 16000000
namespace Go.Proofs.YthhbkabdhkdafaaGreat
section
open Go.RowKit
theorem gb_past {a b c : World} {r row : Option Nat} (h : a.grownBy b r) (k : b.grownBy c row) (hr : ∀ g, row = some g → a.heap.size ≤ g) : a.grownBy c r :=
 ⟨k.os.trans h.os, k.tape.trans h.tape, k.output.trans h.output, Nat.le_trans h.size k.size, fun i hi hn => (k.block i (Nat.lt_of_lt_of_le hi h.size) (fun e => by have := hr i e.symm; omega)).trans (h.block i hi hn)⟩
theorem gb_blk {A W : World} {b g : Nat} {t : TypeId} {cs : Array Value} (h : Blk A g t cs) (hg : A.grownBy W (some b)) (hne : g ≠ b) : Blk W g t cs := h.grown hg (fun e => by injection e with e; exact hne e)
theorem gb_bw {a b c : World} {r : Option Nat} (h : a.grownBy b r) (k : Bw b c) : a.grownBy c r := gb_past h (grownBy_of_below k.b none) (fun g e => by cases e)
theorem DiceOk.bw {w w' : World} {b : Nat} (h : DiceOk w b) (g : Bw w w') : DiceOk w' b := h.below g.b h.lt
def DIntsF (w : World) (b n : Nat) (most : Int) (e : Ending) (w' : World) : Prop := ∃ (xs : List Int) (A : Option Addr) (c : Nat), e = .returned (.slice A n c) ∧ xs.length = n ∧ (∀ x ∈ xs, 0 ≤ x ∧ x ≤ most) ∧ w'.ownsRow w.heap.size 3 1 (.slice A n c) n (intVs xs) ∧ DiceOk w' b ∧ w.grownBy w' (some b)
theorem intVs_snoc (xs : List Int) (x : Int) : intVs (xs ++ [x]) = intVs xs ++ [.int .i64 x] := by simp [intVs]
theorem pints_any (w : World) (b : Nat) (hd : DiceOk w b) (n : Nat) (hn : n ≤ 1000) (most : Int) (h0 : 0 ≤ most) (h9 : most ≤ 1000) : Calls Tryz.prog 31 #[.pointer (some ⟨b, 0, none⟩), .int .i64 (n : Int), .int .i64 most] w (DIntsF w b n most) := by
 have hbl := hd.lt
 have PK : Hid (∀ W, DiceOk W b → Calls Tryz.prog 10 #[.pointer (some ⟨b, 0, none⟩), .int .i64 (most + 1)] W (PickPost W b (most + 1))) := Lib.hid (fun W h => ppick_any W b h (most + 1) (by omega) (by omega))
 obtain ⟨i0, hi, hz0, hz1, hz2⟩ := info_parts infoInt
 have HD := Lib.hid hd
 clear hd
 go_enter Tryz.func31, Tryz.ntmps31
 go_wp2
 go_loopw [7, 8] (fun s i wr => ∃ (k : Nat) (A : Option Addr) (c : Nat), k ≤ n ∧ i = .int .i64 k ∧ s = .slice A k c ∧ Hid (∃ xs : List Int, xs.length = k ∧ (∀ x ∈ xs, 0 ≤ x ∧ x ≤ most) ∧ wr.ownsRow w.heap.size 3 1 (.slice A k c) k (intVs xs) ∧ DiceOk wr b ∧ w.grownBy wr (some b))) (fun _ i _ => n - (intOf i).toNat)
 case atStart => exact ⟨0, none, 0, by omega, rfl, rfl, Lib.hid ⟨[], rfl, by simp, World.ownsRow_nil _ _ _ _, HD.out, World.grownBy.refl _ _⟩⟩
 case round =>
   clear HD
   obtain ⟨wo, hwo⟩ : ∃ wo, wo = wr := ⟨_, rfl⟩
   subst hwo
   obtain ⟨k, A, c, hk, rfl, rfl, HR⟩ := hrel
   obtain ⟨xs, hxl, hxb, ho, hdi, hg⟩ := HR.out
   by_cases hlt : k < n
   · have CP := Lib.hid (PK.out wo hdi)
     have HX := Lib.hid (And.intro hxl (And.intro hxb (And.intro ho hg)))
     have hsz := hg.size
     clear hxl hxb ho hdi hg HR
     go_wp2_with (first
       | (go_at_call 10; go_must (refine CP.out.mono ?_; rintro e w1 ⟨r, rfl, hr, hd1, hg1⟩; (have HD1 := Lib.hid hd1); (have HG1 := Lib.hid hg1); (have z1 : wo.heap.size ≤ w1.heap.size := hg1.size); (have HO1 := Lib.hid (own_put HX.out.2.2.1 hg1 hbl)); clear hd1 hg1))
       | (at_builtin; go_must (refine wpList_append_any _ rfl _ _ 27 rfl w.heap.size 3 i0 _ 1 8 Tryz.underlying27 hi hz0 hz1 hz2 rfl (by decide) (.slice A k c) k (intVs xs) rfl (HO1.out.alloc _) (w1.heap.size + 1) (some ⟨w1.heap.size, 0, none⟩) 1 1 [.int .i64 (r : Int)] rfl (reads_new1 w1 r) (by simp [Value.oneCell']) (by unfold maxLen; omega) (by omega) (by simp; omega) ?_; intro v7 w7 hown7 hgr7 hl7; obtain ⟨A7, c7, rfl⟩ := own_form hown7; (have HO7 := Lib.hid hown7); (have HG7 := Lib.hid hgr7); clear hown7 hgr7 hl7)))
     go_roundw
     case rel =>
       obtain ⟨x1, x2, x3, x4⟩ := HX.out
       have hrow : ∀ r, (Value.slice A k c).ownBlock = some r → w.heap.size ≤ r := fun r e => (HO1.out.lt r e).1
       refine ⟨k + 1, A7, c7, by omega, by go_num, rfl, Lib.hid ⟨xs ++ [(r : Int)], by simp [x1], fun x hx => ?_, ?_, ?_, ?_⟩⟩
       · rcases List.mem_append.1 hx with hx | hx
         · exact x2 x hx
         · rw [List.mem_singleton.1 hx]; omega
       · rw [intVs_snoc]; exact HO7.out
       · exact (HD1.out.bw ((Bw.refl _).alloc _)).grown HG7.out (fun r e => by have := hrow r e; omega)
       · exact gb_past (grownBy_alloc (grownBy_trans x4 HG1.out) _) HG7.out hrow
     case measure => simp [intOf]; omega
   · obtain rfl : k = n := by omega
     have HX := Lib.hid HR.out
     clear hxl hxb ho hdi hg HR
     go_wp2
     go_ret
     obtain ⟨xs, x1, x2, x3, x4, x5⟩ := HX.out
     exact ⟨xs, A, c, rfl, x1, x2, x3, x4, x5⟩
def VsB (B : Nat) (w : World) (l : List V) (er : Int) (e : Ending) (w' : World) : Prop := ∃ s', e = .returned (.tuple #[s', .int .i64 er]) ∧ KAt w' (fun b => B ≤ b ∧ b < w'.heap.size) s' l ∧ Bw w w'
theorem kat_one {W : World} {g : Nat} {T : TypeId} {v : V} {s : Value} {S : Nat → Prop} (h : Blk W g T #[.int .i64 v.n, s]) (hS : S g) (hk : KAt W S s v.ks) : KAt W S (.slice (some ⟨g, 0, none⟩) 1 1) [v] :=
 .mk _ 1 1 [v] [s] rfl rfl (Nat.le_refl _) (by unfold maxLen; omega) (fun _ => ⟨⟨g, 0, none⟩, rfl, hS, fun k h1 h2 => by
   obtain rfl : k = 0 := by simpa using h1
   exact ⟨h.cell 0, h.cell 1⟩⟩) (fun k h1 h2 => by
   obtain rfl : k = 0 := by simpa using h1
   exact hk)
theorem single_ok (x : V) (A : Option Addr) (n c B : Nat) (w : World) (hB : B ≤ w.heap.size) (hk : KAt w (fun b => B ≤ b ∧ b < w.heap.size) (.slice A n c) x.ks) : Calls Tryz.prog 259 #[.agg #[.int .i64 x.n, .slice A n c], .int .i64 0] w (VsB B w [x] 0) := by
 have HK := Lib.hid hk
 clear hk
 obtain ⟨xn, hxn⟩ : ∃ xn, x.n = xn := ⟨_, rfl⟩
 rw [hxn]
 have HX := Lib.hid hxn
 clear hxn
 go_enter Tryz.func259, Tryz.ntmps259
 go_wp2
 go_ret2
 refine ⟨_, rfl, ?_, ((Bw.refl _).alloc _).alloc _⟩
 have hb := Blk.new (w.alloc (.cells #[.int .i64 xn, .slice A n c] 31)) 31 #[.int .i64 xn, .slice A n c]
 rw [World.size_alloc] at hb
 rw [← HX.out] at hb ⊢
 refine kat_one hb ⟨by omega, by simp⟩ (HK.out.keep (fun b hb => ⟨hb.1, by simp; omega⟩) (fun p hp => ?_))
 exact (((Bw.refl w).alloc _).alloc _).b.cell hp.2
theorem single_no (x : Int) (A : Option Addr) (n c B : Nat) (w : World) : Calls Tryz.prog 259 #[.agg #[.int .i64 x, .slice A n c], .int .i64 18] w (VsB B w [] 0) := by
 go_enter Tryz.func259, Tryz.ntmps259
 go_wp2
 go_ret2
 exact ⟨_, rfl, KAt.nil _ _ (Nat.zero_le _), (Bw.refl _).alloc _⟩
theorem single_er (x : Int) (A : Option Addr) (n c B : Nat) (w : World) : Calls Tryz.prog 259 #[.agg #[.int .i64 x, .slice A n c], .int .i64 1] w (VsB B w [] 1) := by
 go_enter Tryz.func259, Tryz.ntmps259
 go_wp2
 go_ret2
 exact ⟨_, rfl, KAt.nil _ _ (Nat.zero_le _), (Bw.refl _).alloc _⟩
def behindP (r : Rul) (s : Int) (cs : List Int) : List V × Int := if canB r s cs then (if (fireC cs r.need r.give).any (fun x => decide (1048576 < x)) then ([], 1) else ([cfgV r.tz (fireC cs r.need r.give)], 0)) else ([], 0)
theorem single_of (r : Rul) (s : Int) (cs : List Int) (A : Option Addr) (n c B : Nat) (w : World) (hB : B ≤ w.heap.size) (hk : KAt w (fun b => B ≤ b ∧ b < w.heap.size) (.slice A n c) (applyP r s cs).1.ks) :
   Calls Tryz.prog 259 #[.agg #[.int .i64 (applyP r s cs).1.n, .slice A n c], .int .i64 (applyP r s cs).2] w (VsB B w (behindP r s cs).1 (behindP r s cs).2) := by
 unfold applyP behindP at *
 by_cases h1 : canB r s cs = true
 · rw [if_pos h1] at hk
   rw [if_pos h1, if_pos h1]
   by_cases h2 : (fireC cs r.need r.give).any (fun x => decide (1048576 < x)) = true
   · rw [if_pos h2, if_pos h2]
     exact single_er _ _ _ _ _ _
   · rw [if_neg h2] at hk
     rw [if_neg h2, if_neg h2]
     exact single_ok _ _ _ _ _ _ hB hk
 · rw [if_neg h1, if_neg h1]
   exact single_no _ _ _ _ _ _
theorem behind_any (m : Mdl) (hm : MdlOk m) (hn : NmOk m) (s : Int) (cs : List Int) (hv : oneP 8 m.t (cfgV s cs) = true) (i : Nat) (hi : i < m.rs.length) (sv pv rv kv s1 : Value) (w : World) (h : MB w w.heap.size sv pv rv kv m) (h1 : KB w w.heap.size s1 (cfgV s cs).ks) :
   Calls Tryz.prog 193 #[aggM sv pv rv kv, .int .i64 (i : Int), .agg #[.int .i64 0, s1]] w (VsB w.heap.size w (behindP m.rs[i] s cs).1 (behindP m.rs[i] s cs).2) := by
 obtain ⟨A1, c1, A2, c2, A3, c3, A4, c4, rfl, rfl, rfl, rfl⟩ := h.form
 obtain ⟨A5, n5, c5, rfl, _, _, _⟩ := h1.form
 have CA : Hid (∀ W, Bw w W → Calls Tryz.prog 260 #[aggM (.slice A1 m.ss.length c1) (.slice A2 m.ps.length c2) (.slice A3 m.rs.length c3) (.slice A4 (1 + m.cs.length) c4), .int .i64 (i : Int), .agg #[.int .i64 0, .slice A5 n5 c5]] W (VEPost W (applyP m.rs[i] s cs).1 (applyP m.rs[i] s cs).2)) := Lib.hid (fun W g => capply_any m hm hn s cs hv i hi _ _ _ _ _ W (h.bw g) (h1.bw g))
 have CS : Hid (∀ (A : Option Addr) (n c B : Nat) W, B ≤ W.heap.size → KAt W (fun b => B ≤ b ∧ b < W.heap.size) (.slice A n c) (applyP m.rs[i] s cs).1.ks → Calls Tryz.prog 259 #[.agg #[.int .i64 (applyP m.rs[i] s cs).1.n, .slice A n c], .int .i64 (applyP m.rs[i] s cs).2] W (VsB B W (behindP m.rs[i] s cs).1 (behindP m.rs[i] s cs).2)) := Lib.hid (fun A n c B W hB hk => single_of _ _ _ _ _ _ _ _ hB hk)
 have hiz : (i : Int) < (m.rs.length : Int) := by omega
 have e1 : ((i : Int) == -1) = false := by simp
 generalize applyP m.rs[i] s cs = ap at *
 generalize behindP m.rs[i] s cs = bp at *
 clear h h1 hm hn hv hi
 unfold aggM VEPost at *
 unfold VsB at *
 obtain ⟨⟨an, ak⟩, ae⟩ := ap
 obtain ⟨bl, be⟩ := bp
 dsimp only [V.n_mk, V.ks_mk] at *
 generalize m.ss.length = n at *
 generalize m.ps.length = k at *
 generalize m.rs.length = q at *
 generalize 1 + m.cs.length = z at *
 have BX : Hid (Bw w ((w.alloc (.cells #[.int .i64 1, .slice A1 n c1, .slice A2 k c2, .slice none 0 0, .slice none 0 0, .int .i64 0, .int .i64 0, .slice A3 q c3, .int .i64 0, .slice A4 z c4] 33)).alloc (.cells #[.int .i64 0, .slice A5 n5 c5] 31)) ∧ ∀ W, Bw ((w.alloc (.cells #[.int .i64 1, .slice A1 n c1, .slice A2 k c2, .slice none 0 0, .slice none 0 0, .int .i64 0, .int .i64 0, .slice A3 q c3, .int .i64 0, .slice A4 z c4] 33)).alloc (.cells #[.int .i64 0, .slice A5 n5 c5] 31)) W → Bw w W ∧ w.heap.size < W.heap.size ∧ w.heap.size + 1 < W.heap.size ∧ W.cell? ⟨w.heap.size, 0, none⟩ = some (.int .i64 1) ∧ W.cell? ⟨w.heap.size, 1, none⟩ = some (.slice A1 n c1) ∧ W.cell? ⟨w.heap.size, 2, none⟩ = some (.slice A2 k c2) ∧ W.cell? ⟨w.heap.size, 3, none⟩ = some (.slice none 0 0) ∧ W.cell? ⟨w.heap.size, 4, none⟩ = some (.slice none 0 0) ∧ W.cell? ⟨w.heap.size, 5, none⟩ = some (.int .i64 0) ∧ W.cell? ⟨w.heap.size, 6, none⟩ = some (.int .i64 0) ∧ W.cell? ⟨w.heap.size, 7, none⟩ = some (.slice A3 q c3) ∧ W.cell? ⟨w.heap.size, 8, none⟩ = some (.int .i64 0) ∧ W.cell? ⟨w.heap.size, 9, none⟩ = some (.slice A4 z c4) ∧ W.cell? ⟨w.heap.size + 1, 0, none⟩ = some (.int .i64 0) ∧ W.cell? ⟨w.heap.size + 1, 1, none⟩ = some (.slice A5 n5 c5)) := Lib.hid ⟨(((Bw.refl _).alloc _).alloc _), fun W g => by
   have h0 := (Blk.new w 33 #[.int .i64 1, .slice A1 n c1, .slice A2 k c2, .slice none 0 0, .slice none 0 0, .int .i64 0, .int .i64 0, .slice A3 q c3, .int .i64 0, .slice A4 z c4])
   have k0 := (h0.alloc (.cells #[.int .i64 0, .slice A5 n5 c5] 31)).below g.b (h0.alloc (.cells #[.int .i64 0, .slice A5 n5 c5] 31)).lt
   have h1 := (Blk.new (w.alloc (.cells #[.int .i64 1, .slice A1 n c1, .slice A2 k c2, .slice none 0 0, .slice none 0 0, .int .i64 0, .int .i64 0, .slice A3 q c3, .int .i64 0, .slice A4 z c4] 33)) 31 #[.int .i64 0, .slice A5 n5 c5])
   simp only [World.size_alloc] at h1
   have k1 := h1.below g.b h1.lt
   exact ⟨(((Bw.refl _).alloc _).alloc _).trans g, k0.lt, k1.lt, k0.cell 0, k0.cell 1, k0.cell 2, k0.cell 3, k0.cell 4, k0.cell 5, k0.cell 6, k0.cell 7, k0.cell 8, k0.cell 9, k1.cell 0, k1.cell 1⟩⟩
 go_enter Tryz.func193, Tryz.ntmps193
 go_wp2_with (first
   | (go_at_call 260; go_must (refine (CA.out _ BX.out.1).mono ?_; rintro e w1 ⟨s6, rfl, hk6, hg⟩; obtain ⟨A6, n6, c6, rfl, _, _, _⟩ := hk6.form; (have HK6 := Lib.hid hk6); (have HG1 := Lib.hid hg); clear hg hk6))
   | (go_at_call 259; go_must (refine (CS.out _ _ _ _ _ (HG1.out).size HK6.out).mono ?_; rintro e w2 ⟨s7, rfl, hk7, hg⟩; (have HK7 := Lib.hid hk7); (have HG2 := Lib.hid (HG1.out.trans hg)); clear hg hk7)))
 go_ret2
 exact ⟨_, rfl, HK7.out.keep (fun b hb => ⟨by have := hb.1; simp at this; omega, hb.2⟩) (fun _ _ => rfl), BX.out.1.trans HG2.out⟩
theorem sapply_any (m : Mdl) (hm : MdlOk m) (hn : NmOk m) (s : Int) (cs : List Int) (hv : oneP 8 m.t (cfgV s cs) = true) (i : Nat) (hi : i < m.rs.length) (sv pv rv kv s1 : Value) (w : World) (h : MB w w.heap.size sv pv rv kv m) (h1 : KB w w.heap.size s1 (cfgV s cs).ks) :
   Calls Tryz.prog 125 #[aggM sv pv rv kv, .int .i64 (i : Int), .agg #[.int .i64 0, s1]] w (VsB w.heap.size w (behindP m.rs[i] s cs).1 (behindP m.rs[i] s cs).2) := by
 obtain ⟨A1, c1, A2, c2, A3, c3, A4, c4, rfl, rfl, rfl, rfl⟩ := h.form
 obtain ⟨A5, n5, c5, rfl, _, _, _⟩ := h1.form
 have CK : Hid (∀ W, Bw w W → Calls Tryz.prog 192 #[aggM (.slice A1 m.ss.length c1) (.slice A2 m.ps.length c2) (.slice A3 m.rs.length c3) (.slice A4 (1 + m.cs.length) c4)] W (NumPost W 0)) := Lib.hid (fun W g => stepp_any m hm hn _ _ _ _ W (h.bw g))
 have CV : Hid (∀ W, Bw w W → Calls Tryz.prog 27 #[aggM (.slice A1 m.ss.length c1) (.slice A2 m.ps.length c2) (.slice A3 m.rs.length c3) (.slice A4 (1 + m.cs.length) c4), .agg #[.int .i64 0, .slice A5 n5 c5]] W (BoolPost W true)) := Lib.hid (fun W g => by have := mdValid_any m hm hn (cfgV s cs) _ _ _ _ _ W (h.bw g) (h1.bw g); rwa [validM hm hv] at this)
 have CB : Hid (∀ W, Bw w W → Calls Tryz.prog 193 #[aggM (.slice A1 m.ss.length c1) (.slice A2 m.ps.length c2) (.slice A3 m.rs.length c3) (.slice A4 (1 + m.cs.length) c4), .int .i64 (i : Int), .agg #[.int .i64 0, .slice A5 n5 c5]] W (VsB W.heap.size W (behindP m.rs[i] s cs).1 (behindP m.rs[i] s cs).2)) := Lib.hid (fun W g => behind_any m hm hn s cs hv i hi _ _ _ _ _ W (h.bw g) (h1.bw g))
 have hiz : (i : Int) < (m.rs.length : Int) := by omega
 have e1 : decide ((i : Int) < -1) = false := by (simp <;> omega)
 have e2 : decide ((m.rs.length : Int) ≤ (i : Int)) = false := by simp; omega
 generalize behindP m.rs[i] s cs = bp at *
 clear h h1 hm hn hv hi
 unfold aggM at *
 unfold VsB at *
 generalize m.ss.length = n at *
 generalize m.ps.length = k at *
 generalize m.rs.length = q at *
 generalize 1 + m.cs.length = z at *
 have BX : Hid (Bw w ((w.alloc (.cells #[.int .i64 1, .slice A1 n c1, .slice A2 k c2, .slice none 0 0, .slice none 0 0, .int .i64 0, .int .i64 0, .slice A3 q c3, .int .i64 0, .slice A4 z c4] 33)).alloc (.cells #[.int .i64 0, .slice A5 n5 c5] 31)) ∧ ∀ W, Bw ((w.alloc (.cells #[.int .i64 1, .slice A1 n c1, .slice A2 k c2, .slice none 0 0, .slice none 0 0, .int .i64 0, .int .i64 0, .slice A3 q c3, .int .i64 0, .slice A4 z c4] 33)).alloc (.cells #[.int .i64 0, .slice A5 n5 c5] 31)) W → Bw w W ∧ w.heap.size < W.heap.size ∧ w.heap.size + 1 < W.heap.size ∧ W.cell? ⟨w.heap.size, 0, none⟩ = some (.int .i64 1) ∧ W.cell? ⟨w.heap.size, 1, none⟩ = some (.slice A1 n c1) ∧ W.cell? ⟨w.heap.size, 2, none⟩ = some (.slice A2 k c2) ∧ W.cell? ⟨w.heap.size, 3, none⟩ = some (.slice none 0 0) ∧ W.cell? ⟨w.heap.size, 4, none⟩ = some (.slice none 0 0) ∧ W.cell? ⟨w.heap.size, 5, none⟩ = some (.int .i64 0) ∧ W.cell? ⟨w.heap.size, 6, none⟩ = some (.int .i64 0) ∧ W.cell? ⟨w.heap.size, 7, none⟩ = some (.slice A3 q c3) ∧ W.cell? ⟨w.heap.size, 8, none⟩ = some (.int .i64 0) ∧ W.cell? ⟨w.heap.size, 9, none⟩ = some (.slice A4 z c4) ∧ W.cell? ⟨w.heap.size + 1, 0, none⟩ = some (.int .i64 0) ∧ W.cell? ⟨w.heap.size + 1, 1, none⟩ = some (.slice A5 n5 c5)) := Lib.hid ⟨(((Bw.refl _).alloc _).alloc _), fun W g => by
   have h0 := (Blk.new w 33 #[.int .i64 1, .slice A1 n c1, .slice A2 k c2, .slice none 0 0, .slice none 0 0, .int .i64 0, .int .i64 0, .slice A3 q c3, .int .i64 0, .slice A4 z c4])
   have k0 := (h0.alloc (.cells #[.int .i64 0, .slice A5 n5 c5] 31)).below g.b (h0.alloc (.cells #[.int .i64 0, .slice A5 n5 c5] 31)).lt
   have h1 := (Blk.new (w.alloc (.cells #[.int .i64 1, .slice A1 n c1, .slice A2 k c2, .slice none 0 0, .slice none 0 0, .int .i64 0, .int .i64 0, .slice A3 q c3, .int .i64 0, .slice A4 z c4] 33)) 31 #[.int .i64 0, .slice A5 n5 c5])
   simp only [World.size_alloc] at h1
   have k1 := h1.below g.b h1.lt
   exact ⟨(((Bw.refl _).alloc _).alloc _).trans g, k0.lt, k1.lt, k0.cell 0, k0.cell 1, k0.cell 2, k0.cell 3, k0.cell 4, k0.cell 5, k0.cell 6, k0.cell 7, k0.cell 8, k0.cell 9, k1.cell 0, k1.cell 1⟩⟩
 go_enter Tryz.func125, Tryz.ntmps125
 go_wp2_with (first
   | (go_at_call 192; go_must (refine (CK.out _ BX.out.1).mono ?_; rintro e w1 ⟨rfl, hg⟩; (obtain ⟨-, ylt0, ylt1, y0_0, y0_1, y0_2, y0_3, y0_4, y0_5, y0_6, y0_7, y0_8, y0_9, y1_0, y1_1⟩ := BX.out.2 _ hg); (have HG1 := Lib.hid hg); clear hg))
   | (go_at_call 27; go_must (refine (CV.out _ (BX.out.1.trans HG1.out)).mono ?_; rintro e w2 ⟨rfl, hg⟩; (have hg := HG1.out.trans hg); (obtain ⟨-, ult0, ult1, u0_0, u0_1, u0_2, u0_3, u0_4, u0_5, u0_6, u0_7, u0_8, u0_9, u1_0, u1_1⟩ := BX.out.2 _ hg); (have HG2 := Lib.hid hg); clear hg))
   | (go_at_call 193; go_must (refine (CB.out _ (BX.out.1.trans HG2.out)).mono ?_; rintro e w3 ⟨s7, rfl, hk7, hg⟩; (have HK7 := Lib.hid hk7); (have HG3 := Lib.hid hg); clear hg hk7)))
 go_ret2
 have hs2 := HG2.out.size
 exact ⟨_, rfl, HK7.out.keep (fun b hb => ⟨by have := hb.1; simp at hs2; omega, hb.2⟩) (fun _ _ => rfl), BX.out.1.trans (HG2.out.trans HG3.out)⟩
def encS : Enc (St × Value) := ⟨3, fun p => [.int .i64 p.1.r, .int .i64 p.1.v.n, p.2], fun _ => rfl, fun p => [(p.2, p.1.v.ks)]⟩
theorem bkdone_any (Sb So Sf : Option Addr) (nb db no do_ nf df : Nat) (us : Int) (w : World) : Calls Tryz.prog 39 #[.agg #[.slice Sb nb db, .slice So no do_, .slice Sf nf df, .int .i64 us]] w (BoolPost w (decide (nf = 0))) := by
 by_cases h : nf = 0
 · subst h
   go_enter Tryz.func39, Tryz.ntmps39
   go_wp2
   go_ret
   exact ⟨rfl, (Bw.refl _).alloc _⟩
 · have d1 : ((nf : Int) == 0) = false := by simp; omega
   rw [decide_eq_false h]
   go_enter Tryz.func39, Tryz.ntmps39
   go_wp2
   go_ret
   exact ⟨rfl, (Bw.refl _).alloc _⟩
theorem bkhit_any (m : Mdl) (hm : MdlOk m) (hn : NmOk m) (ba : List V) (hb : checkB m.t ba = 0) (So Sf : Option Addr) (no do_ nf df : Nat) (us : Int) (sb sv pv rv kv : Value) (w : World) (h : MB w w.heap.size sv pv rv kv m) (h1 : KB w w.heap.size sb ba) :
   Calls Tryz.prog 38 #[aggM sv pv rv kv, .agg #[sb, .slice So no do_, .slice Sf nf df, .int .i64 us]] w (BoolPost w (hasP m.t ba m.start)) := by
 obtain ⟨A1, c1, A2, c2, A3, c3, A4, c4, rfl, rfl, rfl, rfl⟩ := h.form
 obtain ⟨Sb, nb, db, rfl, _, _, _⟩ := h1.form
 have CT : Hid (∀ W, Bw w W → Calls Tryz.prog 65 #[aggM (.slice A1 m.ss.length c1) (.slice A2 m.ps.length c2) (.slice A3 m.rs.length c3) (.slice A4 (1 + m.cs.length) c4)] W (TypeErr W m.t)) := Lib.hid (fun W g => mdType_any m hm hn _ _ _ _ W (h.bw g))
 have CH : Hid (∀ W pv', Bw w W → TB W W.heap.size (.slice none 0 0) pv' m.t → Calls Tryz.prog 69 #[.agg #[.int .i64 3, .int .i64 0, .slice none 0 0, pv'], .slice Sb nb db, .agg #[.int .i64 0, .slice A4 (1 + m.cs.length) c4]] W (BoolPost W (hasP m.t ba m.start))) := Lib.hid (fun W pv' g hT => by
   have := bHas_any m.t ba m.start (.slice none 0 0) pv' _ _ W hT (h1.bw g) (h.bw g).k
   have e : hasB m.t ba m.start = hasP m.t ba m.start := by simp [hasB, hb, validM hm hm.st]
   rw [e] at this
   exact this)
 clear h h1 hm hn hb
 unfold aggM at *
 unfold TypeErr at CT
 generalize hasP m.t ba m.start = bb at *
 generalize m.ss.length = n at *
 generalize m.ps.length = k at *
 generalize m.rs.length = q at *
 generalize 1 + m.cs.length = z at *
 have BX : Hid (Bw w ((w.alloc (.cells #[.int .i64 1, .slice A1 n c1, .slice A2 k c2, .slice none 0 0, .slice none 0 0, .int .i64 0, .int .i64 0, .slice A3 q c3, .int .i64 0, .slice A4 z c4] 33)).alloc (.cells #[.slice Sb nb db, .slice So no do_, .slice Sf nf df, .int .i64 us] 67)) ∧ ∀ W, Bw ((w.alloc (.cells #[.int .i64 1, .slice A1 n c1, .slice A2 k c2, .slice none 0 0, .slice none 0 0, .int .i64 0, .int .i64 0, .slice A3 q c3, .int .i64 0, .slice A4 z c4] 33)).alloc (.cells #[.slice Sb nb db, .slice So no do_, .slice Sf nf df, .int .i64 us] 67)) W → Bw w W ∧ w.heap.size < W.heap.size ∧ w.heap.size + 1 < W.heap.size ∧ W.cell? ⟨w.heap.size, 0, none⟩ = some (.int .i64 1) ∧ W.cell? ⟨w.heap.size, 1, none⟩ = some (.slice A1 n c1) ∧ W.cell? ⟨w.heap.size, 2, none⟩ = some (.slice A2 k c2) ∧ W.cell? ⟨w.heap.size, 3, none⟩ = some (.slice none 0 0) ∧ W.cell? ⟨w.heap.size, 4, none⟩ = some (.slice none 0 0) ∧ W.cell? ⟨w.heap.size, 5, none⟩ = some (.int .i64 0) ∧ W.cell? ⟨w.heap.size, 6, none⟩ = some (.int .i64 0) ∧ W.cell? ⟨w.heap.size, 7, none⟩ = some (.slice A3 q c3) ∧ W.cell? ⟨w.heap.size, 8, none⟩ = some (.int .i64 0) ∧ W.cell? ⟨w.heap.size, 9, none⟩ = some (.slice A4 z c4) ∧ W.cell? ⟨w.heap.size + 1, 0, none⟩ = some (.slice Sb nb db) ∧ W.cell? ⟨w.heap.size + 1, 1, none⟩ = some (.slice So no do_) ∧ W.cell? ⟨w.heap.size + 1, 2, none⟩ = some (.slice Sf nf df) ∧ W.cell? ⟨w.heap.size + 1, 3, none⟩ = some (.int .i64 us)) := Lib.hid ⟨(((Bw.refl _).alloc _).alloc _), fun W g => by
   have h0 := (Blk.new w 33 #[.int .i64 1, .slice A1 n c1, .slice A2 k c2, .slice none 0 0, .slice none 0 0, .int .i64 0, .int .i64 0, .slice A3 q c3, .int .i64 0, .slice A4 z c4])
   have k0 := (h0.alloc (.cells #[.slice Sb nb db, .slice So no do_, .slice Sf nf df, .int .i64 us] 67)).below g.b (h0.alloc (.cells #[.slice Sb nb db, .slice So no do_, .slice Sf nf df, .int .i64 us] 67)).lt
   have h1 := (Blk.new (w.alloc (.cells #[.int .i64 1, .slice A1 n c1, .slice A2 k c2, .slice none 0 0, .slice none 0 0, .int .i64 0, .int .i64 0, .slice A3 q c3, .int .i64 0, .slice A4 z c4] 33)) 67 #[.slice Sb nb db, .slice So no do_, .slice Sf nf df, .int .i64 us])
   simp only [World.size_alloc] at h1
   have k1 := h1.below g.b h1.lt
   exact ⟨(((Bw.refl _).alloc _).alloc _).trans g, k0.lt, k1.lt, k0.cell 0, k0.cell 1, k0.cell 2, k0.cell 3, k0.cell 4, k0.cell 5, k0.cell 6, k0.cell 7, k0.cell 8, k0.cell 9, k1.cell 0, k1.cell 1, k1.cell 2, k1.cell 3⟩⟩
 go_enter Tryz.func38, Tryz.ntmps38
 go_wp2_with (first
   | (go_at_call 65; go_must (refine (CT.out _ BX.out.1).mono ?_; rintro e w1 ⟨pv1, rfl, hp1, hg⟩; obtain ⟨A6, n6, c6, rfl, _, _, _⟩ := hp1.form; (obtain ⟨-, ylt0, ylt1, y0_0, y0_1, y0_2, y0_3, y0_4, y0_5, y0_6, y0_7, y0_8, y0_9, y1_0, y1_1, y1_2, y1_3⟩ := BX.out.2 _ hg); (have HT1 := Lib.hid (TypePost.tb hp1)); (have HG1 := Lib.hid hg); clear hg hp1))
   | (go_at_call 69; (with_reducible refine (CH.out _ _ (BX.out.1.trans (HG1.out.alloc _)) (TAt.bw HT1.out ((Bw.refl _).alloc _))).mono ?_); rintro e w2 ⟨rfl, hg⟩; (have HG2 := Lib.hid ((HG1.out.alloc _).trans hg)); clear hg))
 go_ret
 exact ⟨rfl, BX.out.1.trans HG2.out⟩
end
theorem limB_e (l : List V) : (limB l).2 = 0 ∨ (limB l).2 = 1 := by unfold limB; split <;> simp
end Go.Proofs.YthhbkabdhkdafaaGreat
