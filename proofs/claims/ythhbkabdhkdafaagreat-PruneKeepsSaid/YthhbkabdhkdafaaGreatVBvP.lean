/- Part of a proof of pruneKeeps_holds. -/
import Derived.Test.YthhbkabdhkdafaaGreatVBuP
import Derived.Test.YthhbkabdhkdafaaGreatVBoP
import Derived.Test.YthhbkabdhkdafaaGreatVBtP
set_option linter.unusedSimpArgs false
set_option linter.unusedVariables false
set_option maxRecDepth 100000
set_option maxHeartbeats 16000000
namespace Go.Proofs.YthhbkabdhkdafaaGreat
section
open Go.RowKit
theorem qQuiet_any (m : Mdl) (hm : MdlOk m) (hn : NmOk m) (s : Int) (cs : List Int) (hv : oneP 8 m.t (cfgV s cs) = true) (sv pv rv kv s1 : Value) (w : World) (h : MB w w.heap.size sv pv rv kv m) (h1 : KB w w.heap.size s1 (cfgV s cs).ks) :
   Calls Tryz.prog 81 #[aggM sv pv rv kv, .agg #[.int .i64 0, s1]] w (fun e w' => e = .returned (.tuple #[.slice none 0 0, .int .i64 0]) ∧ Bw w w') := by
 obtain ⟨A1, c1, A2, c2, A3, c3, A4, c4, rfl, rfl, rfl, rfl⟩ := h.form
 obtain ⟨A5, n5, c5, rfl, _, _, _⟩ := h1.form
 have CK : Hid (∀ W, Bw w W → Calls Tryz.prog 44 #[aggM (.slice A1 m.ss.length c1) (.slice A2 m.ps.length c2) (.slice A3 m.rs.length c3) (.slice A4 (1 + m.cs.length) c4)] W (NumPost W 0)) := Lib.hid (fun W g => qKind_any m hm hn _ _ _ _ W (h.bw g))
 have CV : Hid (∀ W, Bw w W → Calls Tryz.prog 45 #[aggM (.slice A1 m.ss.length c1) (.slice A2 m.ps.length c2) (.slice A3 m.rs.length c3) (.slice A4 (1 + m.cs.length) c4), .agg #[.int .i64 0, .slice A5 n5 c5]] W (BoolPost W true)) := Lib.hid (fun W g => by
   have := qValid_any m hm hn (cfgV s cs) _ _ _ _ _ W (h.bw g) (h1.bw g)
   rwa [validM hm hv] at this)
 have BX := Lib.hid (box2 w 33 #[.int .i64 1, .slice A1 m.ss.length c1, .slice A2 m.ps.length c2, .slice none 0 0, .slice none 0 0, .int .i64 0, .int .i64 0, .slice A3 m.rs.length c3, .int .i64 0, .slice A4 (1 + m.cs.length) c4] 31 #[.int .i64 0, .slice A5 n5 c5])
 clear h h1 hm hn hv
 unfold aggM at *
 go_enter Tryz.func81, Tryz.ntmps81
 go_wp2_with (first
   | (go_at_call 44; go_must (refine (CK.out _ BX.out.1).mono ?_; rintro e w1 ⟨rfl, hg1⟩; (have HG1 := Lib.hid hg1); (obtain ⟨hw0, bb0, bb1⟩ := BX.out.2 _ (hg1)); (obtain ⟨ul, u0, u1, u2, u3, u4, u5, u6, u7, u8, u9⟩ := bb0.c10); (obtain ⟨vl, v0, v1⟩ := bb1.c2); (have HW0 := Lib.hid hw0); clear hw0 bb0 bb1; clear hg1))
   | (go_at_call 45; go_must (refine (CV.out _ HW0.out).mono ?_; rintro e w2 ⟨rfl, hg2⟩; (obtain ⟨hw0, bb0, bb1⟩ := BX.out.2 _ (HG1.out.trans hg2)); (obtain ⟨ul, u0, u1, u2, u3, u4, u5, u6, u7, u8, u9⟩ := bb0.c10); (obtain ⟨vl, v0, v1⟩ := bb1.c2); (have HW0 := Lib.hid hw0); clear hw0 bb0 bb1; clear hg2)))
 go_ret2
 exact ⟨rfl, HW0.out⟩
def aplL (r : Rul) (s : Int) (cs : List Int) : List V := if (applyP r s cs).2 = 0 then [(applyP r s cs).1] else []
def aplE (r : Rul) (s : Int) (cs : List Int) : Int := if (applyP r s cs).2 = 0 then 0 else if (applyP r s cs).2 = 18 then 0 else (applyP r s cs).2
def VsEPost (w : World) (l : List V) (er : Int) (e : Ending) (w' : World) : Prop := ∃ s, e = .returned (.tuple #[s, .int .i64 er]) ∧ KAt w' (fun b => w.heap.size ≤ b ∧ b < w'.heap.size) s l ∧ Bw w w'
theorem kat_oneW {w : World} {L : Nat} {x : V} {s : Value} (hL : L ≤ w.heap.size) (h : KAt w (fun b => L ≤ b ∧ b < w.heap.size) s x.ks) : KAt (w.alloc (.cells #[.int .i64 x.n, s] 31)) (fun b => L ≤ b ∧ b < (w.alloc (.cells #[.int .i64 x.n, s] 31)).heap.size) (.slice (some ⟨w.heap.size, 0, none⟩) 1 1) [x] :=
 VRow.kat (B := w.heap.size) (ss := [s]) ⟨own_new w 31 #[.int .i64 x.n, s] 2 (n := 1) rfl rfl, rfl, fun k h1 h2 => by
   obtain rfl : k = 0 := by simpa using h1
   exact h.keep (fun b hb => ⟨hb.1, by simp; omega, fun e => by injection e with e; simp at e; omega⟩) (fun p hp => World.cell?_of_block (Below.heap_alloc w _ p.block hp.2))⟩ hL
theorem qApply_any (m : Mdl) (hm : MdlOk m) (hn : NmOk m) (s : Int) (cs : List Int) (hv : oneP 8 m.t (cfgV s cs) = true) (i : Nat) (hi : i < m.rs.length) (sv pv rv kv s1 : Value) (w : World) (h : MB w w.heap.size sv pv rv kv m) (h1 : KB w w.heap.size s1 (cfgV s cs).ks) :
   Calls Tryz.prog 46 #[aggM sv pv rv kv, .int .i64 (i : Int), .agg #[.int .i64 0, s1]] w (VsEPost w (aplL m.rs[i] s cs) (aplE m.rs[i] s cs)) := by
 obtain ⟨A1, c1, A2, c2, A3, c3, A4, c4, rfl, rfl, rfl, rfl⟩ := h.form
 obtain ⟨A5, n5, c5, rfl, _, _, _⟩ := h1.form
 have CK : Hid (∀ W, Bw w W → Calls Tryz.prog 44 #[aggM (.slice A1 m.ss.length c1) (.slice A2 m.ps.length c2) (.slice A3 m.rs.length c3) (.slice A4 (1 + m.cs.length) c4)] W (NumPost W 0)) := Lib.hid (fun W g => qKind_any m hm hn _ _ _ _ W (h.bw g))
 have CV : Hid (∀ W, Bw w W → Calls Tryz.prog 45 #[aggM (.slice A1 m.ss.length c1) (.slice A2 m.ps.length c2) (.slice A3 m.rs.length c3) (.slice A4 (1 + m.cs.length) c4), .agg #[.int .i64 0, .slice A5 n5 c5]] W (BoolPost W true)) := Lib.hid (fun W g => by
   have := qValid_any m hm hn (cfgV s cs) _ _ _ _ _ W (h.bw g) (h1.bw g)
   rwa [validM hm hv] at this)
 have CA : Hid (∀ W, Bw w W → Calls Tryz.prog 84 #[aggM (.slice A1 m.ss.length c1) (.slice A2 m.ps.length c2) (.slice A3 m.rs.length c3) (.slice A4 (1 + m.cs.length) c4), .int .i64 (i : Int), .agg #[.int .i64 0, .slice A5 n5 c5]] W (VEPost W (applyP m.rs[i] s cs).1 (applyP m.rs[i] s cs).2)) := Lib.hid (fun W g => qapply_any m hm hn s cs hv i hi _ _ _ _ _ W (h.bw g) (h1.bw g))
 have BX := Lib.hid (box2 w 33 #[.int .i64 1, .slice A1 m.ss.length c1, .slice A2 m.ps.length c2, .slice none 0 0, .slice none 0 0, .int .i64 0, .int .i64 0, .slice A3 m.rs.length c3, .int .i64 0, .slice A4 (1 + m.cs.length) c4] 31 #[.int .i64 0, .slice A5 n5 c5])
 unfold aplL aplE
 have hcas := apply_cases m.rs[i] s cs
 generalize applyP m.rs[i] s cs = R at *
 obtain ⟨x, er⟩ := R
 have hx : er = 0 ∨ er = 1 ∨ er = 18 := by
   rcases hcas with ⟨_, _, e⟩ | ⟨_, _, e⟩ | ⟨_, e⟩ <;> injection e with _ e <;> simp [e]
 dsimp only at *
 have hi2 : (i : Int) < (m.rs.length : Int) := by omega
 clear h h1 hm hn hv hcas
 unfold aggM at *
 rcases hx with rfl | rfl | rfl
 · go_enter Tryz.func46, Tryz.ntmps46
   go_wp2_with (first
     | (go_at_call 44; go_must (refine (CK.out _ BX.out.1).mono ?_; rintro e w1 ⟨rfl, hg1⟩; (have HG1 := Lib.hid hg1); (obtain ⟨hw0, bb0, bb1⟩ := BX.out.2 _ (hg1)); (obtain ⟨ul, u0, u1, u2, u3, u4, u5, u6, u7, u8, u9⟩ := bb0.c10); (obtain ⟨vl, v0, v1⟩ := bb1.c2); (have HW0 := Lib.hid hw0); clear hw0 bb0 bb1; clear hg1))
     | (go_at_call 45; go_must (refine (CV.out _ HW0.out).mono ?_; rintro e w2 ⟨rfl, hg2⟩; (have HG2 := Lib.hid (HG1.out.trans hg2)); (obtain ⟨hw0, bb0, bb1⟩ := BX.out.2 _ (HG1.out.trans hg2)); (obtain ⟨ul, u0, u1, u2, u3, u4, u5, u6, u7, u8, u9⟩ := bb0.c10); (obtain ⟨vl, v0, v1⟩ := bb1.c2); (have HW0 := Lib.hid hw0); clear hw0 bb0 bb1; clear hg2))
     | (go_at_call 84; go_must (refine (CA.out _ HW0.out).mono ?_; rintro e w3 ⟨s3, rfl, hk3, hg3⟩; obtain ⟨A6, n6, c6, rfl, -⟩ := hk3.form; (have HK3 := Lib.hid (And.intro hk3 (HW0.out.trans hg3))); (have hsz := HW0.out.size); clear hk3; (obtain ⟨hw0, bb0, bb1⟩ := BX.out.2 _ ((HG2.out.trans hg3).alloc (.cells #[.int .i64 x.n, .slice A6 n6 c6] 31))); (obtain ⟨ul, u0, u1, u2, u3, u4, u5, u6, u7, u8, u9⟩ := bb0.c10); (obtain ⟨vl, v0, v1⟩ := bb1.c2); (have HW0 := Lib.hid hw0); clear hw0 bb0 bb1)))
   go_ret2
   refine ⟨_, rfl, ?_, (HK3.out.2.alloc _).alloc _⟩
   have hK := kat_oneW (w := w3.alloc (.cells #[.int .i64 x.n, .slice A6 n6 c6] 31)) (L := w.heap.size) (by simp; have := HK3.out.2.size; omega) (HK3.out.1.keep (fun b hb => ⟨by have := HW0.out.size; omega, by simp; omega⟩) (fun p hp => World.cell?_of_block (Below.heap_alloc _ _ p.block hp.2)))
   simp only [World.size_alloc] at hK ⊢
   exact hK
 · go_enter Tryz.func46, Tryz.ntmps46
   go_wp2_with (first
     | (go_at_call 44; go_must (refine (CK.out _ BX.out.1).mono ?_; rintro e w1 ⟨rfl, hg1⟩; (have HG1 := Lib.hid hg1); (obtain ⟨hw0, bb0, bb1⟩ := BX.out.2 _ (hg1)); (obtain ⟨ul, u0, u1, u2, u3, u4, u5, u6, u7, u8, u9⟩ := bb0.c10); (obtain ⟨vl, v0, v1⟩ := bb1.c2); (have HW0 := Lib.hid hw0); clear hw0 bb0 bb1; clear hg1))
     | (go_at_call 45; go_must (refine (CV.out _ HW0.out).mono ?_; rintro e w2 ⟨rfl, hg2⟩; (have HG2 := Lib.hid (HG1.out.trans hg2)); (obtain ⟨hw0, bb0, bb1⟩ := BX.out.2 _ (HG1.out.trans hg2)); (obtain ⟨ul, u0, u1, u2, u3, u4, u5, u6, u7, u8, u9⟩ := bb0.c10); (obtain ⟨vl, v0, v1⟩ := bb1.c2); (have HW0 := Lib.hid hw0); clear hw0 bb0 bb1; clear hg2))
     | (go_at_call 84; go_must (refine (CA.out _ HW0.out).mono ?_; rintro e w3 ⟨s3, rfl, hk3, hg3⟩; obtain ⟨A6, n6, c6, rfl, -⟩ := hk3.form; (have HK3 := Lib.hid (And.intro hk3 (HW0.out.trans hg3))); (have hsz := HW0.out.size); clear hk3; (obtain ⟨hw0, bb0, bb1⟩ := BX.out.2 _ ((HG2.out.trans hg3).alloc (.cells #[.int .i64 x.n, .slice A6 n6 c6] 31))); (obtain ⟨ul, u0, u1, u2, u3, u4, u5, u6, u7, u8, u9⟩ := bb0.c10); (obtain ⟨vl, v0, v1⟩ := bb1.c2); (have HW0 := Lib.hid hw0); clear hw0 bb0 bb1)))
   go_ret2
   exact ⟨_, rfl, KAt.nil _ _ (Nat.zero_le _), HK3.out.2.alloc _⟩
 · go_enter Tryz.func46, Tryz.ntmps46
   go_wp2_with (first
     | (go_at_call 44; go_must (refine (CK.out _ BX.out.1).mono ?_; rintro e w1 ⟨rfl, hg1⟩; (have HG1 := Lib.hid hg1); (obtain ⟨hw0, bb0, bb1⟩ := BX.out.2 _ (hg1)); (obtain ⟨ul, u0, u1, u2, u3, u4, u5, u6, u7, u8, u9⟩ := bb0.c10); (obtain ⟨vl, v0, v1⟩ := bb1.c2); (have HW0 := Lib.hid hw0); clear hw0 bb0 bb1; clear hg1))
     | (go_at_call 45; go_must (refine (CV.out _ HW0.out).mono ?_; rintro e w2 ⟨rfl, hg2⟩; (have HG2 := Lib.hid (HG1.out.trans hg2)); (obtain ⟨hw0, bb0, bb1⟩ := BX.out.2 _ (HG1.out.trans hg2)); (obtain ⟨ul, u0, u1, u2, u3, u4, u5, u6, u7, u8, u9⟩ := bb0.c10); (obtain ⟨vl, v0, v1⟩ := bb1.c2); (have HW0 := Lib.hid hw0); clear hw0 bb0 bb1; clear hg2))
     | (go_at_call 84; go_must (refine (CA.out _ HW0.out).mono ?_; rintro e w3 ⟨s3, rfl, hk3, hg3⟩; obtain ⟨A6, n6, c6, rfl, -⟩ := hk3.form; (have HK3 := Lib.hid (And.intro hk3 (HW0.out.trans hg3))); (have hsz := HW0.out.size); clear hk3; (obtain ⟨hw0, bb0, bb1⟩ := BX.out.2 _ ((HG2.out.trans hg3).alloc (.cells #[.int .i64 x.n, .slice A6 n6 c6] 31))); (obtain ⟨ul, u0, u1, u2, u3, u4, u5, u6, u7, u8, u9⟩ := bb0.c10); (obtain ⟨vl, v0, v1⟩ := bb1.c2); (have HW0 := Lib.hid hw0); clear hw0 bb0 bb1)))
   go_ret2
   exact ⟨_, rfl, KAt.nil _ _ (Nat.zero_le _), HK3.out.2.alloc _⟩
theorem qApply0_any (m : Mdl) (hm : MdlOk m) (hn : NmOk m) (s : Int) (cs : List Int) (hv : oneP 8 m.t (cfgV s cs) = true) (sv pv rv kv s1 : Value) (w : World) (h : MB w w.heap.size sv pv rv kv m) (h1 : KB w w.heap.size s1 (cfgV s cs).ks) :
   Calls Tryz.prog 46 #[aggM sv pv rv kv, .int .i64 (-1), .agg #[.int .i64 0, s1]] w (VsEPost w [] 0) := by
 obtain ⟨A1, c1, A2, c2, A3, c3, A4, c4, rfl, rfl, rfl, rfl⟩ := h.form
 obtain ⟨A5, n5, c5, rfl, _, _, _⟩ := h1.form
 have CK : Hid (∀ W, Bw w W → Calls Tryz.prog 44 #[aggM (.slice A1 m.ss.length c1) (.slice A2 m.ps.length c2) (.slice A3 m.rs.length c3) (.slice A4 (1 + m.cs.length) c4)] W (NumPost W 0)) := Lib.hid (fun W g => qKind_any m hm hn _ _ _ _ W (h.bw g))
 have CV : Hid (∀ W, Bw w W → Calls Tryz.prog 45 #[aggM (.slice A1 m.ss.length c1) (.slice A2 m.ps.length c2) (.slice A3 m.rs.length c3) (.slice A4 (1 + m.cs.length) c4), .agg #[.int .i64 0, .slice A5 n5 c5]] W (BoolPost W true)) := Lib.hid (fun W g => by
   have := qValid_any m hm hn (cfgV s cs) _ _ _ _ _ W (h.bw g) (h1.bw g)
   rwa [validM hm hv] at this)
 have CQ : Hid (∀ W, Bw w W → Calls Tryz.prog 81 #[aggM (.slice A1 m.ss.length c1) (.slice A2 m.ps.length c2) (.slice A3 m.rs.length c3) (.slice A4 (1 + m.cs.length) c4), .agg #[.int .i64 0, .slice A5 n5 c5]] W (fun e w' => e = .returned (.tuple #[.slice none 0 0, .int .i64 0]) ∧ Bw W w')) := Lib.hid (fun W g => qQuiet_any m hm hn s cs hv _ _ _ _ _ W (h.bw g) (h1.bw g))
 have BX := Lib.hid (box2 w 33 #[.int .i64 1, .slice A1 m.ss.length c1, .slice A2 m.ps.length c2, .slice none 0 0, .slice none 0 0, .int .i64 0, .int .i64 0, .slice A3 m.rs.length c3, .int .i64 0, .slice A4 (1 + m.cs.length) c4] 31 #[.int .i64 0, .slice A5 n5 c5])
 have hi2 : ((-1 : Int)) < (m.rs.length : Int) := by omega
 clear h h1 hm hn hv
 unfold aggM at *
 go_enter Tryz.func46, Tryz.ntmps46
 go_wp2_with (first
   | (go_at_call 44; go_must (refine (CK.out _ BX.out.1).mono ?_; rintro e w1 ⟨rfl, hg1⟩; (have HG1 := Lib.hid hg1); (obtain ⟨hw0, bb0, bb1⟩ := BX.out.2 _ (hg1)); (obtain ⟨ul, u0, u1, u2, u3, u4, u5, u6, u7, u8, u9⟩ := bb0.c10); (obtain ⟨vl, v0, v1⟩ := bb1.c2); (have HW0 := Lib.hid hw0); clear hw0 bb0 bb1; clear hg1))
   | (go_at_call 45; go_must (refine (CV.out _ HW0.out).mono ?_; rintro e w2 ⟨rfl, hg2⟩; (have HG2 := Lib.hid (HG1.out.trans hg2)); (obtain ⟨hw0, bb0, bb1⟩ := BX.out.2 _ (HG1.out.trans hg2)); (obtain ⟨ul, u0, u1, u2, u3, u4, u5, u6, u7, u8, u9⟩ := bb0.c10); (obtain ⟨vl, v0, v1⟩ := bb1.c2); (have HW0 := Lib.hid hw0); clear hw0 bb0 bb1; clear hg2))
   | (go_at_call 81; go_must (refine (CQ.out _ HW0.out).mono ?_; rintro e w3 ⟨rfl, hg3⟩; (have HK3 := Lib.hid (HW0.out.trans hg3)); clear hg3)))
 go_ret2
 exact ⟨_, rfl, KAt.nil _ _ (Nat.zero_le _), HK3.out⟩
def RelA (rs : List Rul) (s : Int) (cs : List Int) (k : Nat) (l : List St) : Prop := allP s cs 0 rs = (allP s cs k (rs.drop k)).map (l ++ ·)
theorem RelA.step {rs : List Rul} {s : Int} {cs : List Int} {k : Nat} {l : List St} (h : RelA rs s cs k l) (hk : k < rs.length) :
   (aplE rs[k] s cs = 0 → RelA rs s cs (k + 1) (l ++ (aplL rs[k] s cs).map (fun x => ⟨(k : Int), x⟩))) ∧ (aplE rs[k] s cs ≠ 0 → allP s cs 0 rs = none) := by
 unfold RelA at *
 rw [List.drop_eq_getElem_cons hk, allP] at h
 unfold aplE aplL
 by_cases h0 : (applyP rs[k] s cs).2 = 0
 · simp only [h0, ↓reduceIte] at h ⊢
   refine ⟨fun _ => ?_, fun h => absurd rfl h⟩
   rw [h, Option.map_map]
   congr 1
   funext x
   simp
 · by_cases h1 : (applyP rs[k] s cs).2 = 18
   · simp only [h0, h1, ↓reduceIte] at h ⊢
     rw [if_neg (by decide)] at h
     refine ⟨fun _ => by simpa using h, fun h => absurd (by simp) h⟩
   · simp only [h0, h1, ↓reduceIte] at h ⊢
     exact ⟨fun h => h.elim, fun _ => by simpa using h⟩
theorem aplL_len (r : Rul) (s : Int) (cs : List Int) : (aplL r s cs).length ≤ 1 := by unfold aplL; split <;> simp
def AllStPost (w : World) (R : Option (List St)) (e : Ending) (w' : World) : Prop := ∃ v er, e = .returned (.tuple #[v, .int .i64 er]) ∧ Bw w w' ∧ ((R = none ∧ er ≠ 0) ∨ ∃ l, R = some l ∧ er = 0 ∧ ∃ ps, EAt encS w' (fun b => w.heap.size ≤ b ∧ b < w'.heap.size) v ps ∧ ps.map (·.1) = l)
theorem qAll_any (m : Mdl) (hm : MdlOk m) (hn : NmOk m) (hr9 : m.rs.length ≤ 200) (s : Int) (cs : List Int) (hv : oneP 8 m.t (cfgV s cs) = true) (sv pv rv kv s1 : Value) (w : World) (h : MB w w.heap.size sv pv rv kv m) (h1 : KB w w.heap.size s1 (cfgV s cs).ks) :
   Calls Tryz.prog 20 #[aggM sv pv rv kv, .agg #[.int .i64 0, s1]] w (AllStPost w (allP s cs 0 m.rs)) := by
 obtain ⟨A1, c1, A2, c2, A3, c3, A4, c4, rfl, rfl, rfl, rfl⟩ := h.form
 obtain ⟨A5, n5, c5, rfl, _, _, _⟩ := h1.form
 have CK : Hid (∀ W, Bw w W → Calls Tryz.prog 44 #[aggM (.slice A1 m.ss.length c1) (.slice A2 m.ps.length c2) (.slice A3 m.rs.length c3) (.slice A4 (1 + m.cs.length) c4)] W (NumPost W 0)) := Lib.hid (fun W g => qKind_any m hm hn _ _ _ _ W (h.bw g))
 have CV : Hid (∀ W, Bw w W → Calls Tryz.prog 45 #[aggM (.slice A1 m.ss.length c1) (.slice A2 m.ps.length c2) (.slice A3 m.rs.length c3) (.slice A4 (1 + m.cs.length) c4), .agg #[.int .i64 0, .slice A5 n5 c5]] W (BoolPost W true)) := Lib.hid (fun W g => by
   have := qValid_any m hm hn (cfgV s cs) _ _ _ _ _ W (h.bw g) (h1.bw g)
   rwa [validM hm hv] at this)
 have CA : Hid (∀ kk, kk ≤ m.rs.length → ∃ lx er, lx.length ≤ 1 ∧ (∀ l, RelA m.rs s cs (kk - 1) l → (er = 0 → RelA m.rs s cs kk (l ++ lx.map (fun x => ⟨(kk : Int) - 1, x⟩))) ∧ (er ≠ 0 → allP s cs 0 m.rs = none)) ∧ ∀ W, Bw w W → Calls Tryz.prog 46 #[aggM (.slice A1 m.ss.length c1) (.slice A2 m.ps.length c2) (.slice A3 m.rs.length c3) (.slice A4 (1 + m.cs.length) c4), .int .i64 ((kk : Int) - 1), .agg #[.int .i64 0, .slice A5 n5 c5]] W (VsEPost W lx er)) := Lib.hid (fun kk hkk => by
   rcases kk with _ | k
   · exact ⟨[], 0, by simp, fun l h => ⟨fun _ => by simpa using h, fun h => absurd rfl h⟩, fun W g => qApply0_any m hm hn s cs hv _ _ _ _ _ W (h.bw g) (h1.bw g)⟩
   · refine ⟨aplL m.rs[k] s cs, aplE m.rs[k] s cs, aplL_len _ _ _, fun l h => ?_, fun W g => ?_⟩
     · have := h.step (by omega)
       simpa using this
     · have := qApply_any m hm hn s cs hv k (by omega) _ _ _ _ _ W (h.bw g) (h1.bw g)
       rwa [show ((k + 1 : Nat) : Int) - 1 = (k : Int) by omega])
 have HR0 : Hid (RelA m.rs s cs 0 []) := Lib.hid (by unfold RelA; simp)
 have HRN : Hid (∀ l, RelA m.rs s cs m.rs.length l → allP s cs 0 m.rs = some l) := Lib.hid (fun l h => by unfold RelA at h; rw [List.drop_length] at h; simpa [allP] using h)
 obtain ⟨i0, hi0, hz0, hz1, hz2⟩ := info_parts infoStepB
 have BX := Lib.hid (box2 w 33 #[.int .i64 1, .slice A1 m.ss.length c1, .slice A2 m.ps.length c2, .slice none 0 0, .slice none 0 0, .int .i64 0, .int .i64 0, .slice A3 m.rs.length c3, .int .i64 0, .slice A4 (1 + m.cs.length) c4] 31 #[.int .i64 0, .slice A5 n5 c5])
 generalize allP s cs 0 m.rs = R at *
 generalize RelA m.rs s cs = RA at *
 clear h h1 hm hn hv
 unfold aggM at *
 generalize m.rs.length = L at *
 go_enter Tryz.func20, Tryz.ntmps20
 go_wp2_with (first
   | (go_at_call 44; go_must (refine (CK.out _ BX.out.1).mono ?_; rintro e w1 ⟨rfl, hg1⟩; (have HG1 := Lib.hid hg1); (obtain ⟨hw0, bb0, bb1⟩ := BX.out.2 _ (hg1)); (obtain ⟨ul, u0, u1, u2, u3, u4, u5, u6, u7, u8, u9⟩ := bb0.c10); (obtain ⟨vl, v0, v1⟩ := bb1.c2); (have HW0 := Lib.hid hw0); clear hw0 bb0 bb1; clear hg1))
   | (go_at_call 45; go_must (refine (CV.out _ HW0.out).mono ?_; rintro e w2 ⟨rfl, hg2⟩; (have HG2 := Lib.hid (HG1.out.trans hg2)); (obtain ⟨hw0, bb0, bb1⟩ := BX.out.2 _ (HG1.out.trans hg2)); (obtain ⟨ul, u0, u1, u2, u3, u4, u5, u6, u7, u8, u9⟩ := bb0.c10); (obtain ⟨vl, v0, v1⟩ := bb1.c2); (have HW0 := Lib.hid hw0); clear hw0 bb0 bb1; clear hg2)))
 clear HG1 ul u0 u1 u2 u3 u4 u5 u6 u7 u8 u9 vl v0 v1 CK CV
 go_loopw [7, 8] (fun s7 i wr => ∃ (kk kn : Nat) (A : Option Addr) (c : Nat), kk ≤ L + 1 ∧ i = .int .i64 ((kk : Int) - 1) ∧ s7 = .slice A kn c ∧ Hid (∃ l, l.length = kn ∧ kn ≤ kk ∧ RA (kk - 1) l ∧ OwnT (w.heap.size + 2) wr (.slice A kn c) l ∧ Bw ((w.alloc (.cells #[.int .i64 1, .slice A1 m.ss.length c1, .slice A2 m.ps.length c2, .slice none 0 0, .slice none 0 0, .int .i64 0, .int .i64 0, .slice A3 L c3, .int .i64 0, .slice A4 (1 + m.cs.length) c4] 33)).alloc (.cells #[.int .i64 0, .slice A5 n5 c5] 31)) wr)) (fun _ i _ => (L - intOf i).toNat)
 case atStart => exact ⟨0, 0, none, 0, by omega, rfl, rfl, Lib.hid ⟨[], rfl, by omega, HR0.out, ⟨[], ERow.nil _ _ _ _, rfl⟩, HG2.out⟩⟩
 case round =>
   clear HG2 HW0 HR0
   obtain ⟨wo, hwo⟩ : ∃ wo, wo = wr := ⟨_, rfl⟩
   subst hwo
   obtain ⟨kk, kn, A, c, hkk, rfl, rfl, HR⟩ := hrel
   obtain ⟨l, hl, hk9, hra, hown, hbw⟩ := HR.out
   obtain ⟨hw0, bb0, bb1⟩ := BX.out.2 _ hbw
   obtain ⟨ul, u0, u1, u2, u3, u4, u5, u6, u7, u8, u9⟩ := bb0.c10
   obtain ⟨vl, v0, v1⟩ := bb1.c2
   have HB := Lib.hid (And.intro hw0 hbw)
   have HO := Lib.hid hown
   have HRA := Lib.hid hra
   clear hw0 bb0 bb1 hown hra hbw
   by_cases hlt : kk ≤ L
   · have hlt' : (kk : Int) - 1 < (L : Int) := by omega
     obtain ⟨lx, er, hx1, hx2, hx3⟩ := CA.out kk hlt
     have CAP := Lib.hid (hx3 _ HB.out.1)
     have HX2 := Lib.hid (hx2 _ HRA.out)
     clear hx2 hx3 CA HRN HR
     by_cases her : er = 0
     · subst her
       go_upto_region 14 with (go_at_call 46; go_must (refine CAP.out.mono ?_; rintro e w3 ⟨tv, rfl, hk3, hg3⟩; obtain ⟨TA, tn, tc, rfl, htl, -⟩ := hk3.form; (have HK3 := Lib.hid (And.intro hk3 hg3)); (obtain ⟨hw0, bb0, bb1⟩ := BX.out.2 _ (HB.out.2.trans hg3)); (obtain ⟨ul, u0, u1, u2, u3, u4, u5, u6, u7, u8, u9⟩ := bb0.c10); (obtain ⟨vl, v0, v1⟩ := bb1.c2); (have HW0 := Lib.hid hw0); clear hw0 bb0 bb1; clear hk3 hg3))
       have HRO := HO
       obtain ⟨psr, hrow, hpe⟩ := HO.out
       have hpl : psr.length = kn := by rw [← hl, ← hpe, List.length_map]
       have HROW := Lib.hid (And.intro hrow hpe)
       have hrl : ∀ r, (Value.slice A kn c).ownBlock = some r → w.heap.size + 2 ≤ r ∧ r < wo.heap.size := fun r e => hrow.own.lt r e
       have HRL := Lib.hid hrl
       clear hrow hpe hrl
       clear ul u0 u1 u2 u3 u4 u5 u6 u7 u8 u9 vl v0 v1
       go_loopw [7, 11] (fun s7 j wi => ∃ (jn q : Nat) (A' : Option Addr) (c' : Nat), jn ≤ lx.length ∧ j = .int .i64 jn ∧ s7 = .slice A' q c' ∧ Hid (q = kn + jn ∧ OwnT (w.heap.size + 2) wi (.slice A' q c') (l ++ (lx.take jn).map (fun x => ⟨(kk : Int) - 1, x⟩)) ∧ Bw ((w.alloc (.cells #[.int .i64 1, .slice A1 m.ss.length c1, .slice A2 m.ps.length c2, .slice none 0 0, .slice none 0 0, .int .i64 0, .int .i64 0, .slice A3 L c3, .int .i64 0, .slice A4 (1 + m.cs.length) c4] 33)).alloc (.cells #[.int .i64 0, .slice A5 n5 c5] 31)) wi ∧ (jn = 0 → wi = w3 ∧ A' = A ∧ c' = c))) (fun _ j _ => lx.length - (intOf j).toNat)
       case atStart => exact ⟨0, kn, A, c, by omega, rfl, rfl, Lib.hid ⟨rfl, by simpa using HO.out.bw HK3.out.2, HB.out.2.trans HK3.out.2, fun _ => ⟨rfl, rfl, rfl⟩⟩⟩
       case round =>
         obtain ⟨wi0, hwi⟩ : ∃ wi0, wi0 = wr := ⟨_, rfl⟩
         subst hwi
         obtain ⟨jn, q, A', c', hjn, rfl, rfl, HJ⟩ := hrel
         obtain ⟨hq, hjo, hjb, hj0⟩ := HJ.out
         by_cases hj : jn < lx.length
         · have hjz : jn = 0 := by omega
           obtain ⟨rfl, rfl, rfl⟩ := hj0 hjz
           have hjt : (jn : Int) < (tn : Int) := by omega
           obtain ⟨ad, xA, xn, xc, rfl, hba, qa0, qa1, -, hkx⟩ := HK3.out.1.at_ hj
           have hlen : ∀ W, Bw wo W → W.ownsRow (w.heap.size + 2) 62 3 (.slice A' kn c') kn (psr.flatMap encS.enc) := fun W g => by
             have := own_kept_below HROW.out.1.own g
             rw [hpl] at this; exact this
           have hq0 : q = kn := by omega
           have HQ := Lib.hid hq
           subst hq0
           have HLEN := Lib.hid hlen
           have HKX := Lib.hid hkx
           have HJB := Lib.hid hjb
           have hJ9 : q ≤ 201 := by omega
           have hs0 : w.heap.size + 2 ≤ wi0.heap.size := by have := hjb.size; simpa using this
           clear hlen hkx hjb hjo HJ hj0
           have HTK : Hid (lx.take (jn + 1) = [lx[jn]]) := Lib.hid (by
             subst hjz
             rcases lx with _ | ⟨y, r⟩
             · simp at hj
             · simp)
           generalize lx[jn] = x at *
           clear hjz hq
           go_wp2_with (at_builtin; go_must (refine wpList_append_any _ rfl _ _ 35 rfl (w.heap.size + 2) 62 i0 _ 3 40 Tryz.underlying35 hi0 hz0 hz1 hz2 rfl (by decide) (.slice A' q c') q (psr.flatMap encS.enc) rfl ((HLEN.out _ HK3.out.2).alloc _) (wi0.heap.size + 1) (some ⟨wi0.heap.size, 0, none⟩) 1 1 [.int .i64 ((kk : Int) - 1), .int .i64 x.n, .slice xA xn xc] rfl (reads_new3 _ _ _ _ _) (stp3 _ _ _ _ _) (by unfold maxLen; omega) (by omega) (by simp; omega) ?_; intro v7 w7 hown7 hgr7 hl7; obtain ⟨A7, c7, rfl⟩ := own_form hown7; (have HO7 := Lib.hid (And.intro hown7 (And.intro hgr7 hl7))); clear hown7 hgr7 hl7))
           go_roundw
           case rel =>
             refine ⟨jn + 1, q + 1, A7, c7, by omega, by go_num, rfl, Lib.hid ⟨by have := HQ.out; omega, ?_, ?_, fun h => by omega⟩⟩
             · rw [HTK.out]
               have hrow2 := HROW.out.1.bw (HK3.out.2.alloc (.cells #[.int .i64 ((kk : Int) - 1), .int .i64 x.n, .slice xA xn xc] 62)) (D' := fun b => w.heap.size + 2 ≤ b ∧ b < (wi0.alloc (.cells #[.int .i64 ((kk : Int) - 1), .int .i64 x.n, .slice xA xn xc] 62)).heap.size ∧ (Value.slice A' q c').ownBlock ≠ some b) (fun b hb => ⟨⟨hb.1, by have := HK3.out.2.size; simp; omega, hb.2.2⟩, hb.2.1⟩)
               exact OwnT.push (x := ⟨(kk : Int) - 1, x⟩) (s1 := .slice xA xn xc) hrow2 HROW.out.2 (HKX.out.keep (fun b hb => ⟨by have := HB.out.2.size; simp at this; omega, by simp; omega, fun e => by have := HRL.out b e; omega⟩) (fun p hp => World.cell?_of_block (Below.heap_alloc _ _ p.block hp.2))) (by rw [hpl]; exact HO7.out.1) HO7.out.2.1 HO7.out.2.2
             · exact bw_gb (HJB.out.alloc _) HO7.out.2.1 (fun r e => by have := HRL.out r e; simp; omega)
           case measure => simp [intOf]; omega
         · obtain rfl : jn = lx.length := by omega
           have hjt : ¬ ((lx.length : Int) < (tn : Int)) := by omega
           go_wp2_with fail
           go_roundw
           case rel =>
             rw [List.take_of_length_le (Nat.le_refl _)] at hjo
             exact ⟨kk + 1, q, A', c', by omega, by go_num, rfl, Lib.hid ⟨_, by simp; omega, by omega, HX2.out.1 trivial, hjo, hjb⟩⟩
           case measure => simp [intOf]; omega
     · have her' : (er != 0) = true := by simpa using her
       go_wp2_with (go_at_call 46; go_must (refine CAP.out.mono ?_; rintro e w3 ⟨tv, rfl, hk3, hg3⟩; obtain ⟨TA, tn, tc, rfl, htl, -⟩ := hk3.form; (have HK3 := Lib.hid (And.intro hk3 hg3)); (obtain ⟨hw0, bb0, bb1⟩ := BX.out.2 _ (HB.out.2.trans hg3)); (obtain ⟨ul, u0, u1, u2, u3, u4, u5, u6, u7, u8, u9⟩ := bb0.c10); (obtain ⟨vl, v0, v1⟩ := bb1.c2); (have HW0 := Lib.hid hw0); clear hw0 bb0 bb1; clear hk3 hg3))
       go_ret2
       exact ⟨_, er, rfl, HW0.out, .inl ⟨HX2.out.2 her, her⟩⟩
   · obtain rfl : kk = L + 1 := by omega
     have hkn : kn ≤ 201 := by omega
     have hge : ¬ (256 : Int) < (kn : Int) := by omega
     have hlt' : ¬ (((L + 1 : Nat) : Int) - 1 < (L : Int)) := by omega
     go_wp2_with fail
     go_ret2
     obtain ⟨ps, h1, h2⟩ := HO.out.eat
     exact ⟨_, 0, rfl, HB.out.1, .inr ⟨l, HRN.out l (by simpa using HRA.out), rfl, ps, h1.keep (fun b hb => ⟨by omega, hb.2⟩) (fun _ _ => rfl), h2⟩⟩
def NearPost (w : World) (b : Nat) (m : Mdl) (e : Ending) (w' : World) : Prop := ∃ (v : V) (s sv : Value), e = .returned (.tuple #[.agg #[.int .i64 0, s], sv]) ∧ Rch m v ∧ v.n = 0 ∧ KAt w' (fun g => g ≠ b ∧ g < w'.heap.size) s v.ks ∧ DiceOk w' b ∧ w.grownBy w' (some b)
structure NrI (w wr : World) (b : Nat) (m : Mdl) (mc : Array Value) (KA : Option Addr) (kn kc : Nat) (ov : Value) (on : Nat) (v : V) : Prop where
 vb : Blk wr (w.heap.size + 2) 31 #[.int .i64 0, .slice KA kn kc]
 vk : KAt wr (fun g => g ≠ b ∧ g < wr.heap.size ∧ g ≠ w.heap.size + 1 ∧ g ≠ w.heap.size + 2 ∧ ov.ownBlock ≠ some g) (.slice KA kn kc) v.ks
 rc : Rch m v
 ow : ∃ xs, wr.ownsRow (w.heap.size + 3) 62 3 ov on xs
 mb : Blk wr w.heap.size 33 mc
 zb : Blk wr (w.heap.size + 1) 31 #[.int .i64 0, .slice none 0 0]
 d : DiceOk wr b
 g : w.grownBy wr (some b)
section
variable {w wr w' : World} {b : Nat} {m : Mdl} {mc : Array Value} {KA : Option Addr} {kn kc : Nat} {ov : Value} {on : Nat} {v : V}
theorem NrI.st (h : NrI w wr b m mc KA kn kc ov on v) (hb : b < w.heap.size) (hd : DiceOk w' b) (k : wr.grownBy w' (some b)) : NrI w w' b m mc KA kn kc ov on v := by
 obtain ⟨xs, hx⟩ := h.ow
 exact ⟨gb_blk h.vb k (by omega), h.vk.keep (fun g hg => ⟨hg.1, Nat.lt_of_lt_of_le hg.2.1 k.size, hg.2.2⟩) (fun p hp => World.cell?_of_block (k.block p.block hp.2.1 (fun e => by injection e with e; exact hp.1 e))), h.rc, ⟨xs, own_put hx k (by omega)⟩, gb_blk h.mb k (by omega), gb_blk h.zb k (by omega), hd, grownBy_trans h.g k⟩
theorem NrI.post (h : NrI w wr b m mc KA kn kc ov on v) (hb : b < w.heap.size) (k : wr.grownBy w' (some (w.heap.size + 1))) {sv : Value} : NearPost w b m (.returned (.tuple #[.agg #[.int .i64 0, .slice KA kn kc], sv])) w' := by
 have hn : v.n = 0 := by
   cases h.rc <;> rfl
 exact ⟨v, _, _, rfl, h.rc, hn, h.vk.keep (fun g hg => ⟨hg.1, Nat.lt_of_lt_of_le hg.2.1 k.size⟩) (fun p hp => World.cell?_of_block (k.block p.block hp.2.1 (fun e => by injection e with e; exact hp.2.2.1 e))), h.d.grown k (fun r e => by injection e with e; omega), gb_past h.g k (fun r e => by injection e with e; omega)⟩
end
theorem rch_cfg {m : Mdl} {v : V} (h : Rch m v) : ∃ s cs, v = cfgV s cs := by cases h <;> exact ⟨_, _, rfl⟩
theorem pnear_any (m : Mdl) (hm : MdlOk m) (hn : NmOk m) (w : World) (b : Nat) (hd : DiceOk w b) (most : Nat) (h9 : most ≤ 64) (A1 A2 A3 A4 : Option Addr) (c1 c2 c3 c4 : Nat) (hM : MAt w (fun g => g ≠ b ∧ g < w.heap.size) (.slice A1 m.ss.length c1) (.slice A2 m.ps.length c2) (.slice A3 m.rs.length c3) (.slice A4 (1 + m.cs.length) c4) m) :
   Calls Tryz.prog 9 #[.pointer (some ⟨b, 0, none⟩), aggM (.slice A1 m.ss.length c1) (.slice A2 m.ps.length c2) (.slice A3 m.rs.length c3) (.slice A4 (1 + m.cs.length) c4), .int .i64 (most : Int)] w (NearPost w b m) := by
 have hbl := hd.lt
 have PKN : Hid (∀ W n, DiceOk W b → 1 ≤ n → n ≤ 100000 → Calls Tryz.prog 10 #[.pointer (some ⟨b, 0, none⟩), .int .i64 n] W (PickPost W b n)) := Lib.hid (fun W n h1 h2 h3 => ppick_any W b h1 n h2 h3)
 have CAl : Hid (∀ W v s, w.grownBy W (some b) → Rch m v → KB W W.heap.size s v.ks → ∃ R, (∀ l, R = some l → l.length ≤ 12 ∧ ∀ x ∈ l, Rch m x.v) ∧ Calls Tryz.prog 20 #[aggM (.slice A1 m.ss.length c1) (.slice A2 m.ps.length c2) (.slice A3 m.rs.length c3) (.slice A4 (1 + m.cs.length) c4), .agg #[.int .i64 0, s]] W (AllStPost W R)) := Lib.hid (fun W v s g hv hk => by
   obtain ⟨fs, fcs, rfl⟩ := rch_cfg hv
   refine ⟨allP fs fcs 0 m.rs, fun l hl => ⟨Nat.le_trans (allP_mem m.rs 0 hl).2.2 hn.len, fun x hx => ?_⟩, qAll_any m hm hn (by have := hn.len; omega) fs fcs (rch_ok hm hv) _ _ _ _ _ W (hM.keep (fun q hq => Nat.lt_of_lt_of_le hq.2 g.size) (fun p hp => World.cell?_of_block (g.block p.block hp.2 (fun e => by injection e with e; exact hp.1 e)))) hk⟩
   obtain ⟨r, hr, h1, h2, h3⟩ := (allP_mem m.rs 0 hl).1 x hx
   rw [h3]
   exact .step hv hr h1 h2)
 obtain ⟨i0, hi0, hz0, hz1, hz2⟩ := info_parts infoStepB
 have HD := Lib.hid hd
 have HMK := Lib.hid hM.k
 clear hd hM hm hn
 unfold aggM at *
 go_enter Tryz.func9, Tryz.ntmps9
 go_upto_region 3 with fail
 refine wp_world (fun W => Hid (NrI w W b m (mdA (.slice A1 m.ss.length c1) (.slice A2 m.ps.length c2) (.slice A3 m.rs.length c3) (.slice A4 (1 + m.cs.length) c4)) A4 (1 + m.cs.length) c4 (.slice none 0 0) 0 m.start)) (Lib.hid ?_) ?_
 · have B0 := ((Blk.new w 33 (mdA (.slice A1 m.ss.length c1) (.slice A2 m.ps.length c2) (.slice A3 m.rs.length c3) (.slice A4 (1 + m.cs.length) c4))).alloc (.cells #[.int .i64 0, .slice none 0 0] 31)).alloc (.cells #[.int .i64 0, .slice A4 (1 + m.cs.length) c4] 31)
   have B1 := (Blk.new (w.alloc (.cells (mdA (.slice A1 m.ss.length c1) (.slice A2 m.ps.length c2) (.slice A3 m.rs.length c3) (.slice A4 (1 + m.cs.length) c4)) 33)) 31 #[.int .i64 0, .slice none 0 0]).alloc (.cells #[.int .i64 0, .slice A4 (1 + m.cs.length) c4] 31)
   have B2 := Blk.new ((w.alloc (.cells (mdA (.slice A1 m.ss.length c1) (.slice A2 m.ps.length c2) (.slice A3 m.rs.length c3) (.slice A4 (1 + m.cs.length) c4)) 33)).alloc (.cells #[.int .i64 0, .slice none 0 0] 31)) 31 #[.int .i64 0, .slice A4 (1 + m.cs.length) c4]
   simp only [World.size_alloc] at B1 B2
   have gg : w.grownBy (((w.alloc (.cells (mdA (.slice A1 m.ss.length c1) (.slice A2 m.ps.length c2) (.slice A3 m.rs.length c3) (.slice A4 (1 + m.cs.length) c4)) 33)).alloc (.cells #[.int .i64 0, .slice none 0 0] 31)).alloc (.cells #[.int .i64 0, .slice A4 (1 + m.cs.length) c4] 31)) (some b) := grownBy_alloc (grownBy_alloc (grownBy_alloc (World.grownBy.refl _ _) _) _) _
   exact ⟨B2, HMK.out.keep (fun q hq => ⟨hq.1, by simp; omega, by omega, by omega, fun e => by cases e⟩) (fun p hp => World.cell?_of_block (gg.block p.block hp.2 (fun e => by injection e with e; exact hp.1 e))), .start, ⟨[], World.ownsRow_nil _ _ _ _⟩, B0, B1, ((HD.out.al _).al _).al _, gg⟩
 clear HD HMK
 intro W0 HW0
 have q1 : IntKind.i64.wrap ((most : Int) + 1) = (most : Int) + 1 := IntWalk.i64_in _ (by omega)
 have CP := Lib.hid (PKN.out W0 ((most : Int) + 1) HW0.out.d (by omega) (by omega))
 go_upto_region 4 with (go_at_call 10; go_must (refine CP.out.mono ?_; rintro e w1 ⟨r0, rfl, hr0, hd1, hg1⟩; (have HW1 := Lib.hid (HW0.out.st hbl hd1 hg1)); clear hd1 hg1))
 clear q1 CP HW0
 go_loopw [9, 10] (fun s9 s10 wr => ∃ (n on oc kn kc : Nat) (OA KA : Option Addr), s9 = .slice OA on oc ∧ s10 = .int .i64 n ∧ n ≤ 64 ∧ on + n ≤ 64 ∧ Hid (∃ v, NrI w wr b m (mdA (.slice A1 m.ss.length c1) (.slice A2 m.ps.length c2) (.slice A3 m.rs.length c3) (.slice A4 (1 + m.cs.length) c4)) KA kn kc (.slice OA on oc) on v)) (fun _ s10 _ => (intOf s10).toNat)
 case atStart => exact ⟨r0, 0, 0, _, _, none, _, rfl, rfl, by omega, by omega, Lib.hid ⟨_, HW1.out⟩⟩
 case round =>
   clear HW1
   obtain ⟨wo, hwo⟩ : ∃ wo, wo = wr := ⟨_, rfl⟩
   subst hwo
   obtain ⟨n, on, oc, kn, kc, OA, KA, rfl, rfl, hn1, hn2, HI⟩ := hrel
   obtain ⟨v, hI⟩ := HI.out
   have hwz := hI.g.size
   have hwz2 := hI.vb.lt
   have HROW : Hid (∀ r, (Value.slice OA on oc).ownBlock = some r → w.heap.size + 3 ≤ r ∧ r < wo.heap.size) := Lib.hid (by obtain ⟨xs, hx⟩ := hI.ow; exact fun r e => hx.lt r e)
   by_cases hn0 : n = 0
   · subst hn0
     have hr := hI.zb
     obtain ⟨rl, r0, r1⟩ := hr.c2
     have f0 := hr.frozen 0
     have f1 := hr.frozen 1
     obtain ⟨vl, v0, v1⟩ := hI.vb.c2
     have HR1 := Lib.hid hr
     have HFI := Lib.hid hI
     clear hr
     go_wp2_with fail
     obtain ⟨hbb, hgr⟩ := blk2 (v0 := .int .i64 0) (v1 := .slice KA kn kc) HR1.out
     refine bodyPost_ret (rrow1 (p := 6) (q := 7) (ty := 31) rfl _ _ (w.heap.size + 1) _ _ rfl (run_loadVar_row _ _ 31 31 _ (0, 0) _ hbb Tryz.underlying31 rfl (by kernel_rfl)) rfl) rfl ?_
     exact HFI.out.post hbl hgr
   · have hn3 : (0 : Int) < (n : Int) := by omega
     obtain ⟨R, hR, hcall⟩ := CAl.out wo v (.slice KA kn kc) hI.g hI.rc (hI.vk.keep (fun q hq => hq.2.1) (fun _ _ => rfl))
     have CP := Lib.hid hcall
     have HR := Lib.hid hR
     have HI2 := Lib.hid hI
     obtain ⟨ml, m0, m1, m2, m3, m4, m5, m6, m7, m8, m9⟩ := hI.mb.c10
     obtain ⟨vl, v0, v1⟩ := hI.vb.c2
     clear hI HI hR hcall
     go_wp2_with fail
     go_at_call 20
     refine CP.out.mono ?_
     rintro e w3 ⟨sv, er, rfl, hb3, hcase⟩
     clear ml m0 m1 m2 m3 m4 m5 m6 m7 m8 m9 vl v0 v1 CP CAl
     have hI3 := HI2.out.st hbl (HI2.out.d.bw hb3) (gb_bw (World.grownBy.refl _ _) hb3)
     rcases hcase with ⟨-, her⟩ | ⟨l, hl, rfl, ps, hea, hpe⟩
     · have he' : (er != 0) = true := by simpa using her
       have hr := hI3.zb
       obtain ⟨rl, r0, r1⟩ := hr.c2
       have f0 := hr.frozen 0
       have f1 := hr.frozen 1
       obtain ⟨vl, v0, v1⟩ := hI3.vb.c2
       have HR1 := Lib.hid hr
       have HFI := Lib.hid hI3
       clear hr
       go_wp2_with fail
       obtain ⟨hbb, hgr⟩ := blk2 (v0 := .int .i64 0) (v1 := .slice KA kn kc) HR1.out
       refine bodyPost_ret (rrow1 (p := 6) (q := 7) (ty := 31) rfl _ _ (w.heap.size + 1) _ _ rfl (run_loadVar_row _ _ 31 31 _ (0, 0) _ hbb Tryz.underlying31 rfl (by kernel_rfl)) rfl) rfl ?_
       exact HFI.out.post hbl hgr
     · obtain ⟨SA, sc, rfl, -, -⟩ := hea.form
       by_cases hp0 : ps.length = 0
       · have hp1 : ((ps.length : Int) == 0) = true := by simpa using hp0
         have hp2 : (ps.length : Int) = 0 := by omega
         have hr := hI3.zb
         obtain ⟨rl, r0, r1⟩ := hr.c2
         have f0 := hr.frozen 0
         have f1 := hr.frozen 1
         obtain ⟨vl, v0, v1⟩ := hI3.vb.c2
         have HR1 := Lib.hid hr
         have HFI := Lib.hid hI3
         clear hr
         go_wp2_with fail
         obtain ⟨hbb, hgr⟩ := blk2 (v0 := .int .i64 0) (v1 := .slice KA kn kc) HR1.out
         refine bodyPost_ret (rrow1 (p := 6) (q := 7) (ty := 31) rfl _ _ (w.heap.size + 1) _ _ rfl (run_loadVar_row _ _ 31 31 _ (0, 0) _ hbb Tryz.underlying31 rfl (by kernel_rfl)) rfl) rfl ?_
         exact HFI.out.post hbl hgr
       · have hp2 : ¬ ((ps.length : Int) = 0) := by omega
         have hp3 : ((ps.length : Int) == 0) = false := by simpa using hp2
         have HI3 := Lib.hid hI3
         have hl1 : 1 ≤ ps.length := by omega
         have HEA := Lib.hid (And.intro hea hpe)
         have hpn : ps.length ≤ 12 := by have := (HR.out l hl).1; rw [← hpe, List.length_map] at this; exact this
         have CP2 := Lib.hid (PKN.out w3 (ps.length : Int) hI3.d (by omega) (by omega))
         have HLX := Lib.hid (HR.out l hl).2
         clear hI3 hea hpe hl HR HI2
         go_wp2_with fail
         go_at_call 10
         refine CP2.out.mono ?_
         rintro e w4 ⟨r, rfl, hr, hd4, hg4⟩
         have hI4 := HI3.out.st hbl hd4 hg4
         have hrp : r < ps.length := by omega
         have hs3 := hb3.size
         have hea4 := HEA.out.1.keep (w' := w4) (S' := fun g => wo.heap.size ≤ g ∧ g < w3.heap.size) (fun q hq => hq) (fun p hp => World.cell?_of_block (hg4.block p.block hp.2 (fun e => by injection e with e; omega)))
         obtain ⟨sad, rfl, hsb, e0, e1, hkid⟩ := hea4.at_ hrp
         have hk2 : KAt w4 (fun g => wo.heap.size ≤ g ∧ g < w3.heap.size) ps[r].2 ps[r].1.v.ks := hkid (ps[r].2, ps[r].1.v.ks) (by simp [encS])
         obtain ⟨zA, zn, zc, hz, -⟩ := hk2.form
         have hRx : Rch m ps[r].1.v := HLX.out _ (by rw [← HEA.out.2]; exact List.mem_map.2 ⟨ps[r], List.getElem_mem hrp, rfl⟩)
         have hxn : ps[r].1.v.n = 0 := by obtain ⟨_, _, e⟩ := rch_cfg hRx; rw [e]; rfl
         have t0 : w4.cell? (sad.add (r * 3)) = some (.int .i64 ps[r].1.r) := e0 _ rfl
         have t1 : w4.cell? ⟨(sad.add (r * 3)).block, (sad.add (r * 3)).off + 1, none⟩ = some (.int .i64 0) := (e1 0 _ rfl).trans (by rw [hxn])
         have t2 : w4.cell? ⟨(sad.add (r * 3)).block, (sad.add (r * 3)).off + 2, none⟩ = some (.slice zA zn zc) := (e1 1 _ rfl).trans (by rw [hz])
         rw [hz] at hk2
         have HK2 := Lib.hid hk2
         have HRX := Lib.hid hRx
         have HI4 := Lib.hid hI4
         have HG4 := Lib.hid hg4
         clear hI4 hea4 e0 e1 hkid hk2 hz hRx hxn hsb hd4 hg4 CP2 HEA HLX
         generalize ps[r].1.v = x at *
         generalize ps[r].1.r = xr at *
         go_upto_region 9 with fail
         refine wp_world (fun W => Hid (NrI w W b m (mdA (.slice A1 m.ss.length c1) (.slice A2 m.ps.length c2) (.slice A3 m.rs.length c3) (.slice A4 (1 + m.cs.length) c4)) KA kn kc (.slice OA on oc) on v ∧ Blk W w4.heap.size 62 #[.int .i64 xr, .int .i64 0, .slice zA zn zc] ∧ KAt W (fun g => wo.heap.size ≤ g ∧ g < w3.heap.size) (.slice zA zn zc) x.ks ∧ w4.heap.size < W.heap.size)) (Lib.hid ⟨HI4.out.st hbl (HI4.out.d.al _) (grownBy_alloc (World.grownBy.refl _ _) _), Blk.new w4 _ _, HK2.out.keep (fun q hq => hq) (fun p hp => World.cell?_of_block (Below.heap_alloc w4 _ p.block (Nat.lt_of_lt_of_le hp.2 HG4.out.size))), by simp⟩) ?_
         clear t0 t1 t2
         have hg4s := HG4.out.size
         clear HI4 HK2
         intro W5 HW5
         obtain ⟨xs, hown⟩ := HW5.out.1.ow
         have hrow : ∀ r, (Value.slice OA on oc).ownBlock = some r → w.heap.size + 3 ≤ r ∧ r < wo.heap.size := HROW.out
         have HOA : Hid (∀ o, (W5.alloc o).ownsRow (w.heap.size + 3) 62 3 (.slice OA on oc) on xs) := Lib.hid (fun o => hown.alloc o)
         obtain ⟨sl, s0, s1, s2⟩ := HW5.out.2.1.c3
         obtain ⟨cl, k0, k1⟩ := HW5.out.1.vb.c2
         have kf0 := HW5.out.1.vb.frozen 0
         have kf1 := HW5.out.1.vb.frozen 1
         have hz5 := HW5.out.2.2.2
         have HRW := Lib.hid hrow
         clear hown hrow
         go_region_law (first
           | (refine step_append_any _ rfl (.tmp 46) (.tmp 48) 35 rfl (w.heap.size + 3) 62 i0 _ 3 40 Tryz.underlying35 hi0 hz0 hz1 hz2 rfl (by decide) (.slice OA on oc) on xs (by simp [Act.eval, Act.put]) (by exact own_kept_below (HOA.out _) (Bw.refl _).drew) (W5.heap.size + 1) (some ⟨W5.heap.size, 0, none⟩) 1 1 [.int .i64 xr, .int .i64 0, .slice zA zn zc] (by simp [Act.eval, Act.put]) (by exact (reads_new3 W5 _ _ _ _).drew) (stp3 _ _ _ _ _) (by unfold maxLen; omega) (by omega) (by simp; omega) ?_; intro v7 w7 hown7 hgr7 hl7; obtain ⟨A7, c7, rfl⟩ := own_form hown7; (have hb7 := (HW5.out.1.vb.alloc (.cells #[.int .i64 xr, .int .i64 0, .slice zA zn zc] 62)).drew.grown hgr7 (fun e => by have := HRW.out _ e.symm; omega)); (have y0 := hb7.cell 0); (have y1 := hb7.cell 1); (have y2 := hb7.frozen 0); (have y3 := hb7.frozen 1); (have y4 := hb7.lt); (have hs7 := (HW5.out.2.1.alloc (.cells #[.int .i64 xr, .int .i64 0, .slice zA zn zc] 62)).drew.grown hgr7 (fun e => by have := HRW.out _ e.symm; omega)); (have x0 := hs7.cell 0); (have x1 := hs7.cell 1); (have x2 := hs7.cell 2); (have x4 := hs7.lt); (have HB7 := Lib.hid (And.intro hb7 (And.intro hown7 (And.intro hgr7 hl7)))); clear hown7 hgr7 hl7 hb7 hs7))
         all_goals
           go_wp2
           go_roundw
           case rel =>
             have b2 := blk2 (v0 := .int .i64 0) (v1 := .slice zA zn zc) HB7.out.1
             have hgr := HB7.out.2.2.1
             have hz7 := hgr.size
             have hzb := b2.2.size
             have hzc : w7.heap.size ≤ ((w7.setCell ⟨w.heap.size + 1 + 1, 0, none⟩ (.int .i64 0)).setCell ⟨w.heap.size + 1 + 1, 1, none⟩ (.slice zA zn zc)).heap.size := b2.2.size
             have hzA : (W5.alloc (.cells #[.int .i64 xr, .int .i64 0, .slice zA zn zc] 62)).drew.heap.size = W5.heap.size + 1 := by
               show (W5.alloc (.cells #[.int .i64 xr, .int .i64 0, .slice zA zn zc] 62)).heap.size = _
               simp
             have hzB : (W5.alloc (.cells #[.int .i64 xr, .int .i64 0, .slice zA zn zc] 62)).heap.size = W5.heap.size + 1 := by simp
             rw [hzA] at hz7
             have hrw := HRW.out
             have hl7 := HB7.out.2.2.2
             rw [hzA] at hl7
             have hA : Bw W5 (W5.alloc (.cells #[.int .i64 xr, .int .i64 0, .slice zA zn zc] 62)).drew := ((Bw.refl W5).alloc _).drew
             refine ⟨n - 1, on + 1, c7, zn, zc, A7, zA, rfl, by congr 1; omega, by omega, by omega, Lib.hid ⟨x, b2.1, ?_, HRX.out, ⟨_, own_put HB7.out.2.1 b2.2 (by omega)⟩, ?_, ?_, ?_, ?_⟩⟩
             · refine HW5.out.2.2.1.keep (fun g hg => ⟨by omega, by omega, by omega, by omega, fun e => ?_⟩) (fun p hp => ?_)
               · rcases hl7 with h | h
                 · have := hrw g (h ▸ e); omega
                 · rw [h] at e; injection e with e; omega
               · exact (World.cell?_of_block (b2.2.block p.block (by omega) (fun e => by injection e with e; omega))).trans ((World.cell?_of_block (hgr.block p.block (by rw [hzA]; omega) (fun e => by have := hrw _ e.symm; omega))).trans (hA.b.cell (by omega)))
             · exact gb_blk (((HW5.out.1.mb.alloc _).drew).grown hgr (fun e => by have := hrw _ e.symm; omega)) b2.2 (by omega)
             · exact gb_blk (((HW5.out.1.zb.alloc _).drew).grown hgr (fun e => by have := hrw _ e.symm; omega)) b2.2 (by omega)
             · exact ((HW5.out.1.d.bw hA).grown hgr (fun r e => by have := hrw r e; omega)).grown b2.2 (fun r e => by injection e with e; omega)
             · exact gb_past (gb_past (gb_bw HW5.out.1.g hA) hgr (fun r e => by have := hrw r e; omega)) b2.2 (fun r e => by injection e with e; omega)
           case measure => simp [intOf]; omega
end
end Go.Proofs.YthhbkabdhkdafaaGreat
