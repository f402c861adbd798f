/- Part of a proof of coverSearches_holds. -/
import Derived.Test.YthhbkabdhkdafaaGreatVBqP
set_option linter.unusedSimpArgs false
set_option linter.unusedVariables false
set_option maxRecDepth 100000
set_option maxHeartbeats 16000000
namespace Go.Proofs.YthhbkabdhkdafaaGreat
section
open Go.RowKit
theorem qQuiet_any (m : Mdl) (hm : MdlOk m) (hn : NmOk m) (s : Int) (cs : List Int) (hv : oneP 8 m.t (cfgV s cs) = true) (sv pv rv kv s1 : Value) (w : World) (h : MB w w.heap.size sv pv rv kv m) (h1 : KB w w.heap.size s1 (cfgV s cs).ks) :
   Calls Tryz.prog 81 #[aggM sv pv rv kv, .agg #[.int .i64 0, s1]] w (fun e w' => e = .returned (.tuple #[.slice none 0 0, .int .i64 0]) ∧ Bw w w') := by
 obtain ⟨A1, c1, A2, c2, A3, c3, A4, c4, rfl, rfl, rfl, rfl⟩ := h.form
 obtain ⟨A5, n5, c5, rfl, _, _, _⟩ := h1.form
 have CK : Hid (∀ W, Bw w W → Calls Tryz.prog 44 #[aggM (.slice A1 m.ss.length c1) (.slice A2 m.ps.length c2) (.slice A3 m.rs.length c3) (.slice A4 (1 + m.cs.length) c4)] W (NumPost W 0)) := Lib.hid (fun W g => qKind_any m hm hn _ _ _ _ W (h.bw g))
 have CV : Hid (∀ W, Bw w W → Calls Tryz.prog 45 #[aggM (.slice A1 m.ss.length c1) (.slice A2 m.ps.length c2) (.slice A3 m.rs.length c3) (.slice A4 (1 + m.cs.length) c4), .agg #[.int .i64 0, .slice A5 n5 c5]] W (BoolPost W true)) := Lib.hid (fun W g => by
   have := qValid_any m hm hn (cfgV s cs) _ _ _ _ _ W (h.bw g) (h1.bw g)
   rwa [validM hm hv] at this)
 have BX := Lib.hid (box2 w 33 #[.int .i64 1, .slice A1 m.ss.length c1, .slice A2 m.ps.length c2, .slice none 0 0, .slice none 0 0, .int .i64 0, .int .i64 0, .slice A3 m.rs.length c3, .int .i64 0, .slice A4 (1 + m.cs.length) c4] 31 #[.int .i64 0, .slice A5 n5 c5])
 clear h h1 hm hn hv
 unfold aggM at *
 go_enter Tryz.func81, Tryz.ntmps81
 go_wp2_with (first
   | (go_at_call 44; go_must (refine (CK.out _ BX.out.1).mono ?_; rintro e w1 ⟨rfl, hg1⟩; (have HG1 := Lib.hid hg1); (obtain ⟨hw0, bb0, bb1⟩ := BX.out.2 _ (hg1)); (obtain ⟨ul, u0, u1, u2, u3, u4, u5, u6, u7, u8, u9⟩ := bb0.c10); (obtain ⟨vl, v0, v1⟩ := bb1.c2); (have HW0 := Lib.hid hw0); clear hw0 bb0 bb1; clear hg1))
   | (go_at_call 45; go_must (refine (CV.out _ HW0.out).mono ?_; rintro e w2 ⟨rfl, hg2⟩; (obtain ⟨hw0, bb0, bb1⟩ := BX.out.2 _ (HG1.out.trans hg2)); (obtain ⟨ul, u0, u1, u2, u3, u4, u5, u6, u7, u8, u9⟩ := bb0.c10); (obtain ⟨vl, v0, v1⟩ := bb1.c2); (have HW0 := Lib.hid hw0); clear hw0 bb0 bb1; clear hg2)))
 go_ret2
 exact ⟨rfl, HW0.out⟩
def aplL (r : Rul) (s : Int) (cs : List Int) : List V := if (applyP r s cs).2 = 0 then [(applyP r s cs).1] else []
def aplE (r : Rul) (s : Int) (cs : List Int) : Int := if (applyP r s cs).2 = 0 then 0 else if (applyP r s cs).2 = 18 then 0 else (applyP r s cs).2
def VsEPost (w : World) (l : List V) (er : Int) (e : Ending) (w' : World) : Prop := ∃ s, e = .returned (.tuple #[s, .int .i64 er]) ∧ KAt w' (fun b => w.heap.size ≤ b ∧ b < w'.heap.size) s l ∧ Bw w w'
theorem kat_oneW {w : World} {L : Nat} {x : V} {s : Value} (hL : L ≤ w.heap.size) (h : KAt w (fun b => L ≤ b ∧ b < w.heap.size) s x.ks) : KAt (w.alloc (.cells #[.int .i64 x.n, s] 31)) (fun b => L ≤ b ∧ b < (w.alloc (.cells #[.int .i64 x.n, s] 31)).heap.size) (.slice (some ⟨w.heap.size, 0, none⟩) 1 1) [x] :=
 VRow.kat (B := w.heap.size) (ss := [s]) ⟨own_new w 31 #[.int .i64 x.n, s] 2 (n := 1) rfl rfl, rfl, fun k h1 h2 => by
   obtain rfl : k = 0 := by simpa using h1
   exact h.keep (fun b hb => ⟨hb.1, by simp; omega, fun e => by injection e with e; simp at e; omega⟩) (fun p hp => World.cell?_of_block (Below.heap_alloc w _ p.block hp.2))⟩ hL
theorem qApply_any (m : Mdl) (hm : MdlOk m) (hn : NmOk m) (s : Int) (cs : List Int) (hv : oneP 8 m.t (cfgV s cs) = true) (i : Nat) (hi : i < m.rs.length) (sv pv rv kv s1 : Value) (w : World) (h : MB w w.heap.size sv pv rv kv m) (h1 : KB w w.heap.size s1 (cfgV s cs).ks) :
   Calls Tryz.prog 46 #[aggM sv pv rv kv, .int .i64 (i : Int), .agg #[.int .i64 0, s1]] w (VsEPost w (aplL m.rs[i] s cs) (aplE m.rs[i] s cs)) := by
 obtain ⟨A1, c1, A2, c2, A3, c3, A4, c4, rfl, rfl, rfl, rfl⟩ := h.form
 obtain ⟨A5, n5, c5, rfl, _, _, _⟩ := h1.form
 have CK : Hid (∀ W, Bw w W → Calls Tryz.prog 44 #[aggM (.slice A1 m.ss.length c1) (.slice A2 m.ps.length c2) (.slice A3 m.rs.length c3) (.slice A4 (1 + m.cs.length) c4)] W (NumPost W 0)) := Lib.hid (fun W g => qKind_any m hm hn _ _ _ _ W (h.bw g))
 have CV : Hid (∀ W, Bw w W → Calls Tryz.prog 45 #[aggM (.slice A1 m.ss.length c1) (.slice A2 m.ps.length c2) (.slice A3 m.rs.length c3) (.slice A4 (1 + m.cs.length) c4), .agg #[.int .i64 0, .slice A5 n5 c5]] W (BoolPost W true)) := Lib.hid (fun W g => by
   have := qValid_any m hm hn (cfgV s cs) _ _ _ _ _ W (h.bw g) (h1.bw g)
   rwa [validM hm hv] at this)
 have CA : Hid (∀ W, Bw w W → Calls Tryz.prog 84 #[aggM (.slice A1 m.ss.length c1) (.slice A2 m.ps.length c2) (.slice A3 m.rs.length c3) (.slice A4 (1 + m.cs.length) c4), .int .i64 (i : Int), .agg #[.int .i64 0, .slice A5 n5 c5]] W (VEPost W (applyP m.rs[i] s cs).1 (applyP m.rs[i] s cs).2)) := Lib.hid (fun W g => qapply_any m hm hn s cs hv i hi _ _ _ _ _ W (h.bw g) (h1.bw g))
 have BX := Lib.hid (box2 w 33 #[.int .i64 1, .slice A1 m.ss.length c1, .slice A2 m.ps.length c2, .slice none 0 0, .slice none 0 0, .int .i64 0, .int .i64 0, .slice A3 m.rs.length c3, .int .i64 0, .slice A4 (1 + m.cs.length) c4] 31 #[.int .i64 0, .slice A5 n5 c5])
 unfold aplL aplE
 have hcas := apply_cases m.rs[i] s cs
 generalize applyP m.rs[i] s cs = R at *
 obtain ⟨x, er⟩ := R
 have hx : er = 0 ∨ er = 1 ∨ er = 18 := by
   rcases hcas with ⟨_, _, e⟩ | ⟨_, _, e⟩ | ⟨_, e⟩ <;> injection e with _ e <;> simp [e]
 dsimp only at *
 have hi2 : (i : Int) < (m.rs.length : Int) := by omega
 clear h h1 hm hn hv hcas
 unfold aggM at *
 rcases hx with rfl | rfl | rfl
 · go_enter Tryz.func46, Tryz.ntmps46
   go_wp2_with (first
     | (go_at_call 44; go_must (refine (CK.out _ BX.out.1).mono ?_; rintro e w1 ⟨rfl, hg1⟩; (have HG1 := Lib.hid hg1); (obtain ⟨hw0, bb0, bb1⟩ := BX.out.2 _ (hg1)); (obtain ⟨ul, u0, u1, u2, u3, u4, u5, u6, u7, u8, u9⟩ := bb0.c10); (obtain ⟨vl, v0, v1⟩ := bb1.c2); (have HW0 := Lib.hid hw0); clear hw0 bb0 bb1; clear hg1))
     | (go_at_call 45; go_must (refine (CV.out _ HW0.out).mono ?_; rintro e w2 ⟨rfl, hg2⟩; (have HG2 := Lib.hid (HG1.out.trans hg2)); (obtain ⟨hw0, bb0, bb1⟩ := BX.out.2 _ (HG1.out.trans hg2)); (obtain ⟨ul, u0, u1, u2, u3, u4, u5, u6, u7, u8, u9⟩ := bb0.c10); (obtain ⟨vl, v0, v1⟩ := bb1.c2); (have HW0 := Lib.hid hw0); clear hw0 bb0 bb1; clear hg2))
     | (go_at_call 84; go_must (refine (CA.out _ HW0.out).mono ?_; rintro e w3 ⟨s3, rfl, hk3, hg3⟩; obtain ⟨A6, n6, c6, rfl, -⟩ := hk3.form; (have HK3 := Lib.hid (And.intro hk3 (HW0.out.trans hg3))); (have hsz := HW0.out.size); clear hk3; (obtain ⟨hw0, bb0, bb1⟩ := BX.out.2 _ ((HG2.out.trans hg3).alloc (.cells #[.int .i64 x.n, .slice A6 n6 c6] 31))); (obtain ⟨ul, u0, u1, u2, u3, u4, u5, u6, u7, u8, u9⟩ := bb0.c10); (obtain ⟨vl, v0, v1⟩ := bb1.c2); (have HW0 := Lib.hid hw0); clear hw0 bb0 bb1)))
   go_ret2
   refine ⟨_, rfl, ?_, (HK3.out.2.alloc _).alloc _⟩
   have hK := kat_oneW (w := w3.alloc (.cells #[.int .i64 x.n, .slice A6 n6 c6] 31)) (L := w.heap.size) (by simp; have := HK3.out.2.size; omega) (HK3.out.1.keep (fun b hb => ⟨by have := HW0.out.size; omega, by simp; omega⟩) (fun p hp => World.cell?_of_block (Below.heap_alloc _ _ p.block hp.2)))
   simp only [World.size_alloc] at hK ⊢
   exact hK
 · go_enter Tryz.func46, Tryz.ntmps46
   go_wp2_with (first
     | (go_at_call 44; go_must (refine (CK.out _ BX.out.1).mono ?_; rintro e w1 ⟨rfl, hg1⟩; (have HG1 := Lib.hid hg1); (obtain ⟨hw0, bb0, bb1⟩ := BX.out.2 _ (hg1)); (obtain ⟨ul, u0, u1, u2, u3, u4, u5, u6, u7, u8, u9⟩ := bb0.c10); (obtain ⟨vl, v0, v1⟩ := bb1.c2); (have HW0 := Lib.hid hw0); clear hw0 bb0 bb1; clear hg1))
     | (go_at_call 45; go_must (refine (CV.out _ HW0.out).mono ?_; rintro e w2 ⟨rfl, hg2⟩; (have HG2 := Lib.hid (HG1.out.trans hg2)); (obtain ⟨hw0, bb0, bb1⟩ := BX.out.2 _ (HG1.out.trans hg2)); (obtain ⟨ul, u0, u1, u2, u3, u4, u5, u6, u7, u8, u9⟩ := bb0.c10); (obtain ⟨vl, v0, v1⟩ := bb1.c2); (have HW0 := Lib.hid hw0); clear hw0 bb0 bb1; clear hg2))
     | (go_at_call 84; go_must (refine (CA.out _ HW0.out).mono ?_; rintro e w3 ⟨s3, rfl, hk3, hg3⟩; obtain ⟨A6, n6, c6, rfl, -⟩ := hk3.form; (have HK3 := Lib.hid (And.intro hk3 (HW0.out.trans hg3))); (have hsz := HW0.out.size); clear hk3; (obtain ⟨hw0, bb0, bb1⟩ := BX.out.2 _ ((HG2.out.trans hg3).alloc (.cells #[.int .i64 x.n, .slice A6 n6 c6] 31))); (obtain ⟨ul, u0, u1, u2, u3, u4, u5, u6, u7, u8, u9⟩ := bb0.c10); (obtain ⟨vl, v0, v1⟩ := bb1.c2); (have HW0 := Lib.hid hw0); clear hw0 bb0 bb1)))
   go_ret2
   exact ⟨_, rfl, KAt.nil _ _ (Nat.zero_le _), HK3.out.2.alloc _⟩
 · go_enter Tryz.func46, Tryz.ntmps46
   go_wp2_with (first
     | (go_at_call 44; go_must (refine (CK.out _ BX.out.1).mono ?_; rintro e w1 ⟨rfl, hg1⟩; (have HG1 := Lib.hid hg1); (obtain ⟨hw0, bb0, bb1⟩ := BX.out.2 _ (hg1)); (obtain ⟨ul, u0, u1, u2, u3, u4, u5, u6, u7, u8, u9⟩ := bb0.c10); (obtain ⟨vl, v0, v1⟩ := bb1.c2); (have HW0 := Lib.hid hw0); clear hw0 bb0 bb1; clear hg1))
     | (go_at_call 45; go_must (refine (CV.out _ HW0.out).mono ?_; rintro e w2 ⟨rfl, hg2⟩; (have HG2 := Lib.hid (HG1.out.trans hg2)); (obtain ⟨hw0, bb0, bb1⟩ := BX.out.2 _ (HG1.out.trans hg2)); (obtain ⟨ul, u0, u1, u2, u3, u4, u5, u6, u7, u8, u9⟩ := bb0.c10); (obtain ⟨vl, v0, v1⟩ := bb1.c2); (have HW0 := Lib.hid hw0); clear hw0 bb0 bb1; clear hg2))
     | (go_at_call 84; go_must (refine (CA.out _ HW0.out).mono ?_; rintro e w3 ⟨s3, rfl, hk3, hg3⟩; obtain ⟨A6, n6, c6, rfl, -⟩ := hk3.form; (have HK3 := Lib.hid (And.intro hk3 (HW0.out.trans hg3))); (have hsz := HW0.out.size); clear hk3; (obtain ⟨hw0, bb0, bb1⟩ := BX.out.2 _ ((HG2.out.trans hg3).alloc (.cells #[.int .i64 x.n, .slice A6 n6 c6] 31))); (obtain ⟨ul, u0, u1, u2, u3, u4, u5, u6, u7, u8, u9⟩ := bb0.c10); (obtain ⟨vl, v0, v1⟩ := bb1.c2); (have HW0 := Lib.hid hw0); clear hw0 bb0 bb1)))
   go_ret2
   exact ⟨_, rfl, KAt.nil _ _ (Nat.zero_le _), HK3.out.2.alloc _⟩
end
end Go.Proofs.YthhbkabdhkdafaaGreat
