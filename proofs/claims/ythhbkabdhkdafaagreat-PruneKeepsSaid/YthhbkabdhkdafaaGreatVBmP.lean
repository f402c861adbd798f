/- Part of a proof of pruneKeeps_holds. -/
import Derived.Test.YthhbkabdhkdafaaGreatVBiP
import Derived.Test.YthhbkabdhkdafaaGreatVBjP
import Derived.Test.YthhbkabdhkdafaaGreatVBlP
import Derived.ArgAppend
set_option linter.unusedSimpArgs false
set_option linter.unusedVariables false
set_option maxRecDepth 100000
set_option maxHeartbeats 16000000
namespace Go.Proofs.YthhbkabdhkdafaaGreat
section
open Go.RowKit
theorem IAt.clip {w : World} {S : Nat → Prop} {A : Option Addr} {n c : Nat} {l : List Int} (h : IAt w S (.slice A n c) l) : IAt w S (.slice A n n) l := by
 obtain ⟨A', n', c', e, h1, h2, h3, h4⟩ := h
 injection e with e1 e2 e3
 subst e1 e2 e3
 exact ⟨A, n, n, rfl, h1, Nat.le_refl _, by omega, h4⟩
theorem run_append_clip (w : World) (A : Option Addr) (n : Nat) (xs : List Int) (h : IB w w.heap.size (.slice A n n) xs) (hn : n ≤ 1000) (y : Int) (g : Nat) (hg : Blk w g 3 #[.int .i64 y]) (ty : TypeId) :
   ∃ v' w', (Builtin.append_ #[27, 27] ty #[.slice A n n, .slice (some ⟨g, 0, none⟩) 1 1]).run Tryz.prog w = .ok v' w' ∧ w'.ownsRow w.heap.size 3 1 v' (n + 1) (intVs (xs ++ [y])) ∧ Bw w w' := by
 obtain ⟨i0, hi, hz0, hz1, hz2⟩ := info_parts infoInt
 obtain ⟨A', n', c', e, ln, -, -, h4⟩ := h
 injection e with e1 e2 e3
 subst e1 e2 e3
 have hy : ∀ (j : Nat) (u : Value), [Value.int .i64 y][j]? = some u → w.cell? ((⟨g, 0, none⟩ : Addr).add j) = some u := fun j u hj => by
   rcases j with _ | j
   · have := hg.cell 0
     simp at hj this
     rw [← hj]; simpa [Addr.add] using this
   · simp at hj
 have hx : intVs (xs ++ [y]) = intVs xs ++ [.int .i64 y] := by simp [intVs]
 rw [hx]
 by_cases h0 : n = 0
 · subst h0
   obtain rfl : xs = [] := List.eq_nil_of_length_eq_zero ln
   cases A with
   | none =>
     obtain ⟨v', w', h1, h2, h3, -⟩ := run_append_own (P := Tryz.prog) w w.heap.size 27 ty 3 i0 _ 1 8 Tryz.underlying27 hi hz0 hz1 hz2 rfl (by decide) (.slice none 0 0) 0 [] (World.ownsRow_nil w _ _ _) ⟨g, 0, none⟩ 1 1 [.int .i64 y] rfl hy (by simp [Value.oneCell']) (by unfold maxLen; omega) (by omega) (Nat.le_refl _)
     exact ⟨v', w', h1, h2, ⟨h3.os, h3.tape, h3.output, h3.size, fun k hk => h3.block k hk (by simp [Value.ownBlock])⟩⟩
   | some a =>
     obtain ⟨v', w', h1, h2, h3⟩ := run_append_arg_grows (P := Tryz.prog) (w := w) 27 ty 3 i0 _ 1 8 Tryz.underlying27 hi hz0 hz1 hz2 rfl (by decide) a 0 0 [] rfl (by intro j u hj; simp at hj) ⟨g, 0, none⟩ 1 1 [.int .i64 y] rfl hy (by omega) (by unfold maxLen; omega) (by omega)
     exact ⟨v', w', h1, h2, ⟨h3.os, h3.tape, h3.output, h3.size, fun k hk => h3.block k hk (by simp)⟩⟩
 · obtain ⟨a, rfl, -, hc⟩ := h4 (by omega)
   obtain ⟨v', w', h1, h2, h3⟩ := run_append_arg_grows (P := Tryz.prog) (w := w) 27 ty 3 i0 _ 1 8 Tryz.underlying27 hi hz0 hz1 hz2 rfl (by decide) a n n (intVs xs) (by simp [intVs, ln]) (by
     intro j u hj
     rw [intVs, List.getElem?_map] at hj
     obtain ⟨x, hx, rfl⟩ := Option.map_eq_some_iff.1 hj
     obtain ⟨hj2, rfl⟩ := List.getElem?_eq_some_iff.1 hx
     exact hc j hj2) ⟨g, 0, none⟩ 1 1 [.int .i64 y] rfl hy (by omega) (by unfold maxLen; omega) (by omega)
   exact ⟨v', w', h1, h2, ⟨h3.os, h3.tape, h3.output, h3.size, fun k hk => h3.block k hk (by simp)⟩⟩
theorem op_clipI {o : Oper} {a : Act} {w : World} {K : Act → World → Prop} {Q : Exit → Act → World → Prop} (s x : Operand) (ho : o.op = .call { callee := .builtin .append, args := #[s, x], argTypes := #[27, 27] })
   (A : Option Addr) (n : Nat) (xs : List Int) (h : IB w w.heap.size (.slice A n n) xs) (hn : n ≤ 1000) (y : Int) (g : Nat) (hg : Blk w g 3 #[.int .i64 y]) (hs : a.eval s = .slice A n n) (hx : a.eval x = .slice (some ⟨g, 0, none⟩) 1 1)
   (hK : ∀ v' w', w'.ownsRow w.heap.size 3 1 v' (n + 1) (intVs (xs ++ [y])) → Bw w w' → K (a.put o.dst v') w') : o.wp Tryz.prog a w K Q := by
 obtain ⟨v', w', h1, h2, h3⟩ := run_append_clip w A n xs h hn y g hg o.type
 unfold Oper.wp execOp
 simp only [ho, resolve, invoke, builtin, Sem.run_bind, Sem.run_pure, Result.andThen_ok, List.map_toArray, List.map_cons, List.map_nil, hs, hx, h1]
 exact hK v' w' h2 h3
theorem wpList_clipI {ops : Array Oper} {rest : List Oper} {o : Oper} {a : Act} {w : World} {Q : Exit → Act → World → Prop} (hgd : o.guard = none) (s x : Operand) (ho : o.op = .call { callee := .builtin .append, args := #[s, x], argTypes := #[27, 27] })
   (A : Option Addr) (n : Nat) (xs : List Int) (h : IB w w.heap.size (.slice A n n) xs) (hn : n ≤ 1000) (y : Int) (g : Nat) (hg : Blk w g 3 #[.int .i64 y]) (hs : a.eval s = .slice A n n) (hx : a.eval x = .slice (some ⟨g, 0, none⟩) 1 1)
   (hK : ∀ v' w', w'.ownsRow w.heap.size 3 1 v' (n + 1) (intVs (xs ++ [y])) → Bw w w' → wpList Tryz.prog ops Q rest (a.put o.dst v') w') : wpList Tryz.prog ops Q (o :: rest) a w :=
 wpList_plain hgd fun _ hK2 => op_clipI s x ho A n xs h hn y g hg hs hx fun v' w' h1 h2 => hK2 _ _ (hK v' w' h1 h2)
theorem made_oneJ (z : Value) (hz : z.cells = #[z]) (n : Nat) : madeCells z.cells (n * 1) = (List.replicate n z).toArray := by
 rw [hz]
 apply Array.ext
 · rw [size_madeCells]; simp
 · intro i h1 h2
   simp [madeCells, Nat.mod_one]
theorem mkIntsJ (m : Nat) (h9 : m ≤ 1000) (W : World) : (Instr.makeSlice 27 (.int .i64 (m : Int)) (.int .i64 (m : Int))).run Tryz.prog W = .ok (.slice (some ⟨W.heap.size, 0, none⟩) m m) (W.alloc (.cells (intVs (List.replicate m 0)).toArray 3)) := by
 obtain ⟨i0, hi, hz0, hz1, hz2⟩ := info_parts infoInt
 rw [run_makeSlice W 27 3 i0 _ Tryz.underlying27 hi hz0 .i64 .i64 m m (by omega) (by omega) (by rw [hz1]; simp; omega) (by rw [hz2]; omega) (by omega), hz1]
 simp only [Int.toNat_natCast]
 rw [made_oneJ _ rfl]
 simp [intVs]
theorem mkRowsJ (m : Nat) (h9 : m ≤ 1000) (W : World) : (Instr.makeSlice 44 (.int .i64 (m : Int)) (.int .i64 (m : Int))).run Tryz.prog W = .ok (.slice (some ⟨W.heap.size, 0, none⟩) m m) (W.alloc (.cells (List.replicate m (Value.slice none 0 0)).toArray 27)) := by
 obtain ⟨i0, hi, hz0, hz1, hz2⟩ := info_parts infoInts
 rw [run_makeSlice W 44 27 i0 _ Tryz.underlying44 hi hz0 .i64 .i64 m m (by omega) (by omega) (by rw [hz1]; simp; omega) (by rw [hz2]; omega) (by omega), hz1]
 simp only [Int.toNat_natCast]
 rw [made_oneJ _ rfl]
theorem mxAmount_any (x : Int) (h : -1099511627776 ≤ x ∧ x ≤ 1099511627776) (w : World) : Calls Tryz.prog 275 #[.int .i64 x] w (NumPost w (x.natAbs : Int)) := by
 have q1 : IntKind.i64.wrap (-x) = -x := IntWalk.i64_in _ (by omega)
 go_enter Tryz.func275, Tryz.ntmps275
 go_wp2_with fail
 go_ret
 exact ⟨by
   show Ending.returned (.int .i64 (max x (-x))) = _
   rw [show max x (-x) = (x.natAbs : Int) by omega], Bw.refl _⟩
theorem mxDivisor_any (a0 b0 : Nat) (ha : a0 ≤ 1099511627776) (hb : b0 ≤ 1099511627776) (w : World) : Calls Tryz.prog 340 #[.int .i64 (a0 : Int), .int .i64 (b0 : Int)] w (NumPost w (Nat.gcd a0 b0 : Int)) := by
 go_enter Tryz.func340, Tryz.ntmps340
 go_wp2_with fail
 go_loopw [0, 1] (fun s0 s1 wi => ∃ a b : Nat, s0 = .int .i64 (a : Int) ∧ s1 = .int .i64 (b : Int) ∧ a ≤ 1099511627776 ∧ b ≤ 1099511627776 ∧ Hid (Nat.gcd a b = Nat.gcd a0 b0 ∧ Bw w wi)) (fun _ s1 _ => (intOf s1).toNat)
 case atStart => exact ⟨a0, b0, rfl, rfl, ha, hb, Lib.hid ⟨rfl, Bw.refl _⟩⟩
 case round =>
   obtain ⟨a, b, rfl, rfl, h1, h2, HB⟩ := hrel
   by_cases hb0 : b = 0
   · subst hb0
     go_wp2_with fail
     go_ret
     exact ⟨by rw [← HB.out.1, Nat.gcd_zero_right]; rfl, HB.out.2⟩
   · have hb1 : (0 : Int) < (b : Int) := by omega
     have hb2 : ((b : Int) == 0) = false := by simpa using hb0
     have hb3 : ¬ ((b : Int) = 0) := by omega
     have hbn : ¬ (b = 0) := hb0
     have hm := Nat.mod_lt a (Nat.pos_of_ne_zero hb0)
     have q1 : (a : Int).tmod (b : Int) = ((a % b : Nat) : Int) := by rw [Int.tmod_eq_emod_of_nonneg (by omega)]; rfl
     have q2 : IntKind.i64.wrap (((a % b : Nat) : Int)) = ((a % b : Nat) : Int) := IntWalk.i64_in _ (by omega)
     go_wp2_with fail
     go_quiet (fail)
     go_wp2_with fail
     go_roundw
     case rel => exact ⟨b, a % b, rfl, by rw [← Int.natCast_emod], h2, by omega, Lib.hid ⟨by rw [Nat.gcd_comm b, ← Nat.gcd_rec, Nat.gcd_comm]; exact HB.out.1, HB.out.2.drewN _⟩⟩
     case measure => simp [intOf]; omega
def gcdL (v : List Int) : Nat := v.foldl (fun g x => Nat.gcd g x.natAbs) 0
theorem gcdL_snoc (l : List Int) (x : Int) : gcdL (l ++ [x]) = Nat.gcd (gcdL l) x.natAbs := by simp [gcdL]
theorem prm_list (v : List Int) (f : Int → Int) (k : Nat) (h : k < v.length) : ((v.take k).map f ++ v.drop k)[k]? = some v[k] ∧ ((v.take k).map f ++ v.drop k).set k (f v[k]) = (v.take (k + 1)).map f ++ v.drop (k + 1) := by
 have hl : ((v.take k).map f).length = k := by simp; omega
 refine ⟨?_, ?_⟩
 · rw [List.getElem?_append_right (by omega), hl, Nat.sub_self, List.getElem?_drop]; simp [h]
 · rw [List.take_succ_eq_append_getElem h, List.drop_eq_getElem_cons h, List.map_append, List.set_append_right _ _ (by omega), hl, Nat.sub_self, List.set_cons_zero]; simp
theorem div_bd {x : Int} {G : Nat} (hg : 0 < G) (hd : ((G : Nat) : Int) ∣ x) (hx : -1000000 ≤ x ∧ x ≤ 1000000) : -1000000 ≤ x / (G : Int) ∧ x / (G : Int) ≤ 1000000 := by
 obtain ⟨q, rfl⟩ := hd
 rw [Int.mul_ediv_cancel_left _ (by omega)]
 have h1 := Nat.le_mul_of_pos_left q.natAbs hg
 have h2 : ((G : Int) * q).natAbs = G * q.natAbs := by rw [Int.natAbs_mul]; rfl
 omega
theorem mxPrim_any (v : List Int) (h0 : 0 < v.length) (h9 : v.length ≤ 6) (hb : ∀ x ∈ v, -1000000 ≤ x ∧ x ≤ 1000000) (hg : 0 < gcdL v) (hdv : ∀ x ∈ v, ((gcdL v : Nat) : Int) ∣ x) (hgb : ∀ k, gcdL (v.take k) ≤ 1000000) (s : Value) (w : World) (h : IB w w.heap.size s v) : Calls Tryz.prog 276 #[s] w (ColPost w (primP v)) := by
 obtain ⟨A, n, c, rfl, ln, bn, mn⟩ := h.form
 subst ln
 have AM : Hid (∀ x ∈ v, ∀ W, Calls Tryz.prog 275 #[.int .i64 x] W (NumPost W (x.natAbs : Int))) := Lib.hid (fun x hx W => mxAmount_any x (by have := hb x hx; omega) W)
 have DV : Hid (∀ (a b : Nat), a ≤ 1000000 → b ≤ 1000000 → ∀ W, Calls Tryz.prog 340 #[.int .i64 (a : Int), .int .i64 (b : Int)] W (NumPost W (Nat.gcd a b : Int))) := Lib.hid (fun a b h1 h2 W => mxDivisor_any a b (by omega) (by omega) W)
 have HI := Lib.hid h
 have HB := Lib.hid (And.intro hb (And.intro hg (And.intro hdv hgb)))
 clear h hb hdv hgb
 go_enter Tryz.func276, Tryz.ntmps276
 go_upto_region 3 with fail
 go_loopw [3, 10] (fun s3 i wr => ∃ k : Nat, k ≤ v.length ∧ i = .int .i64 (k : Int) ∧ s3 = .int .i64 ((gcdL (v.take k) : Nat) : Int) ∧ Hid (Bw w wr)) (fun _ i _ => v.length - (intOf i).toNat)
 case atStart => exact ⟨0, by omega, rfl, rfl, Lib.hid (Bw.refl _)⟩
 case round =>
   obtain ⟨wo, hwo⟩ : ∃ wo, wo = wr := ⟨_, rfl⟩
   subst hwo
   obtain ⟨k, hk, rfl, rfl, HW⟩ := hrel
   by_cases hlt : k < v.length
   · have hlt' : (k : Int) < (v.length : Int) := by omega
     obtain ⟨ad, rfl, hb1, z1⟩ := (HI.out.bw HW.out).at_ hlt
     have hx := HB.out.1 _ (List.getElem_mem hlt)
     have C1 := Lib.hid (AM.out _ (List.getElem_mem hlt))
     have C2 := Lib.hid (DV.out (gcdL (v.take k)) v[k].natAbs (HB.out.2.2.2 k) (by omega))
     have HS : Hid (gcdL (v.take (k + 1)) = Nat.gcd (gcdL (v.take k)) v[k].natAbs) := Lib.hid (by rw [List.take_succ_eq_append_getElem hlt, gcdL_snoc])
     generalize v[k] = x at *
     generalize gcdL (v.take k) = g0 at *
     clear AM DV
     go_wp2_with (first
       | (go_at_call 275; go_must (refine (C1.out _).mono ?_; rintro e w1 ⟨rfl, hg1⟩; (have HG1 := Lib.hid hg1); clear hg1))
       | (go_at_call 340; go_must (refine (C2.out _).mono ?_; rintro e w2 ⟨rfl, hg2⟩; (have HG2 := Lib.hid (HG1.out.trans hg2)); clear hg2)))
     go_roundw
     case rel => exact ⟨k + 1, by omega, by go_num, by rw [HS.out], Lib.hid (HW.out.trans HG2.out)⟩
     case measure => simp [intOf]; omega
   · obtain rfl : k = v.length := by omega
     rw [List.take_of_length_le (Nat.le_refl _)] at *
     have CL := Lib.hid (clone_any A v.length c v wo (by unfold IsAt; exact (HI.out.bw HW.out).reads) rfl h0 (by omega))
     have hG := hg
     clear AM DV
     go_upto_region 9 with (go_at_call 29; go_must (refine CL.out.mono ?_; rintro e w1 ⟨g, cap, rfl, ho, hb1⟩; (have HO := Lib.hid (And.intro ho hb1)); clear ho hb1))
     generalize hGG : gcdL v = G at *
     go_loopw [23] (fun i wr => ∃ k : Nat, k ≤ v.length ∧ i = .int .i64 (k : Int) ∧ Hid (wr.ownsRow wo.heap.size 3 1 (.slice (some ⟨g, 0, none⟩) v.length cap) v.length (intVs ((v.take k).map (fun x => x / ((G : Nat) : Int)) ++ v.drop k)) ∧ Below wo.heap.size wo wr)) (fun i _ => v.length - (intOf i).toNat)
     case atStart => exact ⟨0, by omega, rfl, Lib.hid ⟨by simpa using HO.out.1, HO.out.2⟩⟩
     case round =>
       obtain ⟨wp, hwp⟩ : ∃ wp, wp = wr := ⟨_, rfl⟩
       subst hwp
       obtain ⟨k, hk, rfl, HR⟩ := hrel
       by_cases hlt : k < v.length
       · have hlt' : (k : Int) < (v.length : Int) := by omega
         have hx := HB.out.1 _ (List.getElem_mem hlt)
         have hd := HB.out.2.2.1 _ (List.getElem_mem hlt)
         have z1 : wp.cell? ⟨g, k, none⟩ = some (.int .i64 v[k]) := (HR.out.1.cellAt k (by omega)).trans (by
           rw [intVs, List.getElem?_map, (prm_list v (fun x => x / ((G : Nat) : Int)) k hlt).1]; rfl)
         have z2 := HR.out.1.frozenAt k
         have z3 := (HR.out.1.lt g rfl).2
         have HST : Hid ((intVs ((v.take k).map (fun x => x / ((G : Nat) : Int)) ++ v.drop k)).set k (.int .i64 (v[k] / ((G : Nat) : Int))) = intVs ((v.take (k + 1)).map (fun x => x / ((G : Nat) : Int)) ++ v.drop (k + 1))) := Lib.hid (by
           rw [← (prm_list v (fun x => x / ((G : Nat) : Int)) k hlt).2, intVs, intVs, List.map_set])
         have hq : (v[k]).tdiv ((G : Nat) : Int) = v[k] / ((G : Nat) : Int) := Int.tdiv_eq_ediv_of_dvd hd
         have hbq := div_bd hg hd hx
         generalize v[k] = x at *
         have w9 : IntKind.i64.wrap (x / (G : Int)) = x / (G : Int) := IntWalk.i64_in _ (by omega)
         have hgz : ((G : Int) == 0) = false := by simp; omega
         have hgz2 : ¬ ((G : Int) = 0) := by omega
         go_wp2_with fail
         have hst := HR.out.1.stored k (.int .i64 (x / (G : Int)))
         rw [HST.out] at hst
         exact ⟨⟨k + 1, by omega, by simp, Lib.hid ⟨hst.1, HR.out.2.setCell (p := ⟨g, k, none⟩) (HR.out.1.lt g rfl).1 _⟩⟩, by simp [intOf]; omega⟩
       · obtain rfl : k = v.length := by omega
         go_wp2_with fail
         go_ret
         have h1 := HR.out.1
         rw [List.take_of_length_le (Nat.le_refl _), List.drop_length, List.append_nil] at h1
         have hp : primP v = v.map (fun x => x / ((G : Nat) : Int)) := by unfold primP; rw [← hGG]; rfl
         have hl : (primP v).length = v.length := by rw [hp, List.length_map]
         unfold ColPost
         rw [hl, hp]
         exact ⟨_, _, rfl, own_base h1 HW.out.size, HW.out.trans HR.out.2⟩
end
structure LdOk (M : List (List Int)) (n j : Nat) (p : List Nat × List Nat) : Prop where
 len : p.1.length = p.2.length
 le : p.1.length ≤ j
 rn : ∀ r ∈ p.1, r < n
 cn : ∀ c ∈ p.2, c < j
 nz : detP M p.1 p.2 ≠ 0
theorem LdOk.next {M : List (List Int)} {n j : Nat} {p : List Nat × List Nat} (h : LdOk M n j p) : LdOk M n (j + 1) p :=
 ⟨h.len, by have := h.le; omega, h.rn, fun c hc => by have := h.cn c hc; omega, h.nz⟩
theorem LdOk.add {M : List (List Int)} {n j i : Nat} {rows cols : List Nat} (h : LdOk M n j (rows, cols)) (hi : i < n) (hd : detP M (rows ++ [i]) (cols ++ [j]) ≠ 0) : LdOk M n (j + 1) (rows ++ [i], cols ++ [j]) := by
 have h1 := h.len
 have h2 := h.le
 refine ⟨by simp; simpa using h1, by simp; simpa using h2, fun r hr => ?_, fun c hc => ?_, hd⟩
 · rcases List.mem_append.1 hr with h3 | h3
   · exact h.rn r h3
   · rw [List.mem_singleton.1 h3]; exact hi
 · rcases List.mem_append.1 hc with h3 | h3
   · have := h.cn c h3; omega
   · rw [List.mem_singleton.1 h3]; omega
theorem leadR_ok {M : List (List Int)} {n j : Nat} {rows cols : List Nat} (h : LdOk M n j (rows, cols)) : ∀ (is : List Nat), (∀ i ∈ is, i < n) → LdOk M n (j + 1) (leadR M rows cols j is)
 | [], _ => h.next
 | i :: is, hi => by
   rw [leadR]
   split
   · exact leadR_ok h is (fun x hx => hi x (by simp [hx]))
   · split
     · rename_i hd
       exact h.add (hi i (by simp)) hd
     · exact leadR_ok h is (fun x hx => hi x (by simp [hx]))
theorem leadP_succ (M : List (List Int)) (k : Nat) : leadP M (k + 1) = leadR M (leadP M k).1 (leadP M k).2 k (List.range M.length) := by
 unfold leadP; rw [List.range_succ, List.foldl_append]; rfl
theorem leadP_ok (M : List (List Int)) (n : Nat) (hn : M.length = n) : ∀ k, LdOk M n k (leadP M k)
 | 0 => ⟨rfl, Nat.le_refl _, fun r hr => by simp [leadP] at hr, fun r hr => by simp [leadP] at hr, by simp [leadP, detP]⟩
 | k + 1 => by rw [leadP_succ]; exact leadR_ok (leadP_ok M n hn k) _ (fun i hi => by rw [← hn]; exact List.mem_range.1 hi)
theorem range_drop {n i : Nat} (h : i < n) : (List.range n).drop i = i :: (List.range n).drop (i + 1) := by
 rw [List.drop_eq_getElem_cons (by simpa using h)]; simp
theorem range_end (n : Nat) : (List.range n).drop n = [] := List.drop_of_length_le (by simp)
def kernS (M : List (List Int)) (k : Nat) (rows cols : List Nat) (all : Int) (f i : Nat) : List Int :=
 (List.range i).foldl (fun v i => v.set (cols.getD i 0) (if all < 0 then detP M rows (cols.set i f) else -(detP M rows (cols.set i f)))) ((List.replicate k (0 : Int)).set f (all.natAbs : Int))
theorem kernS_succ (M : List (List Int)) (k : Nat) (rows cols : List Nat) (all : Int) (f i : Nat) : kernS M k rows cols all f (i + 1) = (kernS M k rows cols all f i).set (cols.getD i 0) (if all < 0 then detP M rows (cols.set i f) else -(detP M rows (cols.set i f))) := by
 unfold kernS; rw [List.range_succ, List.foldl_append]; rfl
theorem kernS_zero (M : List (List Int)) (k : Nat) (rows cols : List Nat) (all : Int) (f : Nat) : kernS M k rows cols all f 0 = (List.replicate k (0 : Int)).set f (all.natAbs : Int) := rfl
theorem kernS_len (M : List (List Int)) (k : Nat) (rows cols : List Nat) (all : Int) (f : Nat) : ∀ i, (kernS M k rows cols all f i).length = k
 | 0 => by simp [kernS]
 | i + 1 => by rw [kernS_succ, List.length_set]; exact kernS_len M k rows cols all f i
theorem kernS_bd {M : List (List Int)} {k : Nat} {rows cols : List Nat} {all : Int} {f : Nat} (ha : all.natAbs ≤ 1024) (hd : ∀ i, i < cols.length → (detP M rows (cols.set i f)).natAbs ≤ 1024) : ∀ i, i ≤ cols.length → ∀ x ∈ kernS M k rows cols all f i, -1024 ≤ x ∧ x ≤ 1024
 | 0, _, x, hx => by
   rw [kernS_zero] at hx
   rcases List.mem_or_eq_of_mem_set hx with h | h
   · have := List.eq_of_mem_replicate h; omega
   · omega
 | i + 1, hi, x, hx => by
   rw [kernS_succ] at hx
   rcases List.mem_or_eq_of_mem_set hx with h | h
   · exact kernS_bd ha hd i (by omega) x h
   · have := hd i (by omega)
     split at h <;> omega
theorem kernS_f {M : List (List Int)} {k : Nat} {rows cols : List Nat} {all : Int} {f : Nat} (hf : f < k) (hc : f ∉ cols) : ∀ i, i ≤ cols.length → (kernS M k rows cols all f i)[f]? = some (all.natAbs : Int)
 | 0, _ => by rw [kernS_zero]; simp [hf]
 | i + 1, hi => by
   rw [kernS_succ, List.getElem?_set_ne, kernS_f hf hc i (by omega)]
   intro e
   have h1 : cols.getD i 0 = cols[i] := by simp [List.getD, (by omega : i < cols.length)]
   rw [h1] at e
   exact hc (e ▸ List.getElem_mem (by omega))
theorem gcdL_all : ∀ (l : List Int), (∀ x ∈ l, ((gcdL l : Nat) : Int) ∣ x) := by
 have key : ∀ (l : List Int) (g : Nat), (l.foldl (fun g x => Nat.gcd g x.natAbs) g) ∣ g ∧ ∀ x ∈ l, ((l.foldl (fun g x => Nat.gcd g x.natAbs) g : Nat) : Int) ∣ x := by
   intro l
   induction l with
   | nil => intro g; simp
   | cons a l ih =>
     intro g
     obtain ⟨h1, h2⟩ := ih (Nat.gcd g a.natAbs)
     refine ⟨Nat.dvd_trans h1 (Nat.gcd_dvd_left _ _), fun x hx => ?_⟩
     rcases List.mem_cons.1 hx with rfl | hx
     · exact Int.ofNat_dvd_left.2 (Nat.dvd_trans h1 (Nat.gcd_dvd_right _ _))
     · exact h2 x hx
 intro l
 exact (key l 0).2
theorem gcdL_pos {l : List Int} {x : Int} (hx : x ∈ l) (h0 : x ≠ 0) : 0 < gcdL l := by
 rcases Nat.eq_zero_or_pos (gcdL l) with h | h
 · have := gcdL_all l x hx
   rw [h] at this
   simp at this
   exact absurd this h0
 · exact h
theorem gcdL_le {B : Nat} {l : List Int} (h : ∀ x ∈ l, x.natAbs ≤ B) : gcdL l ≤ B := by
 have key : ∀ (l : List Int) (g : Nat), g ≤ B → (∀ x ∈ l, x.natAbs ≤ B) → l.foldl (fun g x => Nat.gcd g x.natAbs) g ≤ B := by
   intro l
   induction l with
   | nil => intro g hg _; exact hg
   | cons a l ih =>
     intro g hg hl
     refine ih _ ?_ (fun x hx => hl x (by simp [hx]))
     rcases Nat.eq_zero_or_pos g with h0 | h0
     · subst h0; show Nat.gcd 0 a.natAbs ≤ B; rw [Nat.gcd_zero_left]; exact hl a (by simp)
     · exact Nat.le_trans (Nat.gcd_le_left _ h0) hg
 exact key l 0 (Nat.zero_le _) h
def kernL (M : List (List Int)) (k : Nat) (rows cols : List Nat) (i : Nat) : List (List Int) :=
 ((List.range i).filter fun f => !cols.contains f).map fun f => primP (kernV M k rows cols (detP M rows cols) f)
theorem kernL_succ (M : List (List Int)) (k : Nat) (rows cols : List Nat) (i : Nat) : kernL M k rows cols (i + 1) = if i ∈ cols then kernL M k rows cols i else kernL M k rows cols i ++ [primP (kernV M k rows cols (detP M rows cols) i)] := by
 unfold kernL
 rw [List.range_succ, List.filter_append, List.map_append]
 by_cases h : i ∈ cols
 · rw [if_pos h]; simp [h]
 · rw [if_neg h]; simp [h]
theorem kernP_eq (M : List (List Int)) (k : Nat) : kernP M k = kernL M k (leadP M k).1 (leadP M k).2 k := rfl
/-! ### supports -/
def bitB (s i : Nat) : Bool := decide (s >>> i % 2 = 1)
def cntB (s i : Nat) : Nat := ((List.range i).filter (bitB s)).length
theorem cntB_succ (s i : Nat) : cntB s (i + 1) = if bitB s i then cntB s i + 1 else cntB s i := by
 unfold cntB; rw [List.range_succ, List.filter_append]
 cases h : bitB s i <;> simp [h]
theorem cntB_mono (s : Nat) {i j : Nat} (h : i ≤ j) : cntB s i ≤ cntB s j := by
 induction j with
 | zero => obtain rfl : i = 0 := by omega
           exact Nat.le_refl _
 | succ j ih =>
   by_cases e : i = j + 1
   · subst e; exact Nat.le_refl _
   · have := ih (by omega)
     rw [cntB_succ]; split <;> omega
theorem setRows_bit (c : List (List Int)) (s : Nat) : setRows c s = ((List.range c.length).filter (bitB s)).map fun i => c.getD i [] := rfl
theorem setRows_len (c : List (List Int)) (s : Nat) : (setRows c s).length = cntB s c.length := by rw [setRows_bit, List.length_map]; rfl
def setR (c : List (List Int)) (s i : Nat) : List (List Int) := ((List.range i).filter (bitB s)).map fun i => c.getD i []
theorem setR_succ (c : List (List Int)) (s i : Nat) : setR c s (i + 1) = if bitB s i then setR c s i ++ [c.getD i []] else setR c s i := by
 unfold setR; rw [List.range_succ, List.filter_append, List.map_append]
 cases h : bitB s i <;> simp [h]
def fillA (s : Nat) (l : List Int) (i : Nat) : List Int := (List.range i).map fun j => if bitB s j then l.getD (cntB s j) 0 else 0
theorem fillA_succ (s : Nat) (l : List Int) (i : Nat) : fillA s l (i + 1) = fillA s l i ++ [if bitB s i then l.getD (cntB s i) 0 else 0] := by
 unfold fillA; rw [List.range_succ, List.map_append]; rfl
theorem fillA_len (s : Nat) (l : List Int) (i : Nat) : (fillA s l i).length = i := by simp [fillA]
theorem fillP_eq (s : Nat) : ∀ (n i : Nat) (l : List Int), fillP s n i l = (List.range n).map fun j => if bitB s (i + j) then l.getD (cntB s (i + j) - cntB s i) 0 else 0
 | 0, i, l => rfl
 | n + 1, i, l => by
   rw [List.range_succ_eq_map, List.map_cons, List.map_map]
   by_cases h : s >>> i % 2 = 1
   · have hb : bitB s i = true := decide_eq_true h
     rw [fillP, if_pos h, fillP_eq s n (i + 1) l.tail]
     congr 1
     · simp [hb]
       cases l <;> rfl
     · apply List.map_congr_left
       intro j _
       simp only [Function.comp]
       rw [show i + 1 + j = i + (j + 1) by omega]
       have h1 := cntB_mono s (show i + 1 ≤ i + (j + 1) by omega)
       rw [cntB_succ, if_pos hb] at h1
       rw [cntB_succ, if_pos hb, show cntB s (i + (j + 1)) - cntB s i = (cntB s (i + (j + 1)) - (cntB s i + 1)) + 1 by omega]
       cases l <;> simp [List.getD]
   · have hb : bitB s i = false := decide_eq_false h
     rw [fillP, if_neg h, fillP_eq s n (i + 1) l]
     congr 1
     · simp [hb]
     · apply List.map_congr_left
       intro j _
       simp only [Function.comp]
       rw [show i + 1 + j = i + (j + 1) by omega, show cntB s (i + 1) = cntB s i by rw [cntB_succ, if_neg (by rw [hb]; decide)]]
theorem fillP_all (s n : Nat) (l : List Int) : fillP s n 0 l = fillA s l n := by
 rw [fillP_eq]
 unfold fillA
 apply List.map_congr_left
 intro j _
 rw [Nat.zero_add]
 rfl
def flowsS (c : List (List Int)) (k i : Nat) : List (List Int) := (List.range i).filterMap fun s => suppP c k (s + 1)
theorem flowsS_succ (c : List (List Int)) (k i : Nat) : flowsS c k (i + 1) = match suppP c k (i + 1) with | some y => flowsS c k i ++ [y] | none => flowsS c k i := by
 unfold flowsS
 rw [List.range_succ, List.filterMap_append]
 cases h : suppP c k (i + 1) <;> simp [h]
theorem flowsU_eq (c : List (List Int)) (k : Nat) : flowsU c k = flowsS c k (2 ^ c.length - 1) := rfl
theorem chkA_all (x : Int) (h : -2 ≤ x ∧ x ≤ 2) : chkA x = true := by
 rcases (by omega : x = -2 ∨ x = -1 ∨ x = 0 ∨ x = 1 ∨ x = 2) with rfl | rfl | rfl | rfl | rfl
 · exact chk23a
 · exact chk23b
 · exact chk23c
 · exact chk23d
 · exact chk23e
theorem flows_ok {c : List (List Int)} {k : Nat} (hn : 1 ≤ c.length ∧ c.length ≤ 2) (hk : 1 ≤ k ∧ k ≤ 3) (hl : ∀ r ∈ c, r.length = k) (hb : ∀ r ∈ c, ∀ x ∈ r, -2 ≤ x ∧ x ≤ 2) : ∀ y ∈ flowsU c k, okFlow c k y = true := by
 match c, hn, hl, hb with
 | [], hn, _, _ => simp at hn
 | [a], _, hl, hb =>
   refine flows_one (fun k h1 h3 => ?_) hk.1 hk.2 (hl a (by simp)) (hb a (by simp))
   rcases (by omega : k = 1 ∨ k = 2 ∨ k = 3) with rfl | rfl | rfl
   · exact chk11
   · exact chk12
   · exact chk13
 | [a, b], _, hl, hb =>
   by_cases h3 : k ≤ 2
   · refine flows_two (fun k h1 h2 => ?_) hk.1 h3 (hl a (by simp)) (hl b (by simp)) (hb a (by simp)) (hb b (by simp))
     rcases (by omega : k = 1 ∨ k = 2) with rfl | rfl
     · exact chk21
     · exact chk22
   · obtain rfl : k = 3 := by omega
     have la := hl a (by simp)
     have lb := hl b (by simp)
     have ba := hb a (by simp)
     have bb := hb b (by simp)
     match a, la, ba with
     | x :: r, la, ba =>
       have h := chkA_all x (ba x (by simp))
       unfold chkA at h
       have h1 := List.all_eq_true.1 h r (mem_vecs 2 r (by simpa using la) (fun z hz => ba z (by simp [hz])))
       have h2 := List.all_eq_true.1 h1 b (mem_vecs 3 b lb bb)
       exact List.all_eq_true.1 h2
 | _ :: _ :: _ :: _, hn, _, _ => simp at hn
theorem chg_len (m : Mdl) : (chgT m).length = m.ps.length := by simp [chgT]
theorem chg_row {m : Mdl} (h : CtOk m) : ∀ r ∈ chgT m, r.length = m.rs.length ∧ ∀ x ∈ r, -2 ≤ x ∧ x ≤ 2 := by
 intro r hr
 obtain ⟨i, hi, rfl⟩ := List.mem_map.1 hr
 have hi' : i < m.ps.length := by simpa using hi
 refine ⟨by simp, fun x hx => ?_⟩
 obtain ⟨q, hq, rfl⟩ := List.mem_map.1 hx
 have R := h.ru q hq
 have h1 := bd_getD R.g2 (j := i) (by rw [R.gl]; exact hi')
 have h2 := bd_getD R.n2 (j := i) (by rw [R.nl]; exact hi')
 omega
theorem chg_ok {m : Mdl} (h : CtOk m) : MxOk (chgT m) m.ps.length m.rs.length := by
 have h1 := h.pl
 have h2 := h.r1
 exact ⟨chg_len m, fun r hr => (chg_row h r hr).1, fun r hr x hx => by have := (chg_row h r hr).2 x hx; omega, by omega, by omega⟩
def flowsM (m : Mdl) : List (List Int) := flowsU (chgT m) m.rs.length
theorem flowsM_ok {m : Mdl} (h : CtOk m) : ∀ y ∈ flowsM m, okFlow (chgT m) m.rs.length y = true :=
 flows_ok (by rw [chg_len]; exact h.pl) h.r1 (fun r hr => (chg_row h r hr).1) (fun r hr => (chg_row h r hr).2)
structure IsFlow (m : Mdl) (y : List Int) : Prop where
 len : y.length = m.ps.length
 bd : ∀ x ∈ y, 0 ≤ x ∧ x ≤ 4
 zr : ∀ j, j < m.rs.length → dotI y (colP (chgT m) j) = 0
 ps : ∃ x ∈ y, 0 < x
theorem isFlow_of {m : Mdl} {y : List Int} (h : okFlow (chgT m) m.rs.length y = true) : IsFlow m y := by
 unfold okFlow at h
 simp only [Bool.and_eq_true, beq_iff_eq, List.all_eq_true, List.mem_range, List.any_eq_true, decide_eq_true_eq] at h
 exact ⟨by rw [h.1.1.1, chg_len], h.1.1.2, h.1.2, h.2⟩
theorem dot_le : ∀ {y a b : List Int}, (∀ x ∈ y, 0 ≤ x) → a.length = b.length → (∀ i, i < a.length → a.getD i 0 ≤ b.getD i 0) → dotI y a ≤ dotI y b
 | [], a, b, _, _, _ => by simp [dotI]
 | x :: y, [], [], _, _, _ => by simp
 | x :: y, p :: a, q :: b, h0, hl, h => by
   have ih := dot_le (y := y) (a := a) (b := b) (fun x hx => h0 x (by simp [hx])) (by simpa using hl) (fun i hi => by have := h (i + 1) (by simp; omega); simpa using this)
   have e : ∀ (u v : Int) (l r : List Int), dotI (u :: l) (v :: r) = u * v + dotI l r := fun u v l r => by simp [dotI]
   rw [e, e]
   have h1 := h0 x (by simp)
   have h2 := h 0 (by simp)
   have := Int.mul_le_mul_of_nonneg_left (show p ≤ q by simpa using h2) h1
   omega
theorem set_ne {n s : Nat} (hn : 1 ≤ n ∧ n ≤ 2) (h1 : 1 ≤ s) (h2 : s < 2 ^ n) : 1 ≤ cntB s n ∧ cntB s n ≤ n := by
 have hn' : n = 1 ∨ n = 2 := by omega
 rcases hn' with rfl | rfl
 · have : s = 1 := by omega
   subst this; decide
 · have : s = 1 ∨ s = 2 ∨ s = 3 := by omega
   rcases this with rfl | rfl | rfl <;> decide
theorem setR_ok {c : List (List Int)} {n k s : Nat} (ho : MxOk c n k) (hn : n ≤ 2) (h1 : 1 ≤ s) (h2 : s < 2 ^ n) : MxOk (setRows c s) (cntB s n) k ∧ cntB s n ≤ 2 := by
 have hs := set_ne (s := s) ⟨ho.n1.1, hn⟩ h1 h2
 have hm : ∀ r ∈ setRows c s, r ∈ c := fun r hr => by
   obtain ⟨i, hi, rfl⟩ := List.mem_map.1 hr
   have hi2 : i < c.length := by simpa using (List.mem_filter.1 hi).1
   rw [show c.getD i [] = c[i] by simp [List.getD, hi2]]
   exact List.getElem_mem hi2
 exact ⟨⟨by rw [setRows_len, ho.ln], fun r hr => ho.rw r (hm r hr), fun r hr => ho.en r (hm r hr), by omega, ho.k1⟩, by omega⟩
theorem trP_ok {c : List (List Int)} {n k : Nat} (ho : MxOk c n k) : MxOk (trP c k) k n := by
 refine ⟨by simp [trP], fun r hr => ?_, fun r hr x hx => ?_, ho.k1, ho.n1⟩
 · obtain ⟨j, _, rfl⟩ := List.mem_map.1 hr
   rw [colP, List.length_map, ho.ln]
 · obtain ⟨j, hj, rfl⟩ := List.mem_map.1 hr
   obtain ⟨q, hq, rfl⟩ := List.mem_map.1 hx
   have hj' : j < q.length := by rw [ho.rw q hq]; simpa using hj
   rw [show q.getD j 0 = q[j] by simp [List.getD, hj']]
   exact ho.en q hq _ (List.getElem_mem hj')
section
open Go.RowKit
def RgB (W0 : World) (row : Option Nat) (b : Bool) (W : World) : Prop := ∃ W9, Bw W0 W9 ∧ W9.grownBy W row ∧ (b = false → Bw W0 W)
theorem bw_gr0 {a b : World} (h : Bw a b) (row : Option Nat) : a.grownBy b row := ⟨h.os, h.tape, h.output, h.size, fun k hk _ => h.block k hk⟩
theorem RgB.start {W0 : World} {row : Option Nat} : RgB W0 row false W0.drew := ⟨W0.drew, (Bw.refl _).drew, World.grownBy.refl _ _, fun _ => (Bw.refl _).drew⟩
theorem RgB.bw {W0 W W' : World} {row : Option Nat} {b : Bool} (h : RgB W0 row b W) (g : Bw W W') : RgB W0 row b W' := by
 obtain ⟨W9, h1, h2, h3⟩ := h
 exact ⟨W9, h1, grownBy_trans h2 (bw_gr0 g row), fun e => (h3 e).trans g⟩
theorem RgB.size {W0 W : World} {row : Option Nat} {b : Bool} (h : RgB W0 row b W) : W0.heap.size ≤ W.heap.size := by
 obtain ⟨W9, h1, h2, _⟩ := h
 exact Nat.le_trans h1.size h2.size
theorem RgB.heap {W0 W : World} {row : Option Nat} {b : Bool} (h : RgB W0 row b W) {k : Nat} (hk : k < W0.heap.size) (hr : some k ≠ row) : W.heap[k]? = W0.heap[k]? := by
 obtain ⟨W9, h1, h2, _⟩ := h
 exact (h2.block k (Nat.lt_of_lt_of_le hk h1.size) hr).trans (h1.block k hk)
theorem RgB.cell {W0 W : World} {row : Option Nat} {b : Bool} (h : RgB W0 row b W) {p : Addr} (hk : p.block < W0.heap.size) (hr : some p.block ≠ row) : W.cell? p = W0.cell? p := World.cell?_of_block (h.heap hk hr)
def ApV (W0 : World) (row : Option Nat) (L q : Nat) (xs : List Value) (v : Value) (W : World) : Prop := ∃ (A7 : Option Addr) (c7 : Nat) (W9 : World), v = .slice A7 (q + 1) c7 ∧ Bw W0 W9 ∧ W9.grownBy W row ∧ W.ownsRow L 3 1 (.slice A7 (q + 1) c7) (q + 1) xs ∧ ((Value.slice A7 (q + 1) c7).ownBlock = row ∨ (Value.slice A7 (q + 1) c7).ownBlock = some W9.heap.size)
theorem ApV.bw {W0 W W' : World} {row : Option Nat} {L q : Nat} {xs : List Value} {v : Value} (h : ApV W0 row L q xs v W) (g : Bw W W') : ApV W0 row L q xs v W' := by
 obtain ⟨A7, c7, W9, h1, h2, h3, h4, h5⟩ := h
 exact ⟨A7, c7, W9, h1, h2, grownBy_trans h3 (bw_gr0 g row), own_kept_below h4 g.b, h5⟩
def apS (row : Option Nat) (j : Nat) (W W' : World) : Prop := if j = 18 then W.grownBy W' row else Bw W W'
def apV (W0 : World) (row : Option Nat) (L q : Nat) (xs : List Value) (OUT IV PT RV P4 GV GP GI P3 NV NP NI DV : Value) : Nat → Value → World → Prop
 | 0, v, _ => v = OUT
 | 1, v, _ => v = IV
 | 2, v, _ => v = OUT
 | 3, v, _ => v = IV
 | 4, v, _ => v = PT
 | 5, v, _ => v = RV
 | 6, v, _ => v = P4
 | 7, v, _ => v = GV
 | 8, v, _ => v = IV
 | 9, v, _ => v = GP
 | 10, v, _ => v = GI
 | 11, v, _ => v = P3
 | 12, v, _ => v = NV
 | 13, v, _ => v = IV
 | 14, v, _ => v = NP
 | 15, v, _ => v = NI
 | 16, v, _ => v = DV
 | 17, v, W => ∃ g, v = .slice (some ⟨g, 0, none⟩) 1 1 ∧ Blk W g 3 #[DV] ∧ W0.heap.size ≤ g
 | 18, v, W => ApV W0 row L q xs v W
 | 19, v, _ => v = PT
 | _, _, _ => True
theorem apV_st {W0 : World} {row : Option Nat} {L q : Nat} {xs : List Value} {OUT IV PT RV P4 GV GP GI P3 NV NP NI DV : Value} (hrow : ∀ r, row = some r → r < W0.heap.size) (k j : Nat) (v : Value) (W W' : World) (hk : k < 20) (hj : j < 20) (hkj : k ≠ j) (h : apV W0 row L q xs OUT IV PT RV P4 GV GP GI P3 NV NP NI DV k v W) (hs : apS row j W W') : apV W0 row L q xs OUT IV PT RV P4 GV GP GI P3 NV NP NI DV k v W' := by
 by_cases hj8 : j = 18
 · unfold apS at hs
   rw [if_pos hj8] at hs
   rcases (by omega : k = 17 ∨ k ≠ 17) with rfl | hk17
   · obtain ⟨g, h1, h2, h3⟩ := h
     exact ⟨g, h1, h2.grown hs (fun e => by have := hrow g e.symm; omega), h3⟩
   · rcases (by omega : k = 0 ∨ k = 1 ∨ k = 2 ∨ k = 3 ∨ k = 4 ∨ k = 5 ∨ k = 6 ∨ k = 7 ∨ k = 8 ∨ k = 9 ∨ k = 10 ∨ k = 11 ∨ k = 12 ∨ k = 13 ∨ k = 14 ∨ k = 15 ∨ k = 16 ∨ k = 19) with rfl | rfl | rfl | rfl | rfl | rfl | rfl | rfl | rfl | rfl | rfl | rfl | rfl | rfl | rfl | rfl | rfl | rfl <;> exact h
 · unfold apS at hs
   rw [if_neg hj8] at hs
   rcases (by omega : k = 17 ∨ k = 18 ∨ (k ≠ 17 ∧ k ≠ 18)) with rfl | rfl | hk17
   · obtain ⟨g, h1, h2, h3⟩ := h
     exact ⟨g, h1, h2.below hs.b h2.lt, h3⟩
   · exact ApV.bw h hs
   · rcases (by omega : k = 0 ∨ k = 1 ∨ k = 2 ∨ k = 3 ∨ k = 4 ∨ k = 5 ∨ k = 6 ∨ k = 7 ∨ k = 8 ∨ k = 9 ∨ k = 10 ∨ k = 11 ∨ k = 12 ∨ k = 13 ∨ k = 14 ∨ k = 15 ∨ k = 16 ∨ k = 19) with rfl | rfl | rfl | rfl | rfl | rfl | rfl | rfl | rfl | rfl | rfl | rfl | rfl | rfl | rfl | rfl | rfl | rfl <;> exact h
def chD (p : Nat) (r : Rul) : Int := r.give.getD p 0 - r.need.getD p 0
def mtA (n : Nat) (rs : List Rul) (i j : Nat) : List (List Int) := (List.range n).map fun p => if p < i then rs.map (chD p) else if p = i then (rs.take j).map (chD p) else []
theorem mtA_len (n : Nat) (rs : List Rul) (i j : Nat) : (mtA n rs i j).length = n := by simp [mtA]
theorem mtA_get {n : Nat} {rs : List Rul} {i j p : Nat} (h : p < n) : (mtA n rs i j)[p]? = some (if p < i then rs.map (chD p) else if p = i then (rs.take j).map (chD p) else []) := by
 unfold mtA; simp [h]
theorem mtA_ext {n : Nat} {rs : List Rul} {i j : Nat} {l : List (List Int)} (hl : l.length = n) (h : ∀ p, p < n → l[p]? = some (if p < i then rs.map (chD p) else if p = i then (rs.take j).map (chD p) else [])) : l = mtA n rs i j := by
 apply List.ext_getElem?
 intro p
 by_cases hp : p < n
 · rw [h p hp, mtA_get hp]
 · rw [List.getElem?_eq_none (by omega), List.getElem?_eq_none (by rw [mtA_len]; omega)]
theorem mtA_zero (n : Nat) (rs : List Rul) : List.replicate n [] = mtA n rs 0 0 :=
 mtA_ext (by simp) fun p hp => by
   rw [List.getElem?_replicate, if_pos hp, if_neg (by omega)]
   by_cases h : p = 0 <;> simp [h]
theorem mtA_row (n : Nat) (rs : List Rul) (i : Nat) : mtA n rs i rs.length = mtA n rs (i + 1) 0 :=
 mtA_ext (mtA_len _ _ _ _) fun p hp => by
   rw [mtA_get hp]
   by_cases h1 : p < i
   · rw [if_pos h1, if_pos (by omega)]
   · rw [if_neg h1]
     by_cases h2 : p = i
     · rw [if_pos h2, if_pos (by omega), List.take_length]
     · rw [if_neg h2, if_neg (by omega)]
       by_cases h3 : p = i + 1 <;> simp [h3]
theorem mtA_done (m : Mdl) : mtA m.ps.length m.rs m.ps.length 0 = chgT m := by
 symm
 refine mtA_ext (by simp [chgT]) fun p hp => ?_
 rw [if_pos hp]
 simp [chgT, hp, chD]
theorem mtA_at {n : Nat} {rs : List Rul} {i j : Nat} (hi : i < n) (hd : i < (mtA n rs i j).length) : (mtA n rs i j)[i] = (rs.take j).map (chD i) := by
 have := mtA_get (rs := rs) (i := i) (j := j) hi
 rw [List.getElem?_eq_getElem hd, if_neg (by omega), if_pos rfl] at this
 exact Option.some.inj this
theorem mtA_set {n : Nat} {rs : List Rul} {i j : Nat} (hi : i < n) (hj : j < rs.length) (hd : i < (mtA n rs i j).length) : (mtA n rs i j).set i ((mtA n rs i j)[i] ++ [chD i rs[j]]) = mtA n rs i (j + 1) := by
 rw [mtA_at hi hd]
 refine mtA_ext (by simp [mtA_len]) fun p hp => ?_
 rw [List.getElem?_set]
 by_cases h : i = p
 · subst h
   rw [if_pos rfl, if_pos hd, if_neg (by omega), if_pos rfl, List.take_succ_eq_append_getElem hj, List.map_append]
   rfl
 · rw [if_neg h, mtA_get hp]
   by_cases h1 : p < i
   · rw [if_pos h1, if_pos h1]
   · rw [if_neg h1, if_neg h1, if_neg (Ne.symm h), if_neg (Ne.symm h)]
theorem shNumbers_any (st : Int) (cs : List Int) (s : Value) (w : World) (h : KB w w.heap.size s (cfgV st cs).ks) (h9 : cs.length ≤ 1000) : Calls Tryz.prog 52 #[.agg #[.int .i64 0, s]] w (IntsF w cs) := by
 obtain ⟨A, n, c, rfl, ln, bn, mn⟩ := h.form
 unfold maxLen at mn
 obtain ⟨rfl, -⟩ := cfg_at h
 obtain ⟨P, hP⟩ := sliced_form A 1 (cs.length + 1) c 2
 rw [Nat.add_sub_cancel] at hP
 have hc := fun W => cutV_l A (cs.length + 1) c 1 (by omega) W
 have hq := h.part (k := 1) (m := cs.length + 1) (by omega) (Nat.le_refl _)
 rw [hP] at hc hq
 rw [show ((cfgV st cs).ks.take (cs.length + 1)).drop 1 = cs.map (fun c => V.mk c []) by rw [List.take_of_length_le (by simp [cfgV])]; rfl] at hq
 push_cast at hc
 have HK := Lib.hid hq
 clear h ln hq hP
 obtain ⟨i0, hi, hz0, hz1, hz2⟩ := info_parts infoInt
 go_enter Tryz.func52, Tryz.ntmps52
 go_wp2_with fail
 refine wp_world (fun W => Hid (Bw w W)) (Lib.hid ((Bw.refl _).alloc _)) ?_
 clear hc
 intro W HW
 go_loopw [3, 10] (fun s3 i wr => ∃ k : Nat, k ≤ cs.length ∧ i = .int .i64 (k : Int) ∧ Hid (wr.ownsRow w.heap.size 3 1 s3 k (intVs (cs.take k)) ∧ Bw w wr)) (fun _ i _ => cs.length - (intOf i).toNat)
 case atStart => exact ⟨0, by omega, rfl, Lib.hid ⟨World.ownsRow_nil _ _ _ _, HW.out⟩⟩
 case round =>
   obtain ⟨k, hk, rfl, HR⟩ := hrel
   obtain ⟨hv, hw⟩ := HR.out
   obtain ⟨VA, vc, rfl, _, _⟩ := own_bounds hv
   by_cases hlt : k < cs.length
   · have hlt' : (k : Int) < (cs.length : Int) := by omega
     have e1 : k < (cs.map (fun c => V.mk c [])).length := by rw [List.length_map]; exact hlt
     obtain ⟨ad, sA, sn, sc, rfl, hb, q0, q1, sl, hs⟩ := (HK.out.bw hw).at_ e1
     replace q0 : wr.cell? (ad.add (k * 2)) = some (.int .i64 cs[k]) := by rw [q0]; simp
     have HT : Hid (intVs (cs.take (k + 1)) = intVs (cs.take k) ++ [.int .i64 cs[k]]) := Lib.hid (by rw [List.take_succ_eq_append_getElem hlt, ← intVs_append]; rfl)
     have HV := Lib.hid hv
     have HW := Lib.hid hw
     have hsw := hw.size
     clear hs sl hv hw HR
     generalize cs[k] = x at *
     go_wp2_with (at_builtin; go_must (refine wpList_append_any _ rfl _ _ 27 rfl w.heap.size 3 i0 _ 1 8 Tryz.underlying27 hi hz0 hz1 hz2 rfl (by decide) (.slice VA k vc) k (intVs (cs.take k)) rfl ((HV.out.alloc _).alloc _) (wr.heap.size + 1 + 1) (some ⟨wr.heap.size + 1, 0, none⟩) 1 1 [.int .i64 x] rfl (by have := reads_new1 (wr.alloc (.cells #[.int .i64 x, .slice sA sn sc] 31)) x; simpa only [World.size_alloc] using this) (by simp [Value.oneCell']) (by unfold maxLen; omega) (by omega) (by simp; omega) ?_; intro v7 w7 hown7 hgr7 hl7; obtain ⟨A7, c7, rfl⟩ := own_form hown7; (have HO7 := Lib.hid hown7); (have HG7 := Lib.hid hgr7); clear hown7 hgr7 hl7))
     go_roundw
     case rel =>
       refine ⟨k + 1, by omega, by go_num, Lib.hid ⟨?_, ?_⟩⟩
       · rw [HT.out]; exact HO7.out
       · exact Below.trans ((HW.out.alloc _).alloc _) (below_own (Below.refl w.heap.size _) ((HV.out.alloc _).alloc _) HG7.out (by simp; omega))
     case measure => simp [intOf]; omega
   · obtain rfl : k = cs.length := by omega
     have HV := Lib.hid hv
     have HW := Lib.hid hw
     clear hv hw HR
     go_wp2
     go_ret
     refine ⟨_, rfl, ?_, HW.out⟩
     have := HV.out
     rwa [List.take_of_length_le (Nat.le_refl _)] at this
end
theorem limB_e (l : List V) : (limB l).2 = 0 ∨ (limB l).2 = 1 := by unfold limB; split <;> simp
end Go.Proofs.YthhbkabdhkdafaaGreat
