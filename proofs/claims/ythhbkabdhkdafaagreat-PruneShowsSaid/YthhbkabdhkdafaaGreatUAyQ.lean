/- Part of a proof of pruneShows_holds. -/
import Derived.Test.YthhbkabdhkdafaaGreatUAtQ
import Derived.Test.YthhbkabdhkdafaaGreatUAqQ
import Derived.Test.YthhbkabdhkdafaaGreatUAxQ
import Derived.Great.BuildSlice
import Derived.Deep.RegionLawGrows
set_option linter.unusedSimpArgs false
set_option linter.unusedVariables false
set_option maxRecDepth 100000
set_option maxHeartbeats 16000000
namespace Go.Proofs.YthhbkabdhkdafaaGreat
section
open Go.RowKit
theorem gb_past {a b c : World} {r row : Option Nat} (h : a.grownBy b r) (k : b.grownBy c row) (hr : ∀ g, row = some g → a.heap.size ≤ g) : a.grownBy c r :=
 ⟨k.os.trans h.os, k.tape.trans h.tape, k.output.trans h.output, Nat.le_trans h.size k.size, fun i hi hn => (k.block i (Nat.lt_of_lt_of_le hi h.size) (fun e => by have := hr i e.symm; omega)).trans (h.block i hi hn)⟩
theorem gb_blk {A W : World} {b g : Nat} {t : TypeId} {cs : Array Value} (h : Blk A g t cs) (hg : A.grownBy W (some b)) (hne : g ≠ b) : Blk W g t cs := h.grown hg (fun e => by injection e with e; exact hne e)
theorem gb_bw {a b c : World} {r : Option Nat} (h : a.grownBy b r) (k : Bw b c) : a.grownBy c r := gb_past h (grownBy_of_below k.b none) (fun g e => by cases e)
theorem DiceOk.bw {w w' : World} {b : Nat} (h : DiceOk w b) (g : Bw w w') : DiceOk w' b := h.below g.b h.lt
def DIntsF (w : World) (b n : Nat) (most : Int) (e : Ending) (w' : World) : Prop := ∃ (xs : List Int) (A : Option Addr) (c : Nat), e = .returned (.slice A n c) ∧ xs.length = n ∧ (∀ x ∈ xs, 0 ≤ x ∧ x ≤ most) ∧ w'.ownsRow w.heap.size 3 1 (.slice A n c) n (intVs xs) ∧ DiceOk w' b ∧ w.grownBy w' (some b)
theorem intVs_snoc (xs : List Int) (x : Int) : intVs (xs ++ [x]) = intVs xs ++ [.int .i64 x] := by simp [intVs]
theorem pints_any (w : World) (b : Nat) (hd : DiceOk w b) (n : Nat) (hn : n ≤ 1000) (most : Int) (h0 : 0 ≤ most) (h9 : most ≤ 1000) : Calls Tryz.prog 31 #[.pointer (some ⟨b, 0, none⟩), .int .i64 (n : Int), .int .i64 most] w (DIntsF w b n most) := by
 have hbl := hd.lt
 have PK : Hid (∀ W, DiceOk W b → Calls Tryz.prog 10 #[.pointer (some ⟨b, 0, none⟩), .int .i64 (most + 1)] W (PickPost W b (most + 1))) := Lib.hid (fun W h => ppick_any W b h (most + 1) (by omega) (by omega))
 obtain ⟨i0, hi, hz0, hz1, hz2⟩ := info_parts infoInt
 have HD := Lib.hid hd
 clear hd
 go_enter Tryz.func31, Tryz.ntmps31
 go_wp2
 go_loopw [7, 8] (fun s i wr => ∃ (k : Nat) (A : Option Addr) (c : Nat), k ≤ n ∧ i = .int .i64 k ∧ s = .slice A k c ∧ Hid (∃ xs : List Int, xs.length = k ∧ (∀ x ∈ xs, 0 ≤ x ∧ x ≤ most) ∧ wr.ownsRow w.heap.size 3 1 (.slice A k c) k (intVs xs) ∧ DiceOk wr b ∧ w.grownBy wr (some b))) (fun _ i _ => n - (intOf i).toNat)
 case atStart => exact ⟨0, none, 0, by omega, rfl, rfl, Lib.hid ⟨[], rfl, by simp, World.ownsRow_nil _ _ _ _, HD.out, World.grownBy.refl _ _⟩⟩
 case round =>
   clear HD
   obtain ⟨wo, hwo⟩ : ∃ wo, wo = wr := ⟨_, rfl⟩
   subst hwo
   obtain ⟨k, A, c, hk, rfl, rfl, HR⟩ := hrel
   obtain ⟨xs, hxl, hxb, ho, hdi, hg⟩ := HR.out
   by_cases hlt : k < n
   · have CP := Lib.hid (PK.out wo hdi)
     have HX := Lib.hid (And.intro hxl (And.intro hxb (And.intro ho hg)))
     have hsz := hg.size
     clear hxl hxb ho hdi hg HR
     go_wp2_with (first
       | (go_at_call 10; go_must (refine CP.out.mono ?_; rintro e w1 ⟨r, rfl, hr, hd1, hg1⟩; (have HD1 := Lib.hid hd1); (have HG1 := Lib.hid hg1); (have z1 : wo.heap.size ≤ w1.heap.size := hg1.size); (have HO1 := Lib.hid (own_put HX.out.2.2.1 hg1 hbl)); clear hd1 hg1))
       | (at_builtin; go_must (refine wpList_append_any _ rfl _ _ 27 rfl w.heap.size 3 i0 _ 1 8 Tryz.underlying27 hi hz0 hz1 hz2 rfl (by decide) (.slice A k c) k (intVs xs) rfl (HO1.out.alloc _) (w1.heap.size + 1) (some ⟨w1.heap.size, 0, none⟩) 1 1 [.int .i64 (r : Int)] rfl (reads_new1 w1 r) (by simp [Value.oneCell']) (by unfold maxLen; omega) (by omega) (by simp; omega) ?_; intro v7 w7 hown7 hgr7 hl7; obtain ⟨A7, c7, rfl⟩ := own_form hown7; (have HO7 := Lib.hid hown7); (have HG7 := Lib.hid hgr7); clear hown7 hgr7 hl7)))
     go_roundw
     case rel =>
       obtain ⟨x1, x2, x3, x4⟩ := HX.out
       have hrow : ∀ r, (Value.slice A k c).ownBlock = some r → w.heap.size ≤ r := fun r e => (HO1.out.lt r e).1
       refine ⟨k + 1, A7, c7, by omega, by go_num, rfl, Lib.hid ⟨xs ++ [(r : Int)], by simp [x1], fun x hx => ?_, ?_, ?_, ?_⟩⟩
       · rcases List.mem_append.1 hx with hx | hx
         · exact x2 x hx
         · rw [List.mem_singleton.1 hx]; omega
       · rw [intVs_snoc]; exact HO7.out
       · exact (HD1.out.bw ((Bw.refl _).alloc _)).grown HG7.out (fun r e => by have := hrow r e; omega)
       · exact gb_past (grownBy_alloc (grownBy_trans x4 HG1.out) _) HG7.out hrow
     case measure => simp [intOf]; omega
   · obtain rfl : k = n := by omega
     have HX := Lib.hid HR.out
     clear hxl hxb ho hdi hg HR
     go_wp2
     go_ret
     obtain ⟨xs, x1, x2, x3, x4, x5⟩ := HX.out
     exact ⟨xs, A, c, rfl, x1, x2, x3, x4, x5⟩
theorem wpList_bvals {P : Program} {ops : Array Oper} {rest : List Oper} {o : Oper} {a : Act} {w : World} {Q : Exit → Act → World → Prop} (hgd : o.guard = none) (t e : TypeId) (len : Nat) (parts : Array (Nat × Operand)) (ho : o.op = .buildSlice t len parts) (vs : List Value)
   (hu : P.underlying t = some (.slice e)) (hsz : (P.info? e).map (·.size) = some 1) (hz : ((P.info? e).bind (·.zero)).isSome = true)
   (hlen : len = vs.length) (hpos : 0 < len) (hsmall : len ≤ 2 ^ 24) (h1 : ∀ v ∈ vs, v.cells = #[v])
   (hparts : (parts.map fun (i, x) => (i, a.eval x)).toList = (vs.zipIdx 0).map fun x => (x.2, x.1))
   (h : wpList P ops Q rest (a.put o.dst (.slice (some ⟨w.heap.size, 0, none⟩) len len)) (w.alloc (.cells vs.toArray e))) : wpList P ops Q (o :: rest) a w := by
 cases hie : P.info? e with
 | none => simp [hie] at hsz
 | some ie =>
   simp only [hie, Option.map_some, Option.some.injEq, Option.bind_some] at hsz hz
   obtain ⟨z, hzz⟩ := Option.isSome_iff_exists.1 hz
   refine wpList_plain hgd fun _ hK => wp_buildSlice t e len parts ho _ ie z hu hie hzz (by rw [hsz]; omega) (by rw [hsz]; omega) ?_ (hK _ _ h)
   rw [hparts, hsz]
   exact Great.fill_flat _ _ h1 (by simp [hlen])
end
section
open Go.RowKit Go.Maps
def kwVals : List ByteArray := kw19.map fun l => ⟨l.toArray⟩
theorem kwB_vals (s : ByteArray) : kwVals.any (fun z => z.data.toList == s.data.toList) = kwB s.data.toList := by
 unfold kwVals kwB
 rw [List.any_map]
 rfl
theorem keyword_not (s : ByteArray) (w : World) (h : kwB s.data.toList = false) : Calls Tryz.prog 156 #[.string s] w (BoolPost w false) := by
 have CS : Hid (Calls Tryz.prog 225 #[.slice (some ⟨w.heap.size, 0, none⟩) 18 18, .string s] (w.alloc (.cells (kwVals.map Value.string).toArray 9)) fun e w' => e = .returned (.bool false) ∧ w.alloc (.cells (kwVals.map Value.string).toArray 9) = w') := Lib.hid (by
   have hb := Blk.new w 9 (kwVals.map Value.string).toArray
   have hr := reads_blk (B := w.heap.size + 1) (size := 1) (n := 18) hb (by omega) (by kernel_rfl)
   exact contStr_any _ 18 18 kwVals s _ (w.heap.size + 1) (by kernel_rfl) (by omega) (by simpa using hr) false (by rw [kwB_vals, h]))
 clear h
 go_enter Tryz.func156, Tryz.ntmps156
 go_wp2_with (first
   | (refine wpList_bvals rfl 26 9 18 _ rfl (kwVals.map Value.string) Tryz.underlying26 (by kernel_rfl) (by kernel_rfl) (by kernel_rfl) (by decide) (by decide) (fun v hv => by obtain ⟨x, _, rfl⟩ := List.mem_map.1 hv; rfl) (by kernel_rfl) ?_)
   | (go_at_call 225; go_must (refine CS.out.mono ?_; rintro e w6 ⟨rfl, rfl⟩)))
 go_ret
 exact ⟨rfl, (Bw.refl _).alloc _⟩
theorem nodup_take {l : List (List UInt8)} (h : l.Nodup) {k : Nat} (hk : k < l.length) : (l.take k).contains l[k] = false := by
 rw [Bool.eq_false_iff]
 intro hc
 rw [List.contains_iff_mem] at hc
 obtain ⟨j, hj, e⟩ := List.getElem_of_mem hc
 rw [List.length_take] at hj
 rw [List.getElem_take] at e
 have := (List.getElem_inj h).1 e
 omega
theorem mnamed_any (m : Mdl) (hm : MdlOk m) (hn : NmOk m) (sv pv rv kv : Value) (w : World) (h : MB w w.heap.size sv pv rv kv m) : Calls Tryz.prog 96 #[aggM sv pv rv kv] w (BoolPost w true) := by
 obtain ⟨A1, c1, A2, c2, A3, c3, A4, c4, rfl, rfl, rfl, rfl⟩ := h.form
 have hmm := @run_makeMap Tryz.prog
 have hb1 := hm.n1.2
 have hb2 := hm.k1.2
 have hb3 := hn.len
 have HN := Lib.hid hn
 unfold aggM
 clear hn hm
 generalize hnn : m.ss.length = n at h hb1 ⊢
 generalize hkk : m.ps.length = k0 at h hb2 ⊢
 generalize hqq : m.rs.length = q at h hb3 ⊢
 have HS := Lib.hid h.s
 have HP := Lib.hid h.p
 have HR := Lib.hid h.r
 have HNN := Lib.hid hnn
 have HKK := Lib.hid hkk
 have HQQ := Lib.hid hqq
 clear h hnn hkk hqq
 generalize 1 + m.cs.length = z at *
 obtain ⟨i0, hi, hz0, hz1, hz2⟩ := info_parts infoStr
 have W3B : Hid (Bw w (((w.alloc (.cells #[.int .i64 1, .slice A1 n c1, .slice A2 k0 c2, .slice none 0 0, .slice none 0 0, .int .i64 0, .int .i64 0, .slice A3 q c3, .int .i64 0, .slice A4 z c4] 33)).alloc (.map #[] 0)).alloc (.cells #[.slice A1 n c1, .slice A2 k0 c2, .slice none 0 0] 26))) := Lib.hid ((((Bw.refl _).alloc _).alloc _).alloc _)
 have CC : Hid (Calls Tryz.prog 154 #[.slice (some ⟨w.heap.size + 1 + 1, 0, none⟩) 3 3] (((w.alloc (.cells #[.int .i64 1, .slice A1 n c1, .slice A2 k0 c2, .slice none 0 0, .slice none 0 0, .int .i64 0, .int .i64 0, .slice A3 q c3, .int .i64 0, .slice A4 z c4] 33)).alloc (.map #[] 0)).alloc (.cells #[.slice A1 n c1, .slice A2 k0 c2, .slice none 0 0] 26)) (StrsF (((w.alloc (.cells #[.int .i64 1, .slice A1 n c1, .slice A2 k0 c2, .slice none 0 0, .slice none 0 0, .int .i64 0, .int .i64 0, .slice A3 q c3, .int .i64 0, .slice A4 z c4] 33)).alloc (.map #[] 0)).alloc (.cells #[.slice A1 n c1, .slice A2 k0 c2, .slice none 0 0] 26)) (m.ss ++ m.ps))) := Lib.hid (by
   have e : [m.ss, m.ps, []].flatten = m.ss ++ m.ps := by simp
   rw [← e]
   have hb := Blk.new ((w.alloc (.cells #[.int .i64 1, .slice A1 n c1, .slice A2 k0 c2, .slice none 0 0, .slice none 0 0, .int .i64 0, .int .i64 0, .slice A3 q c3, .int .i64 0, .slice A4 z c4] 33)).alloc (.map #[] 0)) 26 #[.slice A1 n c1, .slice A2 k0 c2, .slice none 0 0]
   rw [World.size_alloc, World.size_alloc] at hb
   refine concatS_any [m.ss, m.ps, []] (by rw [e, List.length_append, HNN.out, HKK.out]; omega) _ _ ⟨some ⟨w.heap.size + 1 + 1, 0, none⟩, 3, 3, [.slice A1 n c1, .slice A2 k0 c2, .slice none 0 0], rfl, rfl, rfl, by omega, by unfold maxLen; omega, fun _ => ⟨_, rfl, hb.lt, fun k hk => ?_⟩, fun k hk hk' => ?_⟩
   · have hk3 : k < 3 := by simpa using hk
     rw [add_zero_blk, hb.cell k]
     have : k = 0 ∨ k = 1 ∨ k = 2 := by omega
     rcases this with rfl | rfl | rfl <;> rfl
   · have hk3 : k < 3 := by simpa using hk
     have : k = 0 ∨ k = 1 ∨ k = 2 := by omega
     rcases this with rfl | rfl | rfl
     · exact HS.out.bw W3B.out
     · exact HP.out.bw W3B.out
     · exact ⟨none, 0, 0, rfl, rfl, Nat.le_refl _, Nat.zero_le _, fun h => absurd h (by omega)⟩)
 have S0 : Hid (SetAt ((w.alloc (.cells #[.int .i64 1, .slice A1 n c1, .slice A2 k0 c2, .slice none 0 0, .slice none 0 0, .int .i64 0, .int .i64 0, .slice A3 q c3, .int .i64 0, .slice A4 z c4] 33)).alloc (.map #[] 0)) (w.heap.size + 1) []) := Lib.hid (by
   have := SetAt.new (w.alloc (.cells #[.int .i64 1, .slice A1 n c1, .slice A2 k0 c2, .slice none 0 0, .slice none 0 0, .int .i64 0, .int .i64 0, .slice A3 q c3, .int .i64 0, .slice A4 z c4] 33))
   simpa only [World.size_alloc] using this)
 have TX := Lib.hid (mdbox (w := w) (sv := .slice A1 n c1) (pv := .slice A2 k0 c2) (rv := .slice A3 q c3) (kv := .slice A4 z c4))
 have HL0 : Hid ((m.ss ++ m.ps).length = n + k0) := Lib.hid (by rw [List.length_append, HNN.out, HKK.out])
 unfold StrsF at CC
 rw [HL0.out] at CC
 go_enter Tryz.func96, Tryz.ntmps96
 go_wp2_with (go_at_call 154; go_must (refine CC.out.mono ?_; rintro e w6 ⟨s6, rfl, ho6, hg6⟩; obtain ⟨A6, c6, rfl, _, _⟩ := own_bounds ho6; (obtain ⟨y0, -, y1, y2, y3, y4, y5, y6, y7, y8, y9, y10⟩ := TX.out _ ((((Bw.refl _).alloc _).alloc _).trans hg6)); (have HO6 := Lib.hid ho6); (have HG6 := Lib.hid hg6); clear ho6 hg6))
 have HS6 : Hid (SetAt w6 (w.heap.size + 1) []) := Lib.hid (S0.out.below (((Bw.refl _).alloc _).trans HG6.out).b S0.out.lt)
 have HB6 : Hid (Bw w w6) := Lib.hid (W3B.out.trans HG6.out)
 have HO7 : Hid (w6.ownsRow (w.heap.size + 3) 9 1 (.slice A6 (n + k0) c6) (n + k0) (strVs (m.ss ++ m.ps))) := Lib.hid (by
   have := HO6.out
   simpa only [World.size_alloc, Nat.add_assoc, Nat.reduceAdd] using this)
 have hz6 : w.heap.size + 3 ≤ w6.heap.size := by have := HG6.out.size; simpa using this
 clear CC HO6 S0 HG6 W3B
 go_loopw [4, 21] (fun s4 i wr => ∃ k : Nat, k ≤ q ∧ i = .int .i64 k ∧ Hid (wr.ownsRow (w.heap.size + 3) 9 1 s4 (n + k0 + k) (strVs (m.ss ++ m.ps ++ (m.rs.take k).map Rul.nm)) ∧ Below (w.heap.size + 3) w6 wr)) (fun _ i _ => q - (intOf i).toNat)
 case atStart => exact ⟨0, by omega, rfl, Lib.hid ⟨by simpa using HO7.out, Below.refl _ _⟩⟩
 case round =>
   obtain ⟨k, hk, rfl, HRR⟩ := hrel
   obtain ⟨ho, hg⟩ := HRR.out
   obtain ⟨VA, vc, rfl, vb1, vb2⟩ := own_bounds ho
   by_cases hlt : k < q
   · have e1 : k < m.rs.length := by rw [HQQ.out]; exact hlt
     have hw : Bw w wr := HB6.out.b.trans (Below.mono hg (by omega))
     obtain ⟨ad, B1, n1, d1, B2, n2, d2, rfl, hb, hri, _, _⟩ := (HR.out.bw hw).at_ e1
     obtain ⟨x0, x1, x2, x3, x4, x5, x6, x7, x8, x9, x10, x11, x12, x13⟩ := hri
     have HT : Hid (strVs (m.ss ++ m.ps ++ (m.rs.take (k + 1)).map Rul.nm) = strVs (m.ss ++ m.ps ++ (m.rs.take k).map Rul.nm) ++ [.string m.rs[k].nm]) := Lib.hid (by rw [List.take_succ_eq_append_getElem e1, List.map_append, ← List.append_assoc, ← strVs_append]; rfl)
     have HO := Lib.hid ho
     have HG := Lib.hid hg
     have hsz : w.heap.size + 3 ≤ wr.heap.size := Nat.le_trans hz6 hg.size
     clear ho hg hw HRR
     generalize m.rs[k].nm = nm at *
     generalize m.rs[k].fr = fr at *
     generalize m.rs[k].tz = t0 at *
     generalize strVs (m.ss ++ m.ps ++ (m.rs.take k).map Rul.nm) = vs at *
     go_wp2_with (at_builtin; go_must (refine wpList_append_any _ rfl _ _ 26 rfl (w.heap.size + 3) 9 i0 _ 1 16 Tryz.underlying26 hi hz0 hz1 hz2 rfl (by decide) (.slice VA (n + k0 + k) vc) (n + k0 + k) vs rfl ((HO.out.alloc _).alloc _) (wr.heap.size + 1 + 1) (some ⟨wr.heap.size + 1, 0, none⟩) 1 1 [.string nm] rfl (by have := reads_blk (B := wr.heap.size + 1 + 1) (size := 1) (n := 1) (Blk.new (wr.alloc (.cells #[.string nm, .int .i64 fr, .int .i64 t0, .slice B1 n1 d1, .slice B2 n2 d2, .slice none 0 0, .int .i64 0, .int .i64 0, .int .i64 0, .slice none 0 0, .slice none 0 0, .slice none 0 0, .slice none 0 0, .int .i64 0] 75)) 9 #[.string nm]) (by simp) rfl; simpa only [World.size_alloc] using this) (by simp [Value.oneCell']) (by unfold maxLen; omega) (by omega) (by simp; omega) ?_; intro v7 w7 hown7 hgr7 hl7; obtain ⟨A7, c7, rfl⟩ := own_form hown7; (have HO7' := Lib.hid hown7); (have HG7 := Lib.hid hgr7); clear hown7 hgr7 hl7))
     go_roundw
     case rel =>
       refine ⟨k + 1, by omega, by go_num, Lib.hid ⟨?_, ?_⟩⟩
       · rw [HT.out]; exact HO7'.out
       · exact Below.trans ((HG.out.alloc (by omega) _).alloc (by simp; omega) _) (below_own (Below.refl (w.heap.size + 3) _) ((HO.out.alloc _).alloc _) HG7.out (by simp; omega))
     case measure => simp [intOf]; omega
   · obtain rfl : k = q := by omega
     have hNL : m.ss ++ m.ps ++ (m.rs.take k).map Rul.nm = namesM m := by
       rw [List.take_of_length_le (by rw [HQQ.out]; exact Nat.le_refl _)]; rfl
     rw [hNL] at ho
     have hlen : (namesM m).length = n + k0 + k := by
       unfold namesM
       rw [List.length_append, HL0.out, List.length_map, HQQ.out]
     have hsa := own_StrB ho hlen
     have HSA := Lib.hid hsa
     have HLEN := Lib.hid hlen
     have HB1 : Hid (Bw w wr) := Lib.hid (HB6.out.b.trans (Below.mono hg (by omega)))
     have HS1 : Hid (SetAt wr (w.heap.size + 1) []) := Lib.hid (HS6.out.below hg (by omega))
     have hz1 : w.heap.size + 3 ≤ wr.heap.size := Nat.le_trans hz6 hg.size
     obtain ⟨W1, rfl⟩ : ∃ W1 : World, W1 = wr := ⟨_, rfl⟩
     clear ho hg HRR hNL hsa hlen HO7 HS6 HB6
     generalize hNN : n + k0 + k = NN at *
     have hNN9 : NN ≤ 26 := by omega
     go_wp2_with fail
     go_loopw [8, 33] (fun _ i wr => ∃ j : Nat, j ≤ NN ∧ i = .int .i64 j ∧ Hid (SetAt wr (w.heap.size + 1) (((namesM m).take j).map fun s => s.data.toList) ∧ W1.grownBy wr (some (w.heap.size + 1)))) (fun _ i _ => NN - (intOf i).toNat)
     case atStart => exact ⟨0, by omega, rfl, Lib.hid ⟨by simpa using HS1.out, World.grownBy.refl _ _⟩⟩
     case round =>
       obtain ⟨j, hj, rfl, HRR⟩ := hrel
       obtain ⟨hset, hg⟩ := HRR.out
       by_cases hlt2 : j < NN
       · have e1 : j < (namesM m).length := by rw [HLEN.out]; exact hlt2
         obtain ⟨ad, rfl, hb, q0⟩ := HSA.out.at_ e1
         have q1 : wr.cell? (ad.add j) = some (.string (namesM m)[j]) := (World.cell?_of_block (hg.block _ (by rw [add_block]; exact hb.2) (by rw [add_block]; intro e; injection e with e; omega))).trans q0
         obtain ⟨w1, w2, w3⟩ := HN.out.ok _ (List.getElem_mem e1)
         have hnd : (((namesM m).take j).map fun s => s.data.toList).contains ((namesM m)[j].data.toList) = false := by
           have h1 := nodup_take HN.out.nd (k := j) (by simpa using e1)
           rw [← List.map_take] at h1
           simpa using h1
         have HT : Hid ((((namesM m).take (j + 1)).map fun s => s.data.toList) = (((namesM m).take j).map fun s => s.data.toList) ++ [(namesM m)[j].data.toList]) := Lib.hid (by rw [List.take_succ_eq_append_getElem e1, List.map_append]; rfl)
         have hnl : (((namesM m).take j).map fun s => s.data.toList).length < maxLen := by rw [List.length_map, List.length_take]; unfold maxLen; omega
         have HNL := Lib.hid hnl
         have HSET := Lib.hid hset
         have HG := Lib.hid hg
         have hzr := hg.size
         clear q0 hset hg HRR hnl
         generalize (namesM m)[j] = nm at *
         generalize (((namesM m).take j).map fun s => s.data.toList) = ns at *
         have hs9 : nm.size ≤ maxLen := by unfold maxLen; omega
         have CW : Hid (Calls Tryz.prog 155 #[.string nm] wr fun e w' => e = .returned (.bool true) ∧ wr = w') := Lib.hid (by have := word_any nm wr (by omega); rwa [w1] at this)
         have CK : Hid (Calls Tryz.prog 156 #[.string nm] wr (BoolPost wr false)) := Lib.hid (keyword_not nm wr w2)
         have HLK : Hid (∀ W, Bw wr W → SetAt W (w.heap.size + 1) ns ∧ (Instr.lookup 181 (.map (some (w.heap.size + 1))) (.string nm) false).run Tryz.prog W = .ok (.bool false) W) := Lib.hid (fun W g => by
           have := HSET.out.kept g.gr (by simp)
           exact ⟨this, this.look hs9 hnd⟩)
         clear w1 w2 hnd
         go_wp2_with (first
           | (go_at_call 155; go_must (refine CW.out.mono ?_; rintro e w6 ⟨rfl, rfl⟩))
           | (go_at_call 156; go_must (refine CK.out.mono ?_; rintro e w7 ⟨rfl, hg7⟩; (obtain ⟨hs7, hlk⟩ := HLK.out _ hg7); (have HG7 := Lib.hid hg7); (have HS7 := Lib.hid hs7); clear hg7 hs7))
           | (at_mapUpdate; refine wpList_setPut _ rfl rfl _ _ _ rfl (w.heap.size + 1) ns rfl HS7.out HNL.out nm hs9 rfl rfl ?_; intro w8 hset8 hg8; (have HS8 := Lib.hid hset8); (have HG8 := Lib.hid hg8); clear hset8 hg8))
         go_roundw
         case rel =>
           refine ⟨j + 1, by omega, by go_num, Lib.hid ⟨?_, ?_⟩⟩
           · rw [HT.out]; exact HS8.out
           · exact gb_trans HG.out (gb_trans (gb_any HG7.out _) HG8.out)
         case measure => simp [intOf]; omega
       · obtain rfl : j = NN := by omega
         have HG := Lib.hid hg
         clear hset hg HRR
         go_wp2
         go_ret
         exact ⟨rfl, Below.grown HB1.out HG.out HB1.out.size (fun r e => by injection e with e; omega)⟩
end
def chgT (m : Mdl) : List (List Int) := (List.range m.ps.length).map fun i => m.rs.map fun r => r.give.getD i 0 - r.need.getD i 0
theorem dot_getD : ∀ (y v : List Int), y.length = v.length → dotI y v = ((List.range y.length).map fun i => y.getD i 0 * v.getD i 0).sum
 | [], [], _ => by simp [dotI]
 | a :: y, b :: v, h => by
   have ih := dot_getD y v (by simpa using h)
   have e : dotI (a :: y) (b :: v) = a * b + dotI y v := by simp [dotI]
   rw [e, ih, List.length_cons, List.range_succ_eq_map, List.map_cons, List.sum_cons, List.map_map]
   simp [Function.comp_def]
section
open Go.RowKit
structure SeedsArg (w : World) (A : Option Addr) (n c : Nat) : Prop where
 le : n ≤ c
 c63 : c ≤ 9223372036854775807
 rd : ∃ zs : List Int, ∀ k, k < n → ∃ ad : Addr, A = some ad ∧ ad.block < w.heap.size ∧ w.cell? (ad.add k) = some (.int .u8 (zs.getD k 0)) ∧ 0 ≤ zs.getD k 0 ∧ zs.getD k 0 ≤ 255
theorem SeedsArg.up {w w' : World} {A : Option Addr} {n c : Nat} (h : SeedsArg w A n c) (hb : Below w.heap.size w w') : SeedsArg w' A n c := by
 obtain ⟨h1, h2, zs, hr⟩ := h
 refine ⟨h1, h2, zs, fun k hk => ?_⟩
 obtain ⟨ad, e, hl, hc, hz⟩ := hr k hk
 exact ⟨ad, e, Nat.lt_of_lt_of_le hl hb.size, (hb.cell (by rw [add_block]; exact hl)).trans hc, hz⟩
theorem pnew_arg (w : World) (A : Option Addr) (n c : Nat) (h : SeedsArg w A n c) : Calls Tryz.prog 7 #[.slice A n c] w (PNewPost w) := by
 obtain ⟨h1, h2, zs, hr⟩ := h
 exact pnew_any w A n c zs h1 h2 hr
end
end Go.Proofs.YthhbkabdhkdafaaGreat
