/- Part of a proof of pruneShows_holds. -/
import Derived.Test.YthhbkabdhkdafaaGreatUBgQ
set_option linter.unusedSimpArgs false
set_option linter.unusedVariables false
set_option maxRecDepth 100000
set_option maxHeartbeats 16000000
namespace Go.Proofs.YthhbkabdhkdafaaGreat
section
open Go.RowKit
theorem qbetween_in (x lo hi : Int) (w : World) (h0 : lo ≤ x) (h1 : x ≤ hi) : Calls Tryz.prog 57 #[.int .i64 x, .int .i64 lo, .int .i64 hi] w fun e w' => e = .returned (.bool true) ∧ w = w' := by
 have d0 : decide (lo ≤ x) = true := by simpa using h0
 have d1 : decide (x ≤ hi) = true := by simpa using h1
 go_enter Tryz.func57, Tryz.ntmps57
 go_wp2
 go_ret
 exact ⟨rfl, rfl⟩
theorem qranks_one (sv pv rv kv : Value) (w : World) : Calls Tryz.prog 59 #[.agg #[.int .i64 1, sv, pv, .slice none 0 0, .slice none 0 0, .int .i64 0, .int .i64 0, rv, .int .i64 0, kv]] w (BoolPost w true) := by
 go_enter Tryz.func59, Tryz.ntmps59
 go_wp2
 go_ret
 exact ⟨rfl, (Bw.refl _).alloc _⟩
theorem qnumbers_any (m : Mdl) (hm : MdlOk m) (h12 : m.rs.length ≤ 12) (sv pv rv kv : Value) (w : World) (h : MB w w.heap.size sv pv rv kv m) : Calls Tryz.prog 58 #[aggM sv pv rv kv] w (BoolPost w true) := by
 obtain ⟨A1, c1, A2, c2, A3, c3, A4, c4, rfl, rfl, rfl, rfl⟩ := h.form
 obtain ⟨n1, n8⟩ := hm.n1
 obtain ⟨k1, k6⟩ := hm.k1
 clear h hm
 generalize m.ss.length = n at *
 generalize m.ps.length = k at *
 generalize m.rs.length = r at *
 generalize 1 + m.cs.length = q at *
 have d1 : decide ((12 : Int) < (r : Int)) = false := by simp; omega
 go_enter Tryz.func58, Tryz.ntmps58
 go_wp2_with (go_at_call 57; go_must (refine (qbetween_in _ _ _ _ (by omega) (by omega)).mono ?_; rintro e w' ⟨rfl, rfl⟩))
 go_ret
 exact ⟨rfl, (Bw.refl _).alloc _⟩
theorem qlist_any (xs : List Int) (lo hi : Int) (s : Value) (w : World) (h : IB w w.heap.size s xs) (h9 : xs.length ≤ 1000) (hb : ∀ x ∈ xs, lo ≤ x ∧ x ≤ hi) : Calls Tryz.prog 110 #[s, .int .i64 (xs.length : Int), .int .i64 lo, .int .i64 hi] w fun e w' => e = .returned (.bool true) ∧ w = w' := by
 obtain ⟨A, n, c, rfl, ln, bn, mn⟩ := h.form
 rw [ln]
 have H := Lib.hid h
 have HB := Lib.hid hb
 have LN := Lib.hid ln
 rw [ln] at h9
 clear h hb ln
 go_enter Tryz.func110, Tryz.ntmps110
 go_wp2
 go_loop [9] (fun i => ∃ k : Nat, k ≤ n ∧ i = .int .i64 k) (fun i => n - (intOf i).toNat)
 case atStart => exact ⟨0, Nat.zero_le _, rfl⟩
 case round =>
   obtain ⟨k, hk, rfl⟩ := hrel
   by_cases hlt : k < n
   · have e1 : k < xs.length := by rw [LN.out]; exact hlt
     obtain ⟨ad, rfl, hbb, p0⟩ := H.out.at_ e1
     obtain ⟨b0, b1⟩ := HB.out _ (List.getElem_mem e1)
     generalize xs[k] = x at *
     go_wp2_with (go_at_call 57; go_must (refine (qbetween_in _ _ _ _ (by omega) (by omega)).mono ?_; rintro e w' ⟨rfl, rfl⟩))
     go_round
     case rel => exact ⟨k + 1, by omega, by go_num⟩
     case measure => simp [intOf]; omega
   · obtain rfl : k = n := by omega
     go_wp2
     go_ret
     exact ⟨rfl, rfl⟩
theorem qright_any (m : Mdl) (hm : MdlOk m) (r : Rul) (hr : RulOk m.ss.length m.ps.length r) (sv pv rv kv nd gv : Value) (w : World) (h : MB w w.heap.size sv pv rv kv m) (h1 : IB w w.heap.size nd r.need) (h2 : IB w w.heap.size gv r.give) :
   Calls Tryz.prog 61 #[aggM sv pv rv kv, aggR r nd gv] w (BoolPost w true) := by
 obtain ⟨A1, c1, A2, c2, A3, c3, A4, c4, rfl, rfl, rfl, rfl⟩ := h.form
 obtain ⟨B1, n1, d1, rfl, l1, _, _⟩ := h1.form
 obtain ⟨B2, n2, d2, rfl, l2, _, _⟩ := h2.form
 have bd : ∀ (l : List Int), l.length = m.ps.length → (∀ j, j < m.ps.length → 0 ≤ l.getD j 0 ∧ l.getD j 0 ≤ 16) → ∀ x ∈ l, (0 : Int) ≤ x ∧ x ≤ 16 := fun l hl h x hx => by
   obtain ⟨j, hj, rfl⟩ := List.getElem_of_mem hx
   have := h j (by omega)
   rwa [show l.getD j 0 = l[j] by simp [List.getD, hj]] at this
 have CL1 : Hid (∀ W, Bw w W → Calls Tryz.prog 110 #[.slice B1 n1 d1, .int .i64 (m.ps.length : Int), .int .i64 0, .int .i64 16] W fun e w' => e = .returned (.bool true) ∧ W = w') := Lib.hid (fun W g => by
   have := qlist_any r.need 0 16 _ W (h1.bw g) (by rw [hr.nl]; have := hm.k1.2; omega) (bd _ hr.nl hr.n0)
   rwa [hr.nl] at this)
 have CL2 : Hid (∀ W, Bw w W → Calls Tryz.prog 110 #[.slice B2 n2 d2, .int .i64 (m.ps.length : Int), .int .i64 0, .int .i64 16] W fun e w' => e = .returned (.bool true) ∧ W = w') := Lib.hid (fun W g => by
   have := qlist_any r.give 0 16 _ W (h2.bw g) (by rw [hr.gl]; have := hm.k1.2; omega) (bd _ hr.gl hr.g0)
   rwa [hr.gl] at this)
 obtain ⟨t0, t1⟩ := hr.tz
 obtain ⟨f0, f1⟩ := hr.fr
 have hs := hm.n1.2
 have hk := hm.k1
 clear h h1 h2 l1 l2 hr hm bd
 unfold aggR aggM at *
 generalize r.nm = nm at *
 generalize r.fr = fr at *
 generalize r.tz = t9 at *
 generalize m.ss.length = n at *
 generalize m.ps.length = k at *
 generalize m.rs.length = q at *
 generalize 1 + m.cs.length = z at *
 have HB : Hid (Bw w ((w.alloc (.cells #[.int .i64 1, .slice A1 n c1, .slice A2 k c2, .slice none 0 0, .slice none 0 0, .int .i64 0, .int .i64 0, .slice A3 q c3, .int .i64 0, .slice A4 z c4] 33)).alloc (.cells #[.string nm, .int .i64 fr, .int .i64 t9, .slice B1 n1 d1, .slice B2 n2 d2, .slice none 0 0, .int .i64 0, .int .i64 0, .int .i64 0, .slice none 0 0, .slice none 0 0, .slice none 0 0, .slice none 0 0, .int .i64 0] 75))) := Lib.hid (((Bw.refl _).alloc _).alloc _)
 go_enter Tryz.func61, Tryz.ntmps61
 go_wp2_with (first
   | (go_at_call 57; go_must (refine (qbetween_in _ _ _ _ (by omega) (by omega)).mono ?_; rintro e w' ⟨rfl, rfl⟩))
   | (go_at_call 110; (with_reducible refine (CL1.out _ HB.out).mono ?_); rintro e w' ⟨rfl, rfl⟩)
   | (go_at_call 110; (with_reducible refine (CL2.out _ HB.out).mono ?_); rintro e w' ⟨rfl, rfl⟩))
 go_ret
 exact ⟨rfl, HB.out⟩
theorem kwVals_ne {s : ByteArray} (h : kwB s.data.toList = false) {k : Nat} (hk : k < kwVals.length) : (kwVals[k].toList == s.toList) = false := by
 rw [str_eq_dec]
 rw [← kwB_vals, List.any_eq_false] at h
 have := h _ (List.getElem_mem hk)
 simpa using this
theorem qkeyword_not (s : ByteArray) (w : World) (h : kwB s.data.toList = false) : Calls Tryz.prog 109 #[.string s] w (BoolPost w false) := by
 have KN : Hid (∀ k (hk : k < kwVals.length), (kwVals[k].toList == s.toList) = false) := Lib.hid (fun k hk => kwVals_ne h hk)
 have KL : Hid (kwVals.length = 18) := Lib.hid (by kernel_rfl)
 have HB := Lib.hid (Blk.new w 9 (kwVals.map Value.string).toArray)
 clear h
 go_enter Tryz.func109, Tryz.ntmps109
 go_wp2_with (refine wpList_bvals rfl 26 9 18 _ rfl (kwVals.map Value.string) Tryz.underlying26 (by kernel_rfl) (by kernel_rfl) (by kernel_rfl) (by decide) (by decide) (fun v hv => by obtain ⟨x, _, rfl⟩ := List.mem_map.1 hv; rfl) (by kernel_rfl) ?_)
 obtain ⟨W, hW⟩ : ∃ W, w.alloc (.cells (kwVals.map Value.string).toArray 9) = W := ⟨_, rfl⟩
 have HW : Hid (Bw w W) := Lib.hid (by rw [← hW]; exact (Bw.refl _).alloc _)
 rw [hW] at HB ⊢
 clear hW
 go_loop [4] (fun i => ∃ k : Nat, k ≤ 18 ∧ i = .int .i64 k) (fun i => 18 - (intOf i).toNat)
 case atStart => exact ⟨0, Nat.zero_le _, rfl⟩
 case round =>
   obtain ⟨k, hk, rfl⟩ := hrel
   by_cases hlt : k < 18
   · have e1 : k < kwVals.length := by rw [KL.out]; exact hlt
     have c0 : W.cell? ⟨w.heap.size, k, none⟩ = some (.string kwVals[k]) := by rw [HB.out.cell k]; simp [e1]
     have c1 := KN.out k e1
     have hl := HB.out.lt
     generalize kwVals[k] = z at *
     go_wp2
     go_round
     case rel => exact ⟨k + 1, by omega, by go_num⟩
     case measure => simp [intOf]; omega
   · obtain rfl : k = 18 := by omega
     go_wp2
     go_ret
     exact ⟨rfl, HW.out⟩
theorem nd_ne {l : List ByteArray} (h : (l.map fun s => s.data.toList).Nodup) {i k : Nat} (hi : i < l.length) (hk : k < i) : (l[k].toList == l[i].toList) = false := by
 rw [str_eq_dec, beq_eq_false_iff_ne]
 intro e
 have h2 := List.pairwise_iff_getElem.1 h k i (by simpa using Nat.lt_trans hk hi) (by simpa using hi) hk
 simp only [List.getElem_map, ne_eq] at h2
 exact h2 e
theorem strVs_one (l : List ByteArray) : ∀ v ∈ strVs l, v.oneCell' = true := fun v hv => by obtain ⟨x, _, rfl⟩ := List.mem_map.1 hv; rfl
theorem reads_new1s (W : World) (x : ByteArray) : Reads (W.alloc (.cells #[.string x] 9)) (W.heap.size + 1) 1 (some ⟨W.heap.size, 0, none⟩) 1 [.string x] := reads_blk (n := 1) (Blk.new W 9 #[.string x]) (by omega) rfl
theorem qnames_any (m : Mdl) (hm : MdlOk m) (hn : NmOk m) (sv pv rv kv : Value) (w : World) (h : MB w w.heap.size sv pv rv kv m) : Calls Tryz.prog 60 #[aggM sv pv rv kv] w (BoolPost w true) := by
 obtain ⟨A1, c1, A2, c2, A3, c3, A4, c4, rfl, rfl, rfl, rfl⟩ := h.form
 obtain ⟨n1, n8⟩ := hm.n1
 obtain ⟨k1, k6⟩ := hm.k1
 have h12 := hn.len
 have R1 : Hid (∀ W, Bw w W → Reads W W.heap.size 1 A1 m.ss.length (strVs m.ss)) := Lib.hid (fun W g => (h.s.bw g).reads)
 have R2 : Hid (∀ W, Bw w W → Reads W W.heap.size 1 A2 m.ps.length (strVs m.ps)) := Lib.hid (fun W g => (h.p.bw g).reads)
 have R3 : Hid (∀ W, Bw w W → RlsAt W (· < W.heap.size) (.slice A3 m.rs.length c3) m.rs) := Lib.hid (fun W g => h.r.bw g)
 have WO : Hid (∀ s ∈ namesM m, ∀ W, Calls Tryz.prog 108 #[.string s] W fun e w' => e = .returned (.bool true) ∧ W = w') := Lib.hid (fun s hs W => by
   have := rword_any s W (by have := (hn.ok s hs).2.2; omega)
   rwa [(hn.ok s hs).1] at this)
 have KW : Hid (∀ s ∈ namesM m, ∀ W, Calls Tryz.prog 109 #[.string s] W (BoolPost W false)) := Lib.hid (fun s hs W => qkeyword_not s W (hn.ok s hs).2.1)
 have ND : Hid (∀ i k (hi : i < (namesM m).length) (hk : k < i), (((namesM m)[k]'(Nat.lt_trans hk hi)).toList == ((namesM m)[i]'hi).toList) = false) := Lib.hid (fun i k hi hk => nd_ne hn.nd hi hk)
 have NL : Hid ((namesM m).length = m.ss.length + m.ps.length + m.rs.length) := Lib.hid (by simp [namesM, Nat.add_assoc])
 have NE : Hid (∀ j r, m.rs[j]? = some r → m.ss ++ m.ps ++ (m.rs.take (j + 1)).map Rul.nm = (m.ss ++ m.ps ++ (m.rs.take j).map Rul.nm) ++ [r.nm]) := Lib.hid (fun j r h => by
   obtain ⟨hj, rfl⟩ := List.getElem?_eq_some_iff.1 h
   rw [List.take_succ_eq_append_getElem hj, List.map_append, List.append_assoc, List.append_assoc, List.append_assoc]; rfl)
 have NF : Hid (m.ss ++ m.ps ++ (m.rs.take m.rs.length).map Rul.nm = namesM m) := Lib.hid (by rw [List.take_length]; rfl)
 have N0 : Hid (strVs m.ss ++ strVs m.ps = strVs (m.ss ++ m.ps ++ (m.rs.take 0).map Rul.nm)) := Lib.hid (by simp [strVs])
 have NLj : Hid (∀ j, j ≤ m.rs.length → (m.ss ++ m.ps ++ (m.rs.take j).map Rul.nm).length = m.ss.length + m.ps.length + j) := Lib.hid (fun j hj => by simp; omega)
 clear h hm hn
 unfold aggM
 generalize namesM m = N at *
 generalize hss : m.ss.length = n at *
 generalize hps : m.ps.length = k0 at *
 generalize hrs : m.rs.length = q at *
 generalize 1 + m.cs.length = z at *
 have HRS := Lib.hid hrs
 clear hss hps hrs
 obtain ⟨i0, hi, hz0, hz1, hz2⟩ := info_parts infoStr
 have TX := Lib.hid (mdbox (w := w) (sv := .slice A1 n c1) (pv := .slice A2 k0 c2) (rv := .slice A3 q c3) (kv := .slice A4 z c4))
 go_enter Tryz.func60, Tryz.ntmps60
 go_wp2_with fail
 refine wp_world (fun W => Hid (Bw (w.alloc (.cells #[.int .i64 1, .slice A1 n c1, .slice A2 k0 c2, .slice none 0 0, .slice none 0 0, .int .i64 0, .int .i64 0, .slice A3 q c3, .int .i64 0, .slice A4 z c4] 33)) W)) (Lib.hid (Bw.refl _)) ?_
 intro W HW
 have KS : Hid (∀ w', Bw W w' → w'.cell? ⟨w.heap.size, 1, none⟩ = some (.slice A1 n c1) ∧ w'.cell? ⟨w.heap.size, 2, none⟩ = some (.slice A2 k0 c2) ∧ w'.cell? ⟨w.heap.size, 3, none⟩ = some (.slice none 0 0)) := Lib.hid (fun w' g => by
   obtain ⟨_, _, a0, a1, a2, a3, a4, a5, a6, a7, a8, a9⟩ := TX.out w' (HW.out.trans g)
   exact ⟨a1, a2, a3⟩)
 have HBW : Hid (∀ w', Bw W w' → Bw w w') := Lib.hid (fun w' g => (TX.out w' (HW.out.trans g)).2.1)
 have hzw : w.heap.size < W.heap.size := (TX.out W HW.out).1
 go_region_held3 (fun w' => w'.cell? ⟨w.heap.size, 1, none⟩ = some (.slice A1 n c1) ∧ w'.cell? ⟨w.heap.size, 2, none⟩ = some (.slice A2 k0 c2) ∧ w'.cell? ⟨w.heap.size, 3, none⟩ = some (.slice none 0 0))
   (first | (refine KS.out _ ?_; first | exact (Bw.refl _).drew | exact HG7.out | exact HG8.out | exact HG9.out))
   (first
     | (refine step_append_any _ rfl (.const (.slice none 0 0)) (.tmp 8) 26 rfl W.heap.size 9 i0 _ 1 16 Tryz.underlying26 hi hz0 hz1 hz2 rfl (by decide) (.slice none 0 0) 0 [] (by simp [Act.eval]) (World.ownsRow_nil _ _ _ _) W.heap.size A1 n c1 (strVs m.ss) (by simp [Act.eval, Act.put]) (R1.out _ (HBW.out _ (Bw.refl _).drew)) (strVs_one _) (by unfold maxLen; omega) (by omega) (Nat.le_refl _) ?_; intro v7 w7 hown7 hgr7 hl7; simp only [Nat.zero_add, List.nil_append] at hown7; obtain ⟨A7, c7, rfl, -, -⟩ := own_bounds hown7; (have HO7 := Lib.hid hown7); (have HG7 : Hid (Bw W w7) := Lib.hid (Below.grown (Bw.refl W).drew hgr7 (Nat.le_refl _) (fun r e => by cases e))); clear hown7 hgr7 hl7)
     | (refine step_append_any _ rfl (.tmp 9) (.tmp 11) 26 rfl W.heap.size 9 i0 _ 1 16 Tryz.underlying26 hi hz0 hz1 hz2 rfl (by decide) (.slice A7 n c7) n (strVs m.ss) (by simp [Act.eval, Act.put]) HO7.out w7.heap.size A2 k0 c2 (strVs m.ps) (by simp [Act.eval, Act.put]) (R2.out _ (HBW.out _ HG7.out)) (strVs_one _) (by unfold maxLen; omega) (by omega) HG7.out.size ?_; intro v8 w8 hown8 hgr8 hl8; obtain ⟨A8, c8, rfl, -, -⟩ := own_bounds hown8; (have HO8 := Lib.hid hown8); (have HG8 : Hid (Bw W w8) := Lib.hid (Below.grown HG7.out hgr8 HG7.out.size (fun r e => (HO7.out.lt r e).1))); clear hown8 hgr8 hl8)
     | (refine step_append_any _ rfl (.tmp 12) (.tmp 14) 26 rfl W.heap.size 9 i0 _ 1 16 Tryz.underlying26 hi hz0 hz1 hz2 rfl (by decide) (.slice A8 (n + k0) c8) (n + k0) (strVs m.ss ++ strVs m.ps) (by simp [Act.eval, Act.put]) HO8.out w8.heap.size none 0 0 [] (by simp [Act.eval, Act.put]) Reads.none_ (by simp) (by unfold maxLen; omega) (by omega) HG8.out.size ?_; intro v9 w9 hown9 hgr9 hl9; simp only [Nat.add_zero, List.append_nil] at hown9; obtain ⟨A9, c9, rfl, -, -⟩ := own_bounds hown9; (have HO9 := Lib.hid hown9); (have HG9 : Hid (Bw W w9) := Lib.hid (Below.grown HG8.out hgr9 HG8.out.size (fun r e => (HO8.out.lt r e).1))); clear hown9 hgr9 hl9))
 have HO0 : Hid (w9.ownsRow W.heap.size 9 1 (.slice A9 (n + k0) c9) (n + k0) (strVs (m.ss ++ m.ps ++ (m.rs.take 0).map Rul.nm))) := Lib.hid (by rw [← N0.out]; exact HO9.out)
 clear HO9 HO8 HO7 HG8 HG7 KS R1 R2 N0
 go_wp2_with fail
 go_loopw [3, 4] (fun s3 i wr => ∃ (j : Nat) (A : Option Addr) (c : Nat), j ≤ q ∧ i = .int .i64 j ∧ s3 = .slice A (n + k0 + j) c ∧ Hid (wr.ownsRow W.heap.size 9 1 (.slice A (n + k0 + j) c) (n + k0 + j) (strVs (m.ss ++ m.ps ++ (m.rs.take j).map Rul.nm)) ∧ Bw W wr)) (fun _ i _ => q - (intOf i).toNat)
 case atStart => exact ⟨0, A9, c9, by omega, rfl, rfl, Lib.hid ⟨HO0.out, HG9.out⟩⟩
 case round =>
   clear HO0 HG9
   obtain ⟨wo, hwo⟩ : ∃ wo, wo = wr := ⟨_, rfl⟩
   subst hwo
   obtain ⟨j, A, c, hj, rfl, rfl, HR⟩ := hrel
   obtain ⟨ho, hg⟩ := HR.out
   obtain ⟨y0, yb, y1, y2, y3, y4, y5, y6, y7, y8, y9, y10⟩ := TX.out wo (HW.out.trans hg)
   by_cases hlt : j < q
   · have e1 : j < m.rs.length := by rw [HRS.out]; exact hlt
     obtain ⟨ad, B1, q1, d1, B2, q2, d2, rfl, hb, hri, -, -⟩ := (R3.out wo yb).at_ e1
     have x0 := hri.c0
     have HE := Lib.hid (NE.out j m.rs[j] (List.getElem?_eq_getElem e1))
     have HO := Lib.hid ho
     have HG := Lib.hid hg
     clear hri ho hg HR yb
     generalize m.rs[j].nm = nm at *
     go_wp2_with (at_builtin; go_must (refine wpList_append_any _ rfl _ _ 26 rfl W.heap.size 9 i0 _ 1 16 Tryz.underlying26 hi hz0 hz1 hz2 rfl (by decide) (.slice A (n + k0 + j) c) (n + k0 + j) (strVs (m.ss ++ m.ps ++ (m.rs.take j).map Rul.nm)) rfl (HO.out.alloc _) (wo.heap.size + 1) (some ⟨wo.heap.size, 0, none⟩) 1 1 [.string nm] rfl (reads_new1s wo nm) (by simp [Value.oneCell']) (by unfold maxLen; omega) (by omega) (by simp; have := HG.out.size; omega) ?_; intro v7 w7 hown7 hgr7 hl7; obtain ⟨A7, c7, rfl⟩ := own_form hown7; (have HO7 := Lib.hid hown7); (have HG7 := Lib.hid hgr7); clear hown7 hgr7 hl7))
     go_roundw
     case rel =>
       refine ⟨j + 1, A7, c7, by omega, by go_num, by rw [Nat.add_assoc], Lib.hid ⟨?_, Below.grown (HG.out.alloc _) HG7.out (HG.out.alloc _).size (fun r e => ((HO.out.alloc (.cells #[.string nm] 9)).lt r e).1)⟩⟩
       rw [HE.out, ← strVs_append]
       exact HO7.out
     case measure => simp [intOf]; omega
   · obtain rfl : j = q := by omega
     have hfull := NF.out
     rw [hfull] at ho
     have hNL := NL.out
     have hrd : Hid (∀ W', Bw wo W' → Reads W' W'.heap.size 1 A (n + k0 + j) (strVs N)) := Lib.hid (fun W' g => Reads.of_own (own_kept_below ho g))
     have HG := Lib.hid (hg)
     clear ho hg HR yb hfull
     generalize hT : n + k0 + j = T at *
     have hT9 : T ≤ 100 := by omega
     clear hT
     go_wp2_with fail
     go_loopw [5] (fun i wr => ∃ k : Nat, k ≤ T ∧ i = .int .i64 k ∧ Hid (Bw wo wr)) (fun i _ => T - (intOf i).toNat)
     case atStart => exact ⟨0, by omega, rfl, Lib.hid (Bw.refl _)⟩
     case round =>
       obtain ⟨k, hk, rfl, HR⟩ := hrel
       by_cases hlt2 : k < T
       · have e1 : k < N.length := by omega
         obtain ⟨ad, u, rfl, hb, hu, hc⟩ := (hrd.out wr HR.out).at_ hlt2
         obtain rfl : u = .string N[k] := by
           rw [strVs, List.getElem?_map, List.getElem?_eq_getElem e1] at hu
           injection hu with hu; exact hu.symm
         have CW := Lib.hid (WO.out N[k] (List.getElem_mem e1))
         have CK := Lib.hid (KW.out N[k] (List.getElem_mem e1) wr)
         have HN := Lib.hid (fun l (hl : l < k) => ND.out k l e1 hl)
         clear hu
         generalize hnk : N[k] = nk at *
         go_wp2_with (first
           | (go_at_call 108; go_must (refine (CW.out _).mono ?_; rintro e w' ⟨rfl, rfl⟩))
           | (go_at_call 109; go_must (refine CK.out.mono ?_; rintro e w6 ⟨rfl, hg6⟩; (have HG6 := Lib.hid hg6); clear hg6)))
         have HG8 : Hid (Bw wo w6) := Lib.hid (HR.out.trans HG6.out)
         go_loopw [6] (fun i wr => ∃ l : Nat, l ≤ k ∧ i = .int .i64 l ∧ Hid (Bw wo wr)) (fun i _ => k - (intOf i).toNat)
         case atStart => exact ⟨0, Nat.zero_le _, rfl, HG8⟩
         case round =>
           obtain ⟨l, hl, rfl, HRI⟩ := hrel
           by_cases hlk : l < k
           · have e2 : l < N.length := by omega
             obtain ⟨ad2, u2, ee, hb2, hu2, hc2⟩ := (hrd.out wr HRI.out).at_ (show l < T by omega)
             obtain ⟨ad3, u3, ee3, hb3, hu3, hc3⟩ := (hrd.out wr HRI.out).at_ hlt2
             injection ee with ee; subst ee
             injection ee3 with ee3; subst ee3
             obtain rfl : u2 = .string N[l] := by
               rw [strVs, List.getElem?_map, List.getElem?_eq_getElem e2] at hu2
               injection hu2 with hu2; exact hu2.symm
             obtain rfl : u3 = .string nk := by
               rw [strVs, List.getElem?_map, List.getElem?_eq_getElem e1, hnk] at hu3
               injection hu3 with hu3; exact hu3.symm
             have t1 := HN.out l hlk
             clear hu2 hu3
             generalize N[l] = nl at *
             go_wp2_with fail
             go_quiet (fail)
             go_wp2_with fail
             go_roundw
             case rel => exact ⟨l + 1, by omega, by go_num, Lib.hid (HRI.out.drewN _)⟩
             case measure => simp [intOf]; omega
           · obtain rfl : l = k := by omega
             go_wp2_with fail
             go_roundw
             case rel => exact ⟨l + 1, by omega, by go_num, HRI⟩
             case measure => simp [intOf]; omega
       · obtain rfl : k = T := by omega
         go_wp2
         go_ret
         exact ⟨rfl, HBW.out _ (HG.out.trans HR.out)⟩
end
end Go.Proofs.YthhbkabdhkdafaaGreat
