/- Part of a proof of coverSearches_holds. -/
import Derived.Test.YthhbkabdhkdafaaGreatVAtP
import Derived.Test.YthhbkabdhkdafaaGreatVAsP
import Derived.Test.YthhbkabdhkdafaaGreatVApP
import Derived.Deep.RegionLawGrows
import Derived.Deep.RegionLaw
set_option linter.unusedSimpArgs false
set_option linter.unusedVariables false
set_option maxRecDepth 100000
set_option maxHeartbeats 16000000
namespace Go.Proofs.YthhbkabdhkdafaaGreat
section
open Go.RowKit
theorem kwVals_ne {s : ByteArray} (h : kwB s.data.toList = false) {k : Nat} (hk : k < kwVals.length) : (kwVals[k].toList == s.toList) = false := by
 rw [str_eq_dec]
 rw [← kwB_vals, List.any_eq_false] at h
 have := h _ (List.getElem_mem hk)
 simpa using this
theorem qkeyword_not (s : ByteArray) (w : World) (h : kwB s.data.toList = false) : Calls Tryz.prog 109 #[.string s] w (BoolPost w false) := by
 have KN : Hid (∀ k (hk : k < kwVals.length), (kwVals[k].toList == s.toList) = false) := Lib.hid (fun k hk => kwVals_ne h hk)
 have KL : Hid (kwVals.length = 18) := Lib.hid (by kernel_rfl)
 have HB := Lib.hid (Blk.new w 9 (kwVals.map Value.string).toArray)
 clear h
 go_enter Tryz.func109, Tryz.ntmps109
 go_wp2_with (refine wpList_bvals rfl 26 9 18 _ rfl (kwVals.map Value.string) Tryz.underlying26 (by kernel_rfl) (by kernel_rfl) (by kernel_rfl) (by decide) (by decide) (fun v hv => by obtain ⟨x, _, rfl⟩ := List.mem_map.1 hv; rfl) (by kernel_rfl) ?_)
 obtain ⟨W, hW⟩ : ∃ W, w.alloc (.cells (kwVals.map Value.string).toArray 9) = W := ⟨_, rfl⟩
 have HW : Hid (Bw w W) := Lib.hid (by rw [← hW]; exact (Bw.refl _).alloc _)
 rw [hW] at HB ⊢
 clear hW
 go_loop [4] (fun i => ∃ k : Nat, k ≤ 18 ∧ i = .int .i64 k) (fun i => 18 - (intOf i).toNat)
 case atStart => exact ⟨0, Nat.zero_le _, rfl⟩
 case round =>
   obtain ⟨k, hk, rfl⟩ := hrel
   by_cases hlt : k < 18
   · have e1 : k < kwVals.length := by rw [KL.out]; exact hlt
     have c0 : W.cell? ⟨w.heap.size, k, none⟩ = some (.string kwVals[k]) := by rw [HB.out.cell k]; simp [e1]
     have c1 := KN.out k e1
     have hl := HB.out.lt
     generalize kwVals[k] = z at *
     go_wp2
     go_round
     case rel => exact ⟨k + 1, by omega, by go_num⟩
     case measure => simp [intOf]; omega
   · obtain rfl : k = 18 := by omega
     go_wp2
     go_ret
     exact ⟨rfl, HW.out⟩
theorem nd_ne {l : List ByteArray} (h : (l.map fun s => s.data.toList).Nodup) {i k : Nat} (hi : i < l.length) (hk : k < i) : (l[k].toList == l[i].toList) = false := by
 rw [str_eq_dec, beq_eq_false_iff_ne]
 intro e
 have h2 := List.pairwise_iff_getElem.1 h k i (by simpa using Nat.lt_trans hk hi) (by simpa using hi) hk
 simp only [List.getElem_map, ne_eq] at h2
 exact h2 e
theorem strVs_one (l : List ByteArray) : ∀ v ∈ strVs l, v.oneCell' = true := fun v hv => by obtain ⟨x, _, rfl⟩ := List.mem_map.1 hv; rfl
theorem reads_new1s (W : World) (x : ByteArray) : Reads (W.alloc (.cells #[.string x] 9)) (W.heap.size + 1) 1 (some ⟨W.heap.size, 0, none⟩) 1 [.string x] := reads_blk (n := 1) (Blk.new W 9 #[.string x]) (by omega) rfl
theorem qnames_any (m : Mdl) (hm : MdlOk m) (hn : NmOk m) (sv pv rv kv : Value) (w : World) (h : MB w w.heap.size sv pv rv kv m) : Calls Tryz.prog 60 #[aggM sv pv rv kv] w (BoolPost w true) := by
 obtain ⟨A1, c1, A2, c2, A3, c3, A4, c4, rfl, rfl, rfl, rfl⟩ := h.form
 obtain ⟨n1, n8⟩ := hm.n1
 obtain ⟨k1, k6⟩ := hm.k1
 have h12 := hn.len
 have R1 : Hid (∀ W, Bw w W → Reads W W.heap.size 1 A1 m.ss.length (strVs m.ss)) := Lib.hid (fun W g => (h.s.bw g).reads)
 have R2 : Hid (∀ W, Bw w W → Reads W W.heap.size 1 A2 m.ps.length (strVs m.ps)) := Lib.hid (fun W g => (h.p.bw g).reads)
 have R3 : Hid (∀ W, Bw w W → RlsAt W (· < W.heap.size) (.slice A3 m.rs.length c3) m.rs) := Lib.hid (fun W g => h.r.bw g)
 have WO : Hid (∀ s ∈ namesM m, ∀ W, Calls Tryz.prog 108 #[.string s] W fun e w' => e = .returned (.bool true) ∧ W = w') := Lib.hid (fun s hs W => by
   have := rword_any s W (by have := (hn.ok s hs).2.2; omega)
   rwa [(hn.ok s hs).1] at this)
 have KW : Hid (∀ s ∈ namesM m, ∀ W, Calls Tryz.prog 109 #[.string s] W (BoolPost W false)) := Lib.hid (fun s hs W => qkeyword_not s W (hn.ok s hs).2.1)
 have ND : Hid (∀ i k (hi : i < (namesM m).length) (hk : k < i), (((namesM m)[k]'(Nat.lt_trans hk hi)).toList == ((namesM m)[i]'hi).toList) = false) := Lib.hid (fun i k hi hk => nd_ne hn.nd hi hk)
 have NL : Hid ((namesM m).length = m.ss.length + m.ps.length + m.rs.length) := Lib.hid (by simp [namesM, Nat.add_assoc])
 have NE : Hid (∀ j r, m.rs[j]? = some r → m.ss ++ m.ps ++ (m.rs.take (j + 1)).map Rul.nm = (m.ss ++ m.ps ++ (m.rs.take j).map Rul.nm) ++ [r.nm]) := Lib.hid (fun j r h => by
   obtain ⟨hj, rfl⟩ := List.getElem?_eq_some_iff.1 h
   rw [List.take_succ_eq_append_getElem hj, List.map_append, List.append_assoc, List.append_assoc, List.append_assoc]; rfl)
 have NF : Hid (m.ss ++ m.ps ++ (m.rs.take m.rs.length).map Rul.nm = namesM m) := Lib.hid (by rw [List.take_length]; rfl)
 have N0 : Hid (strVs m.ss ++ strVs m.ps = strVs (m.ss ++ m.ps ++ (m.rs.take 0).map Rul.nm)) := Lib.hid (by simp [strVs])
 have NLj : Hid (∀ j, j ≤ m.rs.length → (m.ss ++ m.ps ++ (m.rs.take j).map Rul.nm).length = m.ss.length + m.ps.length + j) := Lib.hid (fun j hj => by simp; omega)
 clear h hm hn
 unfold aggM
 generalize namesM m = N at *
 generalize hss : m.ss.length = n at *
 generalize hps : m.ps.length = k0 at *
 generalize hrs : m.rs.length = q at *
 generalize 1 + m.cs.length = z at *
 have HRS := Lib.hid hrs
 clear hss hps hrs
 obtain ⟨i0, hi, hz0, hz1, hz2⟩ := info_parts infoStr
 have TX := Lib.hid (mdbox (w := w) (sv := .slice A1 n c1) (pv := .slice A2 k0 c2) (rv := .slice A3 q c3) (kv := .slice A4 z c4))
 go_enter Tryz.func60, Tryz.ntmps60
 go_wp2_with fail
 refine wp_world (fun W => Hid (Bw (w.alloc (.cells #[.int .i64 1, .slice A1 n c1, .slice A2 k0 c2, .slice none 0 0, .slice none 0 0, .int .i64 0, .int .i64 0, .slice A3 q c3, .int .i64 0, .slice A4 z c4] 33)) W)) (Lib.hid (Bw.refl _)) ?_
 intro W HW
 have KS : Hid (∀ w', Bw W w' → w'.cell? ⟨w.heap.size, 1, none⟩ = some (.slice A1 n c1) ∧ w'.cell? ⟨w.heap.size, 2, none⟩ = some (.slice A2 k0 c2) ∧ w'.cell? ⟨w.heap.size, 3, none⟩ = some (.slice none 0 0)) := Lib.hid (fun w' g => by
   obtain ⟨_, _, a0, a1, a2, a3, a4, a5, a6, a7, a8, a9⟩ := TX.out w' (HW.out.trans g)
   exact ⟨a1, a2, a3⟩)
 have HBW : Hid (∀ w', Bw W w' → Bw w w') := Lib.hid (fun w' g => (TX.out w' (HW.out.trans g)).2.1)
 have hzw : w.heap.size < W.heap.size := (TX.out W HW.out).1
 go_region_held3 (fun w' => w'.cell? ⟨w.heap.size, 1, none⟩ = some (.slice A1 n c1) ∧ w'.cell? ⟨w.heap.size, 2, none⟩ = some (.slice A2 k0 c2) ∧ w'.cell? ⟨w.heap.size, 3, none⟩ = some (.slice none 0 0))
   (first | (refine KS.out _ ?_; first | exact (Bw.refl _).drew | exact HG7.out | exact HG8.out | exact HG9.out))
   (first
     | (refine step_append_any _ rfl (.const (.slice none 0 0)) (.tmp 8) 26 rfl W.heap.size 9 i0 _ 1 16 Tryz.underlying26 hi hz0 hz1 hz2 rfl (by decide) (.slice none 0 0) 0 [] (by simp [Act.eval]) (World.ownsRow_nil _ _ _ _) W.heap.size A1 n c1 (strVs m.ss) (by simp [Act.eval, Act.put]) (R1.out _ (HBW.out _ (Bw.refl _).drew)) (strVs_one _) (by unfold maxLen; omega) (by omega) (Nat.le_refl _) ?_; intro v7 w7 hown7 hgr7 hl7; simp only [Nat.zero_add, List.nil_append] at hown7; obtain ⟨A7, c7, rfl, -, -⟩ := own_bounds hown7; (have HO7 := Lib.hid hown7); (have HG7 : Hid (Bw W w7) := Lib.hid (Below.grown (Bw.refl W).drew hgr7 (Nat.le_refl _) (fun r e => by cases e))); clear hown7 hgr7 hl7)
     | (refine step_append_any _ rfl (.tmp 9) (.tmp 11) 26 rfl W.heap.size 9 i0 _ 1 16 Tryz.underlying26 hi hz0 hz1 hz2 rfl (by decide) (.slice A7 n c7) n (strVs m.ss) (by simp [Act.eval, Act.put]) HO7.out w7.heap.size A2 k0 c2 (strVs m.ps) (by simp [Act.eval, Act.put]) (R2.out _ (HBW.out _ HG7.out)) (strVs_one _) (by unfold maxLen; omega) (by omega) HG7.out.size ?_; intro v8 w8 hown8 hgr8 hl8; obtain ⟨A8, c8, rfl, -, -⟩ := own_bounds hown8; (have HO8 := Lib.hid hown8); (have HG8 : Hid (Bw W w8) := Lib.hid (Below.grown HG7.out hgr8 HG7.out.size (fun r e => (HO7.out.lt r e).1))); clear hown8 hgr8 hl8)
     | (refine step_append_any _ rfl (.tmp 12) (.tmp 14) 26 rfl W.heap.size 9 i0 _ 1 16 Tryz.underlying26 hi hz0 hz1 hz2 rfl (by decide) (.slice A8 (n + k0) c8) (n + k0) (strVs m.ss ++ strVs m.ps) (by simp [Act.eval, Act.put]) HO8.out w8.heap.size none 0 0 [] (by simp [Act.eval, Act.put]) Reads.none_ (by simp) (by unfold maxLen; omega) (by omega) HG8.out.size ?_; intro v9 w9 hown9 hgr9 hl9; simp only [Nat.add_zero, List.append_nil] at hown9; obtain ⟨A9, c9, rfl, -, -⟩ := own_bounds hown9; (have HO9 := Lib.hid hown9); (have HG9 : Hid (Bw W w9) := Lib.hid (Below.grown HG8.out hgr9 HG8.out.size (fun r e => (HO8.out.lt r e).1))); clear hown9 hgr9 hl9))
 have HO0 : Hid (w9.ownsRow W.heap.size 9 1 (.slice A9 (n + k0) c9) (n + k0) (strVs (m.ss ++ m.ps ++ (m.rs.take 0).map Rul.nm))) := Lib.hid (by rw [← N0.out]; exact HO9.out)
 clear HO9 HO8 HO7 HG8 HG7 KS R1 R2 N0
 go_wp2_with fail
 go_loopw [3, 4] (fun s3 i wr => ∃ (j : Nat) (A : Option Addr) (c : Nat), j ≤ q ∧ i = .int .i64 j ∧ s3 = .slice A (n + k0 + j) c ∧ Hid (wr.ownsRow W.heap.size 9 1 (.slice A (n + k0 + j) c) (n + k0 + j) (strVs (m.ss ++ m.ps ++ (m.rs.take j).map Rul.nm)) ∧ Bw W wr)) (fun _ i _ => q - (intOf i).toNat)
 case atStart => exact ⟨0, A9, c9, by omega, rfl, rfl, Lib.hid ⟨HO0.out, HG9.out⟩⟩
 case round =>
   clear HO0 HG9
   obtain ⟨wo, hwo⟩ : ∃ wo, wo = wr := ⟨_, rfl⟩
   subst hwo
   obtain ⟨j, A, c, hj, rfl, rfl, HR⟩ := hrel
   obtain ⟨ho, hg⟩ := HR.out
   obtain ⟨y0, yb, y1, y2, y3, y4, y5, y6, y7, y8, y9, y10⟩ := TX.out wo (HW.out.trans hg)
   by_cases hlt : j < q
   · have e1 : j < m.rs.length := by rw [HRS.out]; exact hlt
     obtain ⟨ad, B1, q1, d1, B2, q2, d2, rfl, hb, hri, -, -⟩ := (R3.out wo yb).at_ e1
     have x0 := hri.c0
     have HE := Lib.hid (NE.out j m.rs[j] (List.getElem?_eq_getElem e1))
     have HO := Lib.hid ho
     have HG := Lib.hid hg
     clear hri ho hg HR yb
     generalize m.rs[j].nm = nm at *
     go_wp2_with (at_builtin; go_must (refine wpList_append_any _ rfl _ _ 26 rfl W.heap.size 9 i0 _ 1 16 Tryz.underlying26 hi hz0 hz1 hz2 rfl (by decide) (.slice A (n + k0 + j) c) (n + k0 + j) (strVs (m.ss ++ m.ps ++ (m.rs.take j).map Rul.nm)) rfl (HO.out.alloc _) (wo.heap.size + 1) (some ⟨wo.heap.size, 0, none⟩) 1 1 [.string nm] rfl (reads_new1s wo nm) (by simp [Value.oneCell']) (by unfold maxLen; omega) (by omega) (by simp; have := HG.out.size; omega) ?_; intro v7 w7 hown7 hgr7 hl7; obtain ⟨A7, c7, rfl⟩ := own_form hown7; (have HO7 := Lib.hid hown7); (have HG7 := Lib.hid hgr7); clear hown7 hgr7 hl7))
     go_roundw
     case rel =>
       refine ⟨j + 1, A7, c7, by omega, by go_num, by rw [Nat.add_assoc], Lib.hid ⟨?_, Below.grown (HG.out.alloc _) HG7.out (HG.out.alloc _).size (fun r e => ((HO.out.alloc (.cells #[.string nm] 9)).lt r e).1)⟩⟩
       rw [HE.out, ← strVs_append]
       exact HO7.out
     case measure => simp [intOf]; omega
   · obtain rfl : j = q := by omega
     have hfull := NF.out
     rw [hfull] at ho
     have hNL := NL.out
     have hrd : Hid (∀ W', Bw wo W' → Reads W' W'.heap.size 1 A (n + k0 + j) (strVs N)) := Lib.hid (fun W' g => Reads.of_own (own_kept_below ho g))
     have HG := Lib.hid (hg)
     clear ho hg HR yb hfull
     generalize hT : n + k0 + j = T at *
     have hT9 : T ≤ 100 := by omega
     clear hT
     go_wp2_with fail
     go_loopw [5] (fun i wr => ∃ k : Nat, k ≤ T ∧ i = .int .i64 k ∧ Hid (Bw wo wr)) (fun i _ => T - (intOf i).toNat)
     case atStart => exact ⟨0, by omega, rfl, Lib.hid (Bw.refl _)⟩
     case round =>
       obtain ⟨k, hk, rfl, HR⟩ := hrel
       by_cases hlt2 : k < T
       · have e1 : k < N.length := by omega
         obtain ⟨ad, u, rfl, hb, hu, hc⟩ := (hrd.out wr HR.out).at_ hlt2
         obtain rfl : u = .string N[k] := by
           rw [strVs, List.getElem?_map, List.getElem?_eq_getElem e1] at hu
           injection hu with hu; exact hu.symm
         have CW := Lib.hid (WO.out N[k] (List.getElem_mem e1))
         have CK := Lib.hid (KW.out N[k] (List.getElem_mem e1) wr)
         have HN := Lib.hid (fun l (hl : l < k) => ND.out k l e1 hl)
         clear hu
         generalize hnk : N[k] = nk at *
         go_wp2_with (first
           | (go_at_call 108; go_must (refine (CW.out _).mono ?_; rintro e w' ⟨rfl, rfl⟩))
           | (go_at_call 109; go_must (refine CK.out.mono ?_; rintro e w6 ⟨rfl, hg6⟩; (have HG6 := Lib.hid hg6); clear hg6)))
         have HG8 : Hid (Bw wo w6) := Lib.hid (HR.out.trans HG6.out)
         go_loopw [6] (fun i wr => ∃ l : Nat, l ≤ k ∧ i = .int .i64 l ∧ Hid (Bw wo wr)) (fun i _ => k - (intOf i).toNat)
         case atStart => exact ⟨0, Nat.zero_le _, rfl, HG8⟩
         case round =>
           obtain ⟨l, hl, rfl, HRI⟩ := hrel
           by_cases hlk : l < k
           · have e2 : l < N.length := by omega
             obtain ⟨ad2, u2, ee, hb2, hu2, hc2⟩ := (hrd.out wr HRI.out).at_ (show l < T by omega)
             obtain ⟨ad3, u3, ee3, hb3, hu3, hc3⟩ := (hrd.out wr HRI.out).at_ hlt2
             injection ee with ee; subst ee
             injection ee3 with ee3; subst ee3
             obtain rfl : u2 = .string N[l] := by
               rw [strVs, List.getElem?_map, List.getElem?_eq_getElem e2] at hu2
               injection hu2 with hu2; exact hu2.symm
             obtain rfl : u3 = .string nk := by
               rw [strVs, List.getElem?_map, List.getElem?_eq_getElem e1, hnk] at hu3
               injection hu3 with hu3; exact hu3.symm
             have t1 := HN.out l hlk
             clear hu2 hu3
             generalize N[l] = nl at *
             go_wp2_with fail
             go_quiet (fail)
             go_wp2_with fail
             go_roundw
             case rel => exact ⟨l + 1, by omega, by go_num, Lib.hid (HRI.out.drewN _)⟩
             case measure => simp [intOf]; omega
           · obtain rfl : l = k := by omega
             go_wp2_with fail
             go_roundw
             case rel => exact ⟨l + 1, by omega, by go_num, HRI⟩
             case measure => simp [intOf]; omega
       · obtain rfl : k = T := by omega
         go_wp2
         go_ret
         exact ⟨rfl, HBW.out _ (HG.out.trans HR.out)⟩
theorem tvbox {w : World} {kd z x : Int} {r p s : Value} : Bw w ((w.alloc (.cells #[.int .i64 kd, .int .i64 z, r, p] 50)).alloc (.cells #[.int .i64 x, s] 31)) ∧ ∀ W, Bw ((w.alloc (.cells #[.int .i64 kd, .int .i64 z, r, p] 50)).alloc (.cells #[.int .i64 x, s] 31)) W →
   w.heap.size + 1 < W.heap.size ∧ Bw w W ∧ W.cell? ⟨w.heap.size, 0, none⟩ = some (.int .i64 kd) ∧ W.cell? ⟨w.heap.size, 1, none⟩ = some (.int .i64 z) ∧ W.cell? ⟨w.heap.size, 2, none⟩ = some r ∧ W.cell? ⟨w.heap.size, 3, none⟩ = some p ∧ W.cell? ⟨w.heap.size + 1, 0, none⟩ = some (.int .i64 x) ∧ W.cell? ⟨w.heap.size + 1, 1, none⟩ = some s := by
 obtain ⟨b0, b1, b2⟩ := boxes w (.int .i64 kd) (.int .i64 z) r p (.int .i64 x) s
 refine ⟨b0, fun W g => ?_⟩
 have b3 := b1.below g.b b1.lt
 have b4 := b2.below g.b b2.lt
 exact ⟨b4.lt, b0.trans g, b3.cell 0, b3.cell 1, b3.cell 2, b3.cell 3, b4.cell 0, b4.cell 1⟩
def hasB (t : T) (b : List V) (v : V) : Bool := checkB t b == 0 && validP t v && hasP t b v
theorem bHas_any (t : T) [Nonempty (FlatT t)] (l : List V) (v : V) (rv pv s s2 : Value) (w : World) (hT : TB w w.heap.size rv pv t) (h : KB w w.heap.size s l) (h2 : KB w w.heap.size s2 v.ks) :
   Calls Tryz.prog 69 #[.agg #[.int .i64 t.kind, .int .i64 t.size, rv, pv], s, .agg #[.int .i64 v.n, s2]] w (BoolPost w (hasB t l v)) := by
 obtain ⟨A, n, c, rfl, ln, bn, mn⟩ := h.form
 obtain ⟨B, m, e, rfl, _, _, _⟩ := h2.form
 obtain ⟨A1, rn, c1, rfl, _, _⟩ := hT.1.form'
 obtain ⟨A2, pn, c2, rfl, _, _, _⟩ := hT.2.form
 have CK : Hid (∀ W, Bw w W → Calls Tryz.prog 118 #[.agg #[.int .i64 t.kind, .int .i64 t.size, .slice A1 rn c1, .slice A2 pn c2], .slice A n c] W (NumPost W (checkB t l))) := Lib.hid (fun W g => bCheck_any t l _ _ _ W (TAt.bw hT g) (h.bw g))
 have CV : Hid (∀ W, Bw w W → Calls Tryz.prog 54 #[.agg #[.int .i64 t.kind, .int .i64 t.size, .slice A1 rn c1, .slice A2 pn c2], .agg #[.int .i64 v.n, .slice B m e]] W (BoolPost W (validP t v))) := Lib.hid (fun W g => ovalid_any t v _ _ _ W (TAt.bw hT g) (h2.bw g) _ rfl)
 have CH : Hid (checkB t l = 0 → validP t v = true → ∀ W, Bw w W → Calls Tryz.prog 119 #[.agg #[.int .i64 t.kind, .int .i64 t.size, .slice A1 rn c1, .slice A2 pn c2], .slice A n c, .agg #[.int .i64 v.n, .slice B m e]] W (BoolPost W (hasP t l v))) := Lib.hid (fun hc hv W g => by
   have hz := checkB_zero.1 hc
   exact bhas_any t hz.1 l v (fun x hx => validP_one (hz.2.2.1 x hx)) (validP_one hv) _ _ _ _ W (TAt.bw hT g) (h.bw g) (h2.bw g))
 have TX := Lib.hid (tvbox (w := w) (kd := t.kind) (z := t.size) (x := v.n) (r := .slice A1 rn c1) (p := .slice A2 pn c2) (s := .slice B m e))
 unfold hasB
 clear hT h h2 ln
 generalize hasP t l v = q at *
 generalize t.kind = kd at *
 generalize t.size = z at *
 generalize v.n = x at *
 generalize hc : checkB t l = r at *
 have HC := Lib.hid hc
 clear hc
 by_cases h0 : r = 0
 · subst h0
   rcases hv : validP t v with _ | _
   · rw [hv] at CV
     clear CH hv
     go_enter Tryz.func69, Tryz.ntmps69
     go_wp2_with (first | (go_at_call 118; go_must (refine (CK.out _ TX.out.1).mono ?_; rintro e6 w6 ⟨rfl, hg6⟩; (have HG6 := Lib.hid hg6); (obtain ⟨y0, -, y1, y2, y3, y4, y5, y6⟩ := TX.out.2 _ hg6); clear hg6)) | (go_at_call 54; go_must (refine (CV.out _ (TX.out.1.trans HG6.out)).mono ?_; rintro e7 w7 ⟨rfl, hg7⟩; (have HG7 := Lib.hid (HG6.out.trans hg7)); clear hg7)))
     go_ret
     exact ⟨rfl, TX.out.1.trans HG7.out⟩
   · rw [hv] at CV CH
     have CH2 := Lib.hid (CH.out rfl rfl)
     clear CH hv
     go_enter Tryz.func69, Tryz.ntmps69
     go_wp2_with (first | (go_at_call 118; go_must (refine (CK.out _ TX.out.1).mono ?_; rintro e6 w6 ⟨rfl, hg6⟩; (have HG6 := Lib.hid hg6); (obtain ⟨y0, -, y1, y2, y3, y4, y5, y6⟩ := TX.out.2 _ hg6); clear hg6)) | (go_at_call 54; go_must (refine (CV.out _ (TX.out.1.trans HG6.out)).mono ?_; rintro e7 w7 ⟨rfl, hg7⟩; (have HG7 := Lib.hid (HG6.out.trans hg7)); (obtain ⟨u0, -, u1, u2, u3, u4, u5, u6⟩ := TX.out.2 _ HG7.out); clear hg7)) | (go_at_call 119; go_must (refine (CH2.out _ (TX.out.1.trans HG7.out)).mono ?_; rintro e8 w8 ⟨rfl, hg8⟩; (have HG8 := Lib.hid (HG7.out.trans hg8)); clear hg8)))
     go_ret
     exact ⟨rfl, TX.out.1.trans HG8.out⟩
 · have d1 : (r == 0) = false := by simpa using h0
   have HF : Hid ((r == 0 && validP t v && q) = false) := Lib.hid (by rw [d1]; rfl)
   rw [HF.out]
   clear CH CV
   go_enter Tryz.func69, Tryz.ntmps69
   go_wp2_with (first | (go_at_call 118; go_must (refine (CK.out _ TX.out.1).mono ?_; rintro e6 w6 ⟨rfl, hg6⟩; (have HG6 := Lib.hid hg6); clear hg6)))
   go_ret
   exact ⟨rfl, TX.out.1.trans HG6.out⟩
theorem KAt.pairs {w : World} {S : Nat → Prop} {A : Option Addr} {n c : Nat} {l : List V} (h : KAt w S (.slice A n c) l) :
   ∃ ps : List VS, ps.map (·.1) = l ∧ (∀ b, A = some b → ∀ j u, (pCells ps)[j]? = some u → w.cell? (b.add j) = some u ∧ S b.block) ∧ (∀ p ∈ ps, KAt w S p.2 p.1.ks) := by
 cases h with
 | mk _ _ _ _ ss hl hs hc hm ha hk =>
   refine ⟨l.zip ss, ?_, ?_, ?_⟩
   · rw [List.map_fst_zip (by omega)]
   · intro b hb j u hu
     have hj : j < n * 2 := by
       have : j < (pCells (l.zip ss)).length := by
         rcases Nat.lt_or_ge j (pCells (l.zip ss)).length with h | h
         · exact h
         · rw [List.getElem?_eq_none h] at hu; cases hu
       rw [pCells_length, List.length_zip] at this; omega
     obtain ⟨ad, rfl, hS, h2⟩ := ha (by omega)
     obtain rfl : ad = b := Option.some.inj hb
     refine ⟨?_, hS⟩
     have hk2 : j / 2 < (l.zip ss).length := by rw [List.length_zip]; omega
     have h3 := h2 (j / 2) (by omega) (by omega)
     have h4 := pCells_get hk2
     have e := Nat.div_add_mod j 2
     rcases Nat.mod_two_eq_zero_or_one j with h0 | h0
     · have e1 : j / 2 * 2 = j := by omega
       rw [e1] at h3 h4
       rw [h3.1, ← hu, h4.1]; simp
     · have e1 : j = j / 2 * 2 + 1 := by omega
       rw [e1] at hu ⊢
       rw [h4.2] at hu
       have := add_off ad (j / 2 * 2) 0
       rw [Nat.zero_add] at this
       rw [this, ← hu, h3.2]; simp
   · intro p hp
     obtain ⟨k, hk1, rfl⟩ := List.getElem_of_mem hp
     rw [List.length_zip] at hk1
     have := hk k (by omega) (by omega)
     simpa using this
theorem snoc_kb {w w1 : World} {v' : Value} {ps : List VS} {v : V} {s : Value} {B : Nat} (hB : w.heap.size ≤ B) (hown : w1.ownsRow B 31 2 v' (ps.length + 1) (pCells ps ++ [.int .i64 v.n, s])) (hps : ∀ p ∈ ps, KB w w.heap.size p.2 p.1.ks) (hs : KB w w.heap.size s v.ks) (hg : Bw w w1) :
   KB w1 w1.heap.size v' (ps.map (·.1) ++ [v]) := by
 have hm : MRow w1 B v' (ps ++ [(v, s)]) := ⟨by
   rw [pCells_append]; simpa [pCells] using hown, fun p hp => by
   have key : ∀ {s : Value} {ks : List V}, KB w w.heap.size s ks → KAt w1 (· < B) s ks := fun h => (h.under hg.b).more hB
   rcases List.mem_append.1 hp with hp | hp
   · exact key (hps p hp)
   · obtain rfl := List.mem_singleton.1 hp; exact key hs⟩
 have hlt : B ≤ w1.heap.size := by
   have := hown.2
   rcases this with ⟨_, h0⟩ | ⟨g, cap, cur, _, h1, h2, _⟩
   · omega
   · have : g < w1.heap.size := by
       rcases Nat.lt_or_ge g w1.heap.size with h | h
       · exact h
       · rw [Array.getElem?_eq_none h] at h2; cases h2
     omega
 have := hm.kb hlt
 simpa using this
theorem cut_full (A : Option Addr) (n c : Nat) (h : n ≤ c) (W : World) : (Instr.slice 29 (.slice A n c) none (some (.int .i64 (n : Int))) (some (.int .i64 (n : Int)))).run Tryz.prog W = .ok (.slice A n n) W := by
 rw [cutV_hm A n c n n (Nat.le_refl _) h W]
 have e : A.map (·.add (0 * 2)) = A := by cases A <;> simp [Addr.add]
 unfold sliced
 rw [e]; simp
theorem kb_of {w w' : World} {s : Value} {qs : List VS} {l : List V} (hm : MRow w' w.heap.size s qs) (he : qs.map (·.1) = l) (hg : Bw w w') : KB w' w'.heap.size s l := by
 have := hm.kb hg.size; rwa [he] at this
def InsPost (w : World) (l : List V) (is : Bool) (er : Int) (e : Ending) (w' : World) : Prop := ∃ s, e = .returned (.tuple #[s, .bool is, .int .i64 er]) ∧ KAt w' (fun b => w.heap.size ≤ b ∧ b < w'.heap.size) s l ∧ Bw w w'
def insP (t : T) (b : List V) (v : V) : List V × Bool × Int :=
 if checkB t b = 0 then (if validP t v then ((limP (minimalP (belowP 8 t) (b ++ [v]))).1, (limP (minimalP (belowP 8 t) (b ++ [v]))).2 == 0 && !hasP t b v, (limP (minimalP (belowP 8 t) (b ++ [v]))).2) else ([], false, 5)) else ([], false, checkB t b)
theorem bInsert_any (t : T) [Nonempty (FlatT t)] (l : List V) (v : V) (rv pv s s2 : Value) (w : World) (hT : TB w w.heap.size rv pv t) (h : KB w w.heap.size s l) (h2 : KB w w.heap.size s2 v.ks) :
   Calls Tryz.prog 251 #[.agg #[.int .i64 t.kind, .int .i64 t.size, rv, pv], s, .agg #[.int .i64 v.n, s2]] w (InsPost w (insP t l v).1 (insP t l v).2.1 (insP t l v).2.2) := by
 obtain ⟨A, n, c, rfl, ln, bn, mn⟩ := h.form
 obtain ⟨B, m, e, rfl, _, _, _⟩ := h2.form
 obtain ⟨A1, rn, c1, rfl, _, _⟩ := hT.1.form'
 obtain ⟨A2, pn, c2, rfl, _, _, _⟩ := hT.2.form
 have CK : Hid (∀ W, Bw w W → Calls Tryz.prog 118 #[.agg #[.int .i64 t.kind, .int .i64 t.size, .slice A1 rn c1, .slice A2 pn c2], .slice A n c] W (NumPost W (checkB t l))) := Lib.hid (fun W g => bCheck_any t l _ _ _ W (TAt.bw hT g) (h.bw g))
 have CV : Hid (∀ W, Bw w W → Calls Tryz.prog 54 #[.agg #[.int .i64 t.kind, .int .i64 t.size, .slice A1 rn c1, .slice A2 pn c2], .agg #[.int .i64 v.n, .slice B m e]] W (BoolPost W (validP t v))) := Lib.hid (fun W g => ovalid_any t v _ _ _ W (TAt.bw hT g) (h2.bw g) _ rfl)
 have TX := Lib.hid (tvbox (w := w) (kd := t.kind) (z := t.size) (x := v.n) (r := .slice A1 rn c1) (p := .slice A2 pn c2) (s := .slice B m e))
 unfold insP
 by_cases h0 : checkB t l = 0
 · rw [if_pos h0]
   rw [h0] at CK
   have hz := checkB_zero.1 h0
   rcases hv : validP t v with _ | _
   · rw [hv] at CV
     rw [if_neg (by simp)]
     clear hT h h2 ln h0 hz hv
     generalize t.kind = kd at *
     generalize t.size = z at *
     generalize v.n = x at *
     go_enter Tryz.func251, Tryz.ntmps251
     go_wp2_with (first | (go_at_call 118; go_must (refine (CK.out _ TX.out.1).mono ?_; rintro e6 w6 ⟨rfl, hg6⟩; (have HG6 := Lib.hid hg6); (obtain ⟨y0, -, y1, y2, y3, y4, y5, y6⟩ := TX.out.2 _ hg6); clear hg6)) | (go_at_call 54; go_must (refine (CV.out _ (TX.out.1.trans HG6.out)).mono ?_; rintro e7 w7 ⟨rfl, hg7⟩; (have HG7 := Lib.hid (HG6.out.trans hg7)); clear hg7)))
     go_ret3
     exact ⟨_, rfl, KAt.nil _ _ (Nat.zero_le _), TX.out.1.trans HG7.out⟩
   · rw [hv] at CV
     rw [if_pos rfl]
     obtain ⟨ps, hps, hcell, hkid⟩ := h.pairs
     have hpl : ps.length = n := by rw [← ln, ← hps]; simp
     have ho : ∀ x ∈ l ++ [v], oneP 8 t x = true := fun x hx => by
       rcases List.mem_append.1 hx with hx | hx
       · exact validP_one (hz.2.2.1 x hx)
       · obtain rfl := List.mem_singleton.1 hx; exact validP_one hv
     have hn256 : n ≤ 256 := by rw [← ln]; exact hz.2.1
     have CM : Hid (∀ W s', Bw w W → KB W W.heap.size s' (l ++ [v]) → Calls Tryz.prog 116 #[.agg #[.int .i64 t.kind, .int .i64 t.size, .slice A1 rn c1, .slice A2 pn c2], s'] W (MinPost W (minimalP (belowP 8 t) (l ++ [v])))) := Lib.hid (fun W s' g hk => bminimal_any t hz.1 (l ++ [v]) ho (by rw [List.length_append, ln]; simp; omega) _ _ _ W (TAt.bw hT g) hk)
     have CL : Hid (∀ W s', KB W W.heap.size s' (minimalP (belowP 8 t) (l ++ [v])) → Calls Tryz.prog 115 #[s'] W (ValsErr W (limP (minimalP (belowP 8 t) (l ++ [v]))).1 (limP (minimalP (belowP 8 t) (l ++ [v]))).2)) := Lib.hid (fun W s' hk => blimited_any _ (fun x hx => by
       have := (minP_spec (below_ord hz.1) ho).2.1 x hx
       rcases List.mem_append.1 this with hx | hx
       · exact validP_size (hz.2.2.1 x hx)
       · obtain rfl := List.mem_singleton.1 hx; exact validP_size hv) s' W hk)
     have CH : Hid (∀ W, Bw w W → Calls Tryz.prog 119 #[.agg #[.int .i64 t.kind, .int .i64 t.size, .slice A1 rn c1, .slice A2 pn c2], .slice A n c, .agg #[.int .i64 v.n, .slice B m e]] W (BoolPost W (hasP t l v))) := Lib.hid (fun W g => bhas_any t hz.1 l v (fun x hx => validP_one (hz.2.2.1 x hx)) (validP_one hv) _ _ _ _ W (TAt.bw hT g) (h.bw g) (h2.bw g))
     have SK : Hid (∀ w1 v' B0, w.heap.size ≤ B0 → Bw w w1 → w1.ownsRow B0 31 2 v' (n + 1) (pCells ps ++ [.int .i64 v.n, .slice B m e]) → KB w1 w1.heap.size v' (l ++ [v])) := Lib.hid (fun w1 v' B0 hB g hown => by
       have := snoc_kb hB (by rw [hpl]; exact hown) hkid h2 g
       rwa [hps] at this)
     have hA0 : A = none → n = 0 := by
       intro e0
       by_cases hn : n = 0
       · exact hn
       · obtain ⟨ad, _, _, _, ea, _⟩ := h.at_ (k := 0) (by rw [ln]; omega)
         rw [ea] at e0; cases e0
     have HCC : Hid (∀ W', Bw w W' → ∀ b, A = some b → ∀ j u, (pCells ps)[j]? = some u → W'.cell? (b.add j) = some u) := Lib.hid (fun W' g b hb j u hu => (g.b.cell (by rw [add_block]; exact (hcell b hb j u hu).2)).trans (hcell b hb j u hu).1)
     have HPL := Lib.hid hpl
     clear hT h h2 ln h0 hz hv hps hcell hkid hpl ho
     have HA0 := Lib.hid hA0
     clear hA0
     generalize minimalP (belowP 8 t) (l ++ [v]) = ml at *
     generalize l ++ [v] = lv at *
     generalize (limP ml).1 = l1 at *
     generalize (limP ml).2 = l2 at *
     generalize hasP t l v = q at *
     generalize t.kind = kd at *
     generalize t.size = z at *
     generalize v.n = x at *
     go_enter Tryz.func251, Tryz.ntmps251
     go_wp2_with (first | (go_at_call 118; go_must (refine (CK.out _ TX.out.1).mono ?_; rintro e6 w6 ⟨rfl, hg6⟩; (have HG6 := Lib.hid hg6); (obtain ⟨y0, -, y1, y2, y3, y4, y5, y6⟩ := TX.out.2 _ hg6); clear hg6)) | (go_at_call 54; go_must (refine (CV.out _ (TX.out.1.trans HG6.out)).mono ?_; rintro e7 w7 ⟨rfl, hg7⟩; (have HG7 := Lib.hid (HG6.out.trans hg7)); clear hg7 y0 y1 y2 y3 y4 y5 y6)))
     have HW7 : Hid (Bw w w7) := Lib.hid (TX.out.1.trans HG7.out)
     have hcut : ∀ W, (Instr.slice 29 (.slice A n c) none (some (.int .i64 (n : Int))) (some (.int .i64 (n : Int)))).run Tryz.prog W = .ok (.slice A n n) W := fun W => cut_full A n c bn W
     refine wp_world (fun W => Hid (∀ W', Bw W W' → w.heap.size + 1 < W'.heap.size ∧ Bw w W' ∧ W'.cell? ⟨w.heap.size, 0, none⟩ = some (.int .i64 kd) ∧ W'.cell? ⟨w.heap.size, 1, none⟩ = some (.int .i64 z) ∧ W'.cell? ⟨w.heap.size, 2, none⟩ = some (.slice A1 rn c1) ∧ W'.cell? ⟨w.heap.size, 3, none⟩ = some (.slice A2 pn c2) ∧ W'.cell? ⟨w.heap.size + 1, 0, none⟩ = some (.int .i64 x) ∧ W'.cell? ⟨w.heap.size + 1, 1, none⟩ = some (.slice B m e))) (Lib.hid (fun W' g => TX.out.2 W' (HG7.out.trans g))) ?_
     intro W HW
     have KS : Hid (∀ w', Bw W w' → w'.cell? ⟨w.heap.size, 0, none⟩ = some (.int .i64 kd) ∧ w'.cell? ⟨w.heap.size, 1, none⟩ = some (.int .i64 z) ∧ w'.cell? ⟨w.heap.size, 2, none⟩ = some (.slice A1 rn c1) ∧ w'.cell? ⟨w.heap.size, 3, none⟩ = some (.slice A2 pn c2) ∧ w'.cell? ⟨w.heap.size + 1, 0, none⟩ = some (.int .i64 x) ∧ w'.cell? ⟨w.heap.size + 1, 1, none⟩ = some (.slice B m e) ∧ Bw W w') := Lib.hid (fun w' g => by
       obtain ⟨_, _, a1, a2, a3, a4, a5, a6⟩ := HW.out w' g
       exact ⟨a1, a2, a3, a4, a5, a6, g⟩)
     have HBW : Hid (∀ w', Bw W w' → Bw w w') := Lib.hid (fun w' g => (HW.out w' g).2.1)
     obtain ⟨i0, hi, hz0, hz1, hz2⟩ := info_parts infoVal
     have hsz := (HW.out W (Bw.refl _)).1
     have HSZ := Lib.hid hsz
     clear CK CV HW
     generalize hy : w.heap.size = y at *
     have HY := Lib.hid hy
     clear hy
     go_region_held3 (fun w' => w'.cell? ⟨y, 0, none⟩ = some (.int .i64 kd) ∧ w'.cell? ⟨y, 1, none⟩ = some (.int .i64 z) ∧ w'.cell? ⟨y, 2, none⟩ = some (.slice A1 rn c1) ∧ w'.cell? ⟨y, 3, none⟩ = some (.slice A2 pn c2) ∧ w'.cell? ⟨y + 1, 0, none⟩ = some (.int .i64 x) ∧ w'.cell? ⟨y + 1, 1, none⟩ = some (.slice B m e) ∧ Bw W w')
       (first | (refine KS.out _ ?_; first | exact (Bw.refl _).drew | exact ((Bw.refl _).alloc _).drew | exact (((Bw.refl _).alloc _).drew).trans (Bw.grown hgr8) | exact ((((Bw.refl _).alloc _).drew).trans (Bw.grown hgr8)).trans hg9 | exact (((((Bw.refl _).alloc _).drew).trans (Bw.grown hgr8)).trans hg9).trans hg10))
       (first
         | (refine step_append_grows (by rfl) _ _ 29 (by rfl) 31 i0 _ 2 32 Tryz.underlying29 hi hz0 hz1 hz2 rfl (by omega) A n n (pCells ps) (by rfl) (fun e0 => ⟨HA0.out e0, HA0.out e0⟩) (by rw [pCells_length, HPL.out]) (HCC.out _ (HBW.out _ (((Bw.refl _).alloc _).drew))) ⟨W.heap.size, 0, none⟩ 1 1 [.int .i64 x, .slice B m e] (by rfl) (by rfl) (World.news_of_block (cs := #[.int .i64 x, .slice B m e]) (t := 31) (fr := (0, 0)) (heap_alloc_new W _)) (one2 _ _ _ _) (by omega) (by unfold maxLen; omega) (by omega) ?_; intro v8 w8 hown8 hgr8; obtain ⟨A8, c8, rfl⟩ := own_form hown8)
         | (go_at_call 116; (with_reducible refine (CM.out _ _ (HBW.out _ ((((Bw.refl _).alloc _).drew).trans (Bw.grown hgr8))) (SK.out _ _ _ (by simp; omega) (HBW.out _ ((((Bw.refl _).alloc _).drew).trans (Bw.grown hgr8))) hown8)).mono ?_); rintro e9 w9 ⟨s9, qs, rfl, hm9, he9, hg9⟩; obtain ⟨A9, c9, rfl, _, _⟩ := hm9.form)
         | (go_at_call 115; (with_reducible refine (CL.out _ _ (kb_of hm9 he9 hg9)).mono ?_); rintro e10 w10 ⟨s10, rfl, hk10, hg10⟩; obtain ⟨A10, n10, c10, rfl, _, _, _⟩ := hk10.form))
     have HG10 : Hid (Bw W w10) := Lib.hid (((((Bw.refl _).alloc _).drew.trans (Bw.grown hgr8)).trans hg9).trans hg10)
     have HK10 := Lib.hid hk10
     have HS9 : Hid (w.heap.size ≤ w9.heap.size) := Lib.hid (HBW.out w9 ((((Bw.refl _).alloc _).drew.trans (Bw.grown hgr8)).trans hg9)).size
     obtain ⟨k1, k2, k3, k4, k5, k6, -⟩ := KS.out w10 HG10.out
     have k7 : y + 1 < w10.heap.size := by have := HG10.out.size; have := HSZ.out; omega
     have hKF : KAt w10 (fun b => w.heap.size ≤ b ∧ b < w10.heap.size) (.slice A10 n10 c10) l1 := hk10.keep (fun b hb => ⟨Nat.le_trans HS9.out hb.1, hb.2⟩) (fun _ _ => rfl)
     have HKF := Lib.hid hKF
     clear hgr8 hown8 hm9 he9 hg9 hg10 hk10 hKF HK10 KS
     by_cases h5 : l2 = 0
     · subst h5
       go_wp2_with (go_at_call 119; go_must (refine (CH.out _ (HBW.out _ HG10.out)).mono ?_; rintro e11 w11 ⟨rfl, hg11⟩; (have HG11 := Lib.hid hg11); clear hg11))
       go_ret3
       exact ⟨_, rfl, HKF.out.keep (fun b hb => ⟨hb.1, Nat.lt_of_lt_of_le hb.2 HG11.out.size⟩) (fun p hp => HG11.out.b.cell hp.2), (HBW.out _ HG10.out).trans HG11.out⟩
     · have d5 : (l2 == 0) = false := by simpa using h5
       have HF : Hid ((l2 == 0 && !q) = false) := Lib.hid (by rw [d5]; rfl)
       go_wp2
       go_ret3
       rw [HF.out]
       exact ⟨_, rfl, HKF.out, HBW.out _ HG10.out⟩
 · rw [if_neg h0]
   clear hT h h2 ln CV
   generalize checkB t l = r at *
   have d1 : (r != 0) = true := by simpa using h0
   have d2 : (r == 0) = false := by simpa using h0
   generalize t.kind = kd at *
   generalize t.size = z at *
   generalize v.n = x at *
   go_enter Tryz.func251, Tryz.ntmps251
   go_wp2_with (first | (go_at_call 118; go_must (refine (CK.out _ TX.out.1).mono ?_; rintro e6 w6 ⟨rfl, hg6⟩; (have HG6 := Lib.hid hg6); clear hg6)))
   go_ret3
   exact ⟨_, rfl, KAt.nil _ _ (Nat.zero_le _), TX.out.1.trans HG6.out⟩
theorem grown_setCells {w : World} {g : Nat} : ∀ (vs : List Value) (o : Nat) (W : World), w.grownBy W (some g) → w.grownBy (W.setCells g o vs) (some g) := by
 intro vs
 induction vs with
 | nil => intro o W hW; exact hW
 | cons v r ih => intro o W hW; exact ih (o + 1) _ (grownBy_setCell (p := ⟨g, o, none⟩) hW (.inl rfl) v)
theorem own_setCells {L e g n c : Nat} : ∀ (vs : List Value) (o : Nat) (W : World) (xs : List Value), W.ownsRow L e 2 (.slice (some ⟨g, 0, none⟩) n c) n xs → ∃ ys, (W.setCells g o vs).ownsRow L e 2 (.slice (some ⟨g, 0, none⟩) n c) n ys ∧ (∀ j, j < o → ys[j]? = xs[j]?) ∧ (∀ j, j < vs.length → o + j < xs.length → ys[o + j]? = vs[j]?) := by
 intro vs
 induction vs with
 | nil => intro o W xs hW; exact ⟨xs, hW, fun _ _ => rfl, fun j hj => absurd hj (by simp)⟩
 | cons v r ih =>
   intro o W xs hW
   obtain ⟨ys, h2, h3, h4⟩ := ih (o + 1) _ _ (hW.stored o v).1
   refine ⟨ys, h2, fun j hj => by rw [h3 j (by omega), List.getElem?_set_ne (by omega)], fun j hj hx => ?_⟩
   cases j with
   | zero => rw [Nat.add_zero, h3 o (by omega), List.getElem?_set_self (by omega)]; rfl
   | succ j =>
     have := h4 j (by simpa using hj) (by rw [List.length_set]; omega)
     rw [show o + (j + 1) = o + 1 + j by omega, this]; simp
theorem own_shorter {w : World} {L e g n i c : Nat} {xs : List Value} (h : w.ownsRow L e 2 (.slice (some ⟨g, 0, none⟩) n c) n xs) (hi : i ≤ n) : w.ownsRow L e 2 (.slice (some ⟨g, 0, none⟩) i c) i (xs.take (i * 2)) := by
 refine ⟨by rw [List.length_take, h.1]; omega, ?_⟩
 rcases h.2 with ⟨e, _⟩ | ⟨g', cap, cur, e, h3, h4, h5, h6, h7, h8⟩
 · cases e
 · injection e with e1 e2 e3
   injection e1 with e1
   injection e1 with e1
   subst e1 e3
   refine .inr ⟨g, _, cur, rfl, h3, h4, by omega, h6, h7, ?_⟩
   rw [← h8, List.take_take]
   congr 1; omega
theorem clear_vals {w : World} {L g i n c : Nat} {xs : List Value} (h : w.ownsRow L 31 2 (.slice (some ⟨g, 0, none⟩) n c) n xs) (hi : i < n) (ty : TypeId) :
   (Builtin.clear_ #[29] ty #[.slice (some ⟨g, i * 2, none⟩) (n - i) (c - i)]).run Tryz.prog w = .ok (.tuple #[]) (w.setCells g (i * 2) (pCells (List.replicate (n - i) zVS))) := by
 have h1 : ∀ v ∈ pCells (List.replicate (n - i) zVS), v.oneCell' = true := by
   intro v hv
   simp only [pCells, List.mem_flatMap] at hv
   obtain ⟨p, hp, hv⟩ := hv
   obtain rfl := (List.mem_replicate.1 hp).2
   simp [zVS] at hv
   rcases hv with rfl | rfl <;> rfl
 have hl : (pCells (List.replicate (n - i) zVS)).length = (n - i) * 2 := by rw [pCells_length]; simp
 have hst := run_storeCells_cells (P := Tryz.prog) g (i * 2) (pCells (List.replicate (n - i) zVS)) 0 w (fun j hj => by
   rw [hl] at hj
   rw [Nat.add_zero, h.cellAt (i * 2 + j) (by omega), List.getElem?_eq_getElem (by rw [h.1]; omega)]; rfl) (fun j hj => h.frozenAt _) h1
 rw [Nat.add_zero] at hst
 obtain ⟨m, hm⟩ : ∃ m, n - i = m + 1 := ⟨n - i - 1, by omega⟩
 rw [hm] at hst ⊢
 have hu : Tryz.prog.underlying 29 = some (.slice 31) := Tryz.underlying29
 simp [Builtin.clear_, run_underlying hu, zeroVal, zcells, hst]
theorem cutV_lh (A : Option Addr) (n c k m : Nat) (h : k ≤ m) (h2 : m ≤ c) (W : World) : (Instr.slice 29 (.slice A n c) (some (.int .i64 (k : Int))) (some (.int .i64 (m : Int))) none).run Tryz.prog W = .ok (sliced A k m c 2) W := by
 rw [run_slice_lh W 29 A n c (by kernel_rfl) .i64 .i64 (k : Int) (m : Int) (by omega) (by omega) (by omega)]
 have : (sizeOf (Tryz.prog.elem 29)).run Tryz.prog W = .ok 2 W := by kernel_rfl
 rw [this]; simp [Result.andThen]
def Del1Post (w : World) (L : Nat) (s : Value) (ps : List VS) (e : Ending) (w' : World) : Prop := ∃ s', e = .returned s' ∧ w'.ownsRow L 31 2 s' ps.length (pCells ps) ∧ w.grownBy w' s.ownBlock ∧ s'.ownBlock = s.ownBlock
theorem delFirst_any (L : Nat) (x : VS) (ps : List VS) (s : Value) (w : World) (hs : ∀ p ∈ ps, ∃ A n c, p.2 = .slice A n c) (h : w.ownsRow L 31 2 s (ps.length + 1) (pCells (x :: ps))) : Calls Tryz.prog 185 #[s, .int .i64 0, .int .i64 1] w (Del1Post w L s ps) := by
 obtain ⟨g, c, rfl, hg, hlt, hc, hm⟩ := own_one h (by omega)
 obtain ⟨n, hn⟩ : ∃ n, ps.length = n := ⟨_, rfl⟩
 rw [hn] at h hc
 unfold Del1Post
 rw [hn]
 have hlen : (pCells ps).length = n * 2 := by rw [pCells_length, hn]
 have hx2 : pCells (x :: ps) = [.int .i64 x.1.n, x.2] ++ pCells ps := rfl
 -- the cells that move tz the left
 obtain ⟨A, hA, hsrc⟩ : ∃ A : Addr, (if c = 1 then some (⟨g, 0, none⟩ : Addr) else some ⟨g, 2, none⟩) = some A ∧ Hid (∀ t u, (pCells ps)[t]? = some u → w.drew.cell? (A.add t) = some u) := by
   by_cases h1 : c = 1
   · refine ⟨⟨g, 0, none⟩, by simp [h1], fun t u hu => ?_⟩
     have := (List.getElem?_eq_some_iff.1 hu).1
     omega
   · refine ⟨⟨g, 2, none⟩, by simp [h1], fun t u hu => ?_⟩
     have ht := (List.getElem?_eq_some_iff.1 hu).1
     rw [Addr.add_lit]
     show w.cell? _ = _
     rw [h.cellAt (2 + t) (by omega), hx2, List.getElem?_append_right (by simp), ← hu]
     simp
 have s1 : Hid ((pCells ps).length = n * 2) := Lib.hid hlen
 have s2 : Hid (∀ u ∈ pCells ps, u.oneCell' = true) := Lib.hid (fun u hu => by
   simp only [pCells, List.mem_flatMap] at hu
   obtain ⟨p, hp, hu⟩ := hu
   obtain ⟨A, k, d, e⟩ := hs p hp
   simp [e] at hu
   rcases hu with rfl | rfl <;> rfl)
 have s3 : Hid (∀ t, t < (pCells ps).length → (w.drew.cell? ⟨g, 0 + 0 * 2 + t, none⟩).isSome = true ∧ w.drew.frozen? ⟨g, 0 + 0 * 2 + t, none⟩ = false) := Lib.hid (fun t ht => by
   rw [hlen] at ht
   refine ⟨?_, h.frozenAt _⟩
   show (w.cell? _).isSome = true
   rw [h.cellAt _ (by omega), List.getElem?_eq_getElem (by rw [h.1]; omega)]; rfl)
 obtain ⟨W1, hW1⟩ : ∃ W1, W1 = w.drew.setCells g (0 + 0 * 2) (pCells ps) := ⟨_, rfl⟩
 have hW : Hid (W1 = w.drew.setCells g (0 + 0 * 2) (pCells ps)) := Lib.hid hW1
 obtain ⟨ys, hy1, -, hy2⟩ := own_setCells (pCells ps) 0 w.drew _ (World.ownsRow.drew h)
 have hgr1 : w.grownBy W1 (some g) := by rw [hW1]; exact grown_setCells _ _ _ (gb_any (Bw.refl w).drew _)
 have hy1 : W1.ownsRow L 31 2 (.slice (some ⟨g, 0, none⟩) (n + 1) c) (n + 1) ys := by rw [hW1]; exact hy1
 have hcl := clear_vals hy1 (i := n) (by omega)
 obtain ⟨zs, hz1, hz2, -⟩ := own_setCells (pCells (List.replicate (n + 1 - n) zVS)) (n * 2) W1 _ hy1
 have hfin := own_shorter hz1 (i := n) (by omega)
 have hzs : zs.take (n * 2) = pCells ps := by
   apply List.ext_getElem?
   intro j
   by_cases hj : j < n * 2
   · rw [List.getElem?_take_of_lt hj, hz2 j hj]
     have := hy2 j (by omega) (by rw [hx2]; simp; omega)
     rwa [Nat.zero_add] at this
   · rw [List.getElem?_eq_none (by simp; omega), List.getElem?_eq_none (by omega)]
 rw [hzs] at hfin
 have HF := Lib.hid (And.intro hfin (grown_setCells (pCells (List.replicate (n + 1 - n) zVS)) (n * 2) W1 hgr1))
 have hn1 : n + 1 - n = 1 := by omega
 rw [hn1] at hcl HF
 have hcl2 : ∀ ty, (Builtin.clear_ #[29] ty #[.slice (some ⟨g, n * 2, none⟩) 1 (c - n)]).run Tryz.prog W1 = .ok (.tuple #[]) (W1.setCells g (n * 2) (pCells (List.replicate 1 zVS))) := hcl
 obtain ⟨i0, hi0, hz0, hzz, hz3⟩ := info_parts infoVal
 clear h hy1 hy2 hz1 hz2 hfin hzs hgr1 hW1 hx2 hcl hlen
 generalize W1.setCells g (n * 2) (pCells (List.replicate 1 zVS)) = W2 at *
 have q1 : ∀ W, (Instr.slice 29 (.slice (some ⟨g, 0, none⟩) (n + 1) c) (some (.int .i64 1)) none none).run Tryz.prog W = .ok (.slice (some A) n (c - 1)) W := fun W => by
   have := cutV_l (some ⟨g, 0, none⟩) (n + 1) c 1 (by omega) W
   rw [show sliced (some ⟨g, 0, none⟩) 1 (n + 1) c 2 = .slice (some A) n (c - 1) from by
     rw [← hA]; unfold sliced; by_cases h1 : c = 1 <;> simp [h1, Addr.add]] at this
   exact this
 have q0 : ∀ W, (Instr.slice 29 (.slice (some ⟨g, 0, none⟩) (n + 1) c) none (some (.int .i64 0)) none).run Tryz.prog W = .ok (.slice (some ⟨g, 0, none⟩) 0 c) W := fun W => by
   have := cutV_h (some ⟨g, 0, none⟩) (n + 1) c 0 (by omega) W
   rw [show sliced (some ⟨g, 0, none⟩) 0 0 c 2 = .slice (some ⟨g, 0, none⟩) 0 c from by unfold sliced; by_cases h1 : c = 0 <;> simp [h1, Addr.add]] at this
   exact this
 have q2 : ∀ W, (Instr.slice 29 (.slice (some ⟨g, 0, none⟩) n c) (some (.int .i64 (n : Int))) (some (.int .i64 ((n : Int) + 1))) none).run Tryz.prog W = .ok (.slice (some ⟨g, n * 2, none⟩) 1 (c - n)) W := fun W => by
   have := cutV_lh (some ⟨g, 0, none⟩) n c n (n + 1) (by omega) (by omega) W
   rw [show sliced (some ⟨g, 0, none⟩) n (n + 1) c 2 = .slice (some ⟨g, n * 2, none⟩) 1 (c - n) from by
     have h1 : ¬ (c = n) := by omega
     have h2 : ¬ (c - n = 0) := by omega
     unfold sliced; simp [h1, h2, add_zero_blk]] at this
   exact this
 go_enter Tryz.func185, Tryz.ntmps185
 go_wp2_with fail
 go_region_law (refine step_append_room rfl (.tmp 22) (.tmp 25) 29 rfl 31 i0 2 Tryz.underlying29 hi0 hzz g 0 0 c (by simp [Act.eval, Act.put]) A n (c - 1) (pCells ps) (by simp [Act.eval, Act.put]) s1.out hsrc.out s2.out (by omega) s3.out ?_; rw [← hW.out])
 go_wp2
 go_ret
 exact ⟨_, rfl, HF.out.1, HF.out.2, rfl⟩
end
end Go.Proofs.YthhbkabdhkdafaaGreat
