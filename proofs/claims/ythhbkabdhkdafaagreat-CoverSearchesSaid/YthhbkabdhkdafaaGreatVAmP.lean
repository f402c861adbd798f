/- Part of a proof of coverSearches_holds. -/
import Derived.Test.YthhbkabdhkdafaaGreatVAkP
import Derived.Lib.AppendZerosOnto
set_option linter.unusedSimpArgs false
set_option linter.unusedVariables false
set_option maxRecDepth 100000
set_option maxHeartbeats 16000000
namespace Go.Proofs.YthhbkabdhkdafaaGreat
section
open Go.RowKit
def IntsF (w : World) (cs : List Int) (e : Ending) (w' : World) : Prop := ∃ s, e = .returned s ∧ w'.ownsRow w.heap.size 3 1 s cs.length (intVs cs) ∧ Bw w w'
theorem growI_any (n : Nat) (hn : n ≤ 1000000) (w : World) : Calls Tryz.prog 373 #[.slice none 0 0, .int .i64 n] w (fun e w' => ∃ s, e = .returned s ∧ w'.ownsRow w.heap.size 3 1 s 0 [] ∧ Bw w w') := by
 by_cases h0 : n = 0
 · subst h0
   go_enter Tryz.func373, Tryz.ntmps373
   go_wp2
   go_ret
   exact ⟨_, rfl, World.ownsRow_nil _ _ _ _, Bw.refl _⟩
 · obtain ⟨i0, hi, hz0, hz1, hz2⟩ := info_parts infoInt
   have hrz : ∀ ty, (Builtin.append_ #[27, 3] ty #[.slice none 0 0, .int .i64 (n : Int)]).run Tryz.prog w = _ := fun ty =>
     Lib.run_append_grow_zeros w 27 3 ty 3 i0 _ .i64 .i64 Tryz.underlying27 Tryz.underlying3 hi hz0 none 0 0 [] (run_firstCells_none w.drew i0.size 0 0 0) n (by omega) (by omega) (by omega) (by omega) (by rw [hz2]; omega) (growslice_fits (by omega) (by rw [hz2]; omega))
   have hGn : 0 + n ≤ grownCap w (0 + n) 0 3 := grownCap_ge w _ _ _
   have hG63 : grownCap w (0 + n) 0 3 ≤ maxLen := grownCap_le_maxLen w (0 + n) 0 3 (by unfold maxLen; omega)
   generalize grownCap w (0 + n) 0 3 = G at *
   have hsz : ((#[] : Array Value) ++ Builtin.zeroCells (Value.int .i64 0).cells n ++ Builtin.zeroCells (Value.int .i64 0).cells (G - n)).size = G := by
     simp [size_zeroCells, Value.cells]; omega
   simp only [Nat.zero_add] at hrz
   have HSZ := Lib.hid hsz
   clear hsz
   have hG := hG63
   unfold maxLen at hG63
   have hn0 : 0 < n := by omega
   go_enter Tryz.func373, Tryz.ntmps373
   go_wp2_with (at_builtin; refine Lib.wpList_append_run _ rfl _ _ _ _ rfl _ _ rfl rfl _ _ (hrz _) ?_)
   go_ret
   refine ⟨_, rfl, ⟨by simp, .inr ⟨w.heap.size, G, _, rfl, Nat.le_refl _, heap_alloc_new w.drew _, Nat.zero_le _, hG, by have := HSZ.out; simpa [Value.cells] using this, by simp⟩⟩, (Bw.refl _).drew.alloc _⟩
def IIAt (w : World) (S : Nat → Prop) (v : Value) (ls : List (List Int)) : Prop := ∃ (A : Option Addr) (n c : Nat) (ss : List Value), v = .slice A n c ∧ ls.length = n ∧ ss.length = n ∧ n ≤ c ∧ c ≤ maxLen ∧ (0 < n → ∃ ad, A = some ad ∧ S ad.block ∧ ∀ k (h : k < ss.length), w.cell? (ad.add k) = some ss[k]) ∧
 ∀ k (h : k < ls.length) (h' : k < ss.length), IAt w S ss[k] ls[k]
theorem IIAt.form {w : World} {S : Nat → Prop} {v : Value} {ls : List (List Int)} (h : IIAt w S v ls) : ∃ A n c, v = .slice A n c ∧ ls.length = n ∧ n ≤ c ∧ c ≤ maxLen := by
 obtain ⟨A, n, c, ss, e, h1, _, h3, h4, _⟩ := h
 exact ⟨A, n, c, e, h1, h3, h4⟩
theorem IIAt.at_ {w : World} {S : Nat → Prop} {A : Option Addr} {n c : Nat} {ls : List (List Int)} (h : IIAt w S (.slice A n c) ls) {k : Nat} (hk : k < ls.length) : ∃ ad sA sn sc, A = some ad ∧ S ad.block ∧ w.cell? (ad.add k) = some (.slice sA sn sc) ∧ ls[k].length = sn ∧ IAt w S (.slice sA sn sc) ls[k] := by
 obtain ⟨A', n', c', ss, e, h1, h2, h3, h4, h5, h6⟩ := h
 injection e with e1 e2 e3
 subst e1 e2 e3
 obtain ⟨ad, rfl, hb, hc⟩ := h5 (by omega)
 have hi := h6 k hk (by omega)
 obtain ⟨sA, sn, sc, e, hl, _⟩ := hi.form
 refine ⟨ad, sA, sn, sc, rfl, hb, ?_, hl, ?_⟩
 · rw [hc k (by omega), e]
 · rw [← e]; exact hi
theorem IIAt.keep {w w' : World} {S S' : Nat → Prop} {v : Value} {ls : List (List Int)} (h : IIAt w S v ls) (hS : ∀ b, S b → S' b) (hk : ∀ p : Addr, S p.block → w'.cell? p = w.cell? p) : IIAt w' S' v ls := by
 obtain ⟨A, n, c, ss, e, h1, h2, h3, h4, h5, h6⟩ := h
 refine ⟨A, n, c, ss, e, h1, h2, h3, h4, fun hn => ?_, fun k a b => (h6 k a b).keep hS hk⟩
 obtain ⟨ad, e2, hb, hc⟩ := h5 hn
 exact ⟨ad, e2, hS _ hb, fun k hk2 => (hk _ (by rw [add_block]; exact hb)).trans (hc k hk2)⟩
theorem flatI_take {ls : List (List Int)} {k : Nat} (h : k < ls.length) : (ls.take (k + 1)).flatten = (ls.take k).flatten ++ ls[k] := by
 rw [List.take_succ_eq_append_getElem h, List.flatten_append]; simp
theorem flatI_le (ls : List (List Int)) (k : Nat) : (ls.take k).flatten.length ≤ ls.flatten.length := by
 have := congrArg List.flatten (List.take_append_drop k ls)
 rw [List.flatten_append] at this
 rw [← this]; simp
theorem concatI_any (ls : List (List Int)) (hn : ls.flatten.length ≤ 1000000) (s : Value) (w : World) (h : IIAt w (· < w.heap.size) s ls) : Calls Tryz.prog 339 #[s] w (IntsF w ls.flatten) := by
 obtain ⟨A, n, c, rfl, ln, bn, mn⟩ := h.form
 unfold maxLen at mn
 have H := Lib.hid h
 have LN := Lib.hid ln
 have HN := Lib.hid hn
 unfold IntsF
 clear h ln hn
 obtain ⟨i0, hi, hz0, hz1, hz2⟩ := info_parts infoInt
 go_enter Tryz.func339, Tryz.ntmps339
 go_wp2_with fail
 go_loopw [3, 5, 11] (fun s3 _ i wr => ∃ k m : Nat, k ≤ n ∧ i = .int .i64 k ∧ s3 = .int .i64 m ∧ m ≤ 1000000 ∧ Hid (m = (ls.take k).flatten.length ∧ w = wr)) (fun _ _ i _ => n - (intOf i).toNat)
 case atStart => exact ⟨0, 0, by omega, rfl, rfl, by omega, Lib.hid ⟨by simp, rfl⟩⟩
 case round =>
   obtain ⟨k, m, hk, rfl, rfl, hm, HR⟩ := hrel
   obtain ⟨hm2, rfl⟩ := HR.out
   have HM := Lib.hid hm2
   clear hm2 HR
   by_cases hlt : k < n
   · have e1 : k < ls.length := by rw [LN.out]; exact hlt
     obtain ⟨ad, sA, sn, sc, rfl, hb, q0, sl, hs⟩ := H.out.at_ e1
     have hms : m + sn ≤ 1000000 := by
       have h1 := flatI_le ls (k + 1)
       rw [flatI_take e1, List.length_append, ← HM.out, sl] at h1
       have := HN.out; omega
     have HM2 : Hid (m + sn = (ls.take (k + 1)).flatten.length) := Lib.hid (by rw [flatI_take e1, List.length_append, ← HM.out, sl])
     have h00 : ¬ ((m : Int) + (sn : Int) < 0) := by omega
     clear hs sl hb
     go_wp2
     go_roundw
     case rel => exact ⟨k + 1, m + sn, by omega, by go_num, by go_num, hms, Lib.hid ⟨HM2.out, trivial⟩⟩
     case measure => simp [intOf]; omega
   · obtain rfl : n = k := by omega
     have CG := Lib.hid (growI_any m hm w)
     go_wp2_with (go_at_call 373; go_must (refine CG.out.mono ?_; rintro e w6 ⟨s6, rfl, hr6, hg6⟩; obtain ⟨A6, c6, rfl, -, -⟩ := own_bounds hr6; (have HR6 := Lib.hid hr6); (have HG6 := Lib.hid hg6); clear hr6 hg6))
     have HB6 : Hid (w.heap.size ≤ w6.heap.size) := Lib.hid HG6.out.size
     go_loopw [6, 8, 27] (fun s6 _ i wr => ∃ k : Nat, k ≤ n ∧ i = .int .i64 k ∧ Hid (wr.ownsRow w.heap.size 3 1 s6 (ls.take k).flatten.length (intVs (ls.take k).flatten) ∧ Bw w wr)) (fun _ _ i _ => n - (intOf i).toNat)
     case atStart => exact ⟨0, by omega, rfl, Lib.hid ⟨by simpa [intVs] using HR6.out, HG6.out⟩⟩
     case round =>
       obtain ⟨k, hk, rfl, HR⟩ := hrel
       obtain ⟨hq, hg⟩ := HR.out
       obtain ⟨VA, vc, rfl, vb1, vb2⟩ := own_bounds hq
       have HQ := Lib.hid hq
       have HG := Lib.hid hg
       by_cases hlt : k < n
       · have e1 : k < ls.length := by rw [LN.out]; exact hlt
         obtain ⟨ad, sA, sn, sc, rfl, hb, q0, sl, hs⟩ := H.out.at_ e1
         have q1 := (hg.b.cell (p := ad.add k) (by rw [add_block]; exact hb)).trans q0
         have hql : (ls.take k).flatten.length + sn ≤ 1000000 := by
           have h1 := flatI_le ls (k + 1)
           rw [flatI_take e1, List.length_append, sl] at h1
           have := HN.out; omega
         have HPS : Hid ((ls.take (k + 1)).flatten = (ls.take k).flatten ++ ls[k]) := Lib.hid (flatI_take e1)
         have HSL := Lib.hid sl
         have HRD := Lib.hid (IAt.reads (IAt.bw hs hg))
         have hsz := hg.size
         clear hs sl hb q0 hq hg HR
         generalize hfl : (ls.take k).flatten = fl at *
         clear hfl
         go_wp2_with (at_builtin; go_must (refine wpList_append_any _ rfl _ _ 27 rfl w.heap.size 3 i0 _ 1 8 Tryz.underlying27 hi hz0 hz1 hz2 rfl (by decide) (.slice VA fl.length vc) fl.length (intVs fl) rfl HQ.out wr.heap.size sA sn sc (intVs ls[k]) rfl HRD.out (by intro u hu; obtain ⟨x, -, rfl⟩ := List.mem_map.1 hu; rfl) (by unfold maxLen; omega) (by omega) (by omega) ?_; intro v7 w7 hown7 hgr7 hl7; obtain ⟨A7, c7, rfl, -, -⟩ := own_bounds hown7; (have HO7 := Lib.hid hown7); (have HG7 := Lib.hid hgr7); clear hown7 hgr7 hl7))
         go_roundw
         case rel =>
           refine ⟨k + 1, by omega, by go_num, Lib.hid ⟨?_, Below.grown HG.out HG7.out HG.out.size (fun r e => (HQ.out.lt r e).1)⟩⟩
           rw [HPS.out, List.length_append, HSL.out, ← intVs_append]; exact HO7.out
         case measure => simp [intOf]; omega
       · obtain rfl : k = n := by omega
         have HF : Hid ((ls.take k).flatten = ls.flatten) := Lib.hid (by rw [List.take_of_length_le (by rw [LN.out]; omega)])
         clear hq hg HR
         go_wp2
         go_ret
         refine ⟨_, rfl, ?_, HG.out⟩
         rw [← HF.out]
         exact HQ.out
theorem numbers_any (l : List V) (s : Value) (w : World) (h : KB w w.heap.size s l) (h9 : l.length ≤ 1000000) : Calls Tryz.prog 357 #[s] w (IntsF w (l.map V.n)) := by
 obtain ⟨A, n, c, rfl, ln, bn, mn⟩ := h.form
 unfold maxLen at mn
 rw [ln] at h9
 have HK := Lib.hid h
 have LN := Lib.hid ln
 clear h ln
 obtain ⟨i0, hi, hz0, hz1, hz2⟩ := info_parts infoInt
 go_enter Tryz.func357, Tryz.ntmps357
 go_wp2
 go_loopw [3, 8] (fun s3 i wr => ∃ k : Nat, k ≤ n ∧ i = .int .i64 k ∧ Hid (wr.ownsRow w.heap.size 3 1 s3 k (intVs ((l.take k).map V.n)) ∧ Bw w wr)) (fun _ i _ => n - (intOf i).toNat)
 case atStart => exact ⟨0, by omega, rfl, Lib.hid ⟨World.ownsRow_nil _ _ _ _, Bw.refl _⟩⟩
 case round =>
   obtain ⟨k, hk, rfl, HR⟩ := hrel
   obtain ⟨hv, hw⟩ := HR.out
   obtain ⟨VA, vc, rfl, _, _⟩ := own_bounds hv
   by_cases hlt : k < n
   · have e1 : k < l.length := by rw [LN.out]; exact hlt
     obtain ⟨ad, sA, sn, sc, rfl, hb, q0, q1, sl, hs⟩ := (HK.out.bw hw).at_ e1
     have HT : Hid (intVs ((l.take (k + 1)).map V.n) = intVs ((l.take k).map V.n) ++ [.int .i64 l[k].n]) := Lib.hid (by rw [List.take_succ_eq_append_getElem e1, List.map_append, ← intVs_append]; rfl)
     have HV := Lib.hid hv
     have HW := Lib.hid hw
     have hsw := hw.size
     clear hs sl hv hw HR
     generalize l[k].n = x at *
     go_wp2_with (at_builtin; go_must (refine wpList_append_any _ rfl _ _ 27 rfl w.heap.size 3 i0 _ 1 8 Tryz.underlying27 hi hz0 hz1 hz2 rfl (by decide) (.slice VA k vc) k (intVs ((l.take k).map V.n)) rfl ((HV.out.alloc _).alloc _) (wr.heap.size + 1 + 1) (some ⟨wr.heap.size + 1, 0, none⟩) 1 1 [.int .i64 x] rfl (by have := reads_new1 (wr.alloc (.cells #[.int .i64 x, .slice sA sn sc] 31)) x; simpa only [World.size_alloc] using this) (by simp [Value.oneCell']) (by unfold maxLen; omega) (by omega) (by simp; omega) ?_; intro v7 w7 hown7 hgr7 hl7; obtain ⟨A7, c7, rfl⟩ := own_form hown7; (have HO7 := Lib.hid hown7); (have HG7 := Lib.hid hgr7); clear hown7 hgr7 hl7))
     go_roundw
     case rel =>
       refine ⟨k + 1, by omega, by go_num, Lib.hid ⟨?_, ?_⟩⟩
       · rw [HT.out]; exact HO7.out
       · exact Below.trans ((HW.out.alloc _).alloc _) (below_own (Below.refl w.heap.size _) ((HV.out.alloc _).alloc _) HG7.out (by simp; omega))
     case measure => simp [intOf]; omega
   · obtain rfl : k = n := by omega
     have HV := Lib.hid hv
     have HW := Lib.hid hw
     clear hv hw HR
     go_wp2
     go_ret
     have hll : (l.map V.n).length = k := by simp [LN.out]
     refine ⟨_, rfl, ?_, HW.out⟩
     have := HV.out
     rw [List.take_of_length_le (by rw [LN.out]; omega)] at this
     rw [hll]; exact this
def ValsOwn (w : World) (l : List V) (e : Ending) (w' : World) : Prop := ∃ s ss, e = .returned s ∧ VRow w' 31 w.heap.size w.heap.size s l ss ∧ Bw w w'
theorem values_any (cs : List Int) (s : Value) (w : World) (h : IB w w.heap.size s cs) (h9 : cs.length ≤ 1000000) : Calls Tryz.prog 359 #[s] w (ValsOwn w (cs.map fun c => V.mk c [])) := by
 obtain ⟨A, n, c, rfl, ln, bn, mn⟩ := h.form
 unfold maxLen at mn
 rw [ln] at h9
 have HK := Lib.hid h
 have LN := Lib.hid ln
 clear h ln
 obtain ⟨i0, hi, hz0, hz1, hz2⟩ := info_parts infoVal
 go_enter Tryz.func359, Tryz.ntmps359
 go_wp2
 go_loopw [3, 5, 8] (fun s3 _ i wr => ∃ k : Nat, k ≤ n ∧ i = .int .i64 k ∧ Hid (∃ ss, VRow wr 31 w.heap.size w.heap.size s3 ((cs.take k).map fun c => V.mk c []) ss ∧ Bw w wr)) (fun _ _ i _ => n - (intOf i).toNat)
 case atStart => exact ⟨0, by omega, rfl, Lib.hid ⟨[], VRow.nil _ _ _ _, Bw.refl _⟩⟩
 case round =>
   obtain ⟨k, hk, rfl, HR⟩ := hrel
   obtain ⟨ss, hv, hw⟩ := HR.out
   by_cases hlt : k < n
   · have e1 : k < cs.length := by rw [LN.out]; exact hlt
     obtain ⟨ad, rfl, hb, q0⟩ := (HK.out.bw hw).at_ e1
     obtain ⟨VA, vc, rfl, _, _⟩ := hv.form
     have hlk : ((cs.take k).map fun c => V.mk c []).length = k := by simp; omega
     rw [hlk] at hv ⊢
     have HV := Lib.hid hv
     have HW := Lib.hid hw
     have hsw := hw.size
     have HT : Hid ((cs.take (k + 1)).map (fun c => V.mk c []) = ((cs.take k).map fun c => V.mk c []) ++ [V.mk cs[k] []]) := Lib.hid (by rw [List.take_succ_eq_append_getElem e1, List.map_append]; rfl)
     have HLK := Lib.hid hlk
     clear hv hw HR hlk
     generalize cs[k] = x at *
     generalize hl : ((cs.take k).map fun c => V.mk c []) = l at *
     clear hl
     go_wp2_with (at_builtin; go_must (refine wpList_append_any _ rfl _ _ 29 rfl w.heap.size 31 i0 _ 2 32 Tryz.underlying29 hi hz0 hz1 hz2 rfl (by decide) (.slice VA k vc) k (vCells l ss) rfl (by have := (HV.out.own.alloc (.cells #[.int .i64 x, .slice none 0 0] 31)); rwa [HLK.out] at this) (wr.heap.size + 1) (some ⟨wr.heap.size, 0, none⟩) 1 1 [.int .i64 x, .slice none 0 0] rfl (reads_new2 wr _ _ _) (one2 _ _ _ _) (by unfold maxLen; omega) (by omega) (by simp; omega) ?_; intro v7 w7 hown7 hgr7 hl7; obtain ⟨A7, c7, rfl⟩ := own_form hown7; (have HO7 := Lib.hid hown7); (have HG7 := Lib.hid hgr7); (have HL7 := Lib.hid hl7); clear hown7 hgr7 hl7))
     go_roundw
     case rel =>
       refine ⟨k + 1, by omega, by go_num, Lib.hid ⟨ss ++ [.slice none 0 0], ?_, ?_⟩⟩
       · rw [HT.out]
         refine (HV.out.bw (((Bw.refl wr).alloc _))).push (x := .mk x []) (s := .slice none 0 0) (KAt.nil _ _ (Nat.zero_le _)) ?_ HG7.out HL7.out
         rw [HLK.out]; exact HO7.out
       · exact Below.trans (HW.out.alloc _) (below_own (Below.refl w.heap.size _) (HV.out.own.alloc _) HG7.out (by simp; omega))
     case measure => simp [intOf]; omega
   · obtain rfl : k = n := by omega
     obtain ⟨VA, vc, rfl, _, _⟩ := hv.form
     have HV := Lib.hid hv
     have HW := Lib.hid hw
     clear hv hw HR
     go_wp2
     go_ret
     refine ⟨_, ss, rfl, ?_, HW.out⟩
     have := HV.out
     rwa [List.take_of_length_le (by rw [LN.out]; omega)] at this ⊢
theorem sources_any (r : Rul) (nd gv : Value) (pl tz : Nat) (w : World) (A B : Option Addr) (n c m d : Nat) (hn : nd = .slice A n c) (hg : gv = .slice B m d) : Calls Tryz.prog 383 #[aggR r nd gv, .int .i64 (pl : Int), .int .i64 (tz : Int)] w (IntsF w [(tz : Int)]) := by
 subst hn hg
 unfold IntsF aggR
 generalize r.nm = nm
 generalize r.fr = fr
 generalize r.tz = t0
 go_enter Tryz.func383, Tryz.ntmps383
 go_wp2
 go_ret
 refine ⟨_, rfl, ?_, ((Bw.refl _).alloc _).alloc _⟩
 have := own_new (w.alloc (.cells #[.string nm, .int .i64 fr, .int .i64 t0, .slice A n c, .slice B m d, .slice none 0 0, .int .i64 0, .int .i64 0, .int .i64 0, .slice none 0 0, .slice none 0 0, .slice none 0 0, .slice none 0 0, .int .i64 0] 75)) 3 #[.int .i64 (tz : Int)] 1 (n := 1) (xs := [.int .i64 (tz : Int)]) rfl rfl
 rw [World.size_alloc] at this
 have h2 := own_base (B := w.heap.size) this (by omega)
 simpa [intVs] using h2
def ValsPost (w : World) (l : List V) (e : Ending) (w' : World) : Prop := ∃ s, e = .returned s ∧ KAt w' (fun b => w.heap.size ≤ b ∧ b < w'.heap.size) s l ∧ Bw w w'
def ValPost (w : World) (v : V) (e : Ending) (w' : World) : Prop := ∃ s, e = .returned (.agg #[.int .i64 v.n, s]) ∧ KAt w' (fun b => w.heap.size ≤ b ∧ b < w'.heap.size) s v.ks ∧ Bw w w'
theorem ocopies_step (l : List V) (ih : ∀ v ∈ l, ∀ (s : Value) (W : World), KB W W.heap.size s v.ks → Calls Tryz.prog 244 #[aggV v s] W (ValPost W v)) (s : Value) (w : World) (h : KB w w.heap.size s l) (h9 : l.length ≤ 1000000) :
   Calls Tryz.prog 178 #[s] w (ValsPost w l) := by
 obtain ⟨A, n, c, rfl, ln, bn, mn⟩ := h.form
 unfold maxLen at mn
 rw [ln] at h9
 have HK := Lib.hid h
 have HIH := Lib.hid ih
 have LN := Lib.hid ln
 clear h ih ln
 obtain ⟨i0, hi, hz0, hz1, hz2⟩ := info_parts infoVal
 go_enter Tryz.func178, Tryz.ntmps178
 go_wp2
 go_loopw [3, 8] (fun s3 i wr => ∃ k : Nat, k ≤ n ∧ i = .int .i64 k ∧ Hid (∃ ss, VRow wr 31 w.heap.size w.heap.size s3 (l.take k) ss ∧ Bw w wr)) (fun _ i _ => n - (intOf i).toNat)
 case atStart => exact ⟨0, by omega, rfl, Lib.hid ⟨[], VRow.nil _ _ _ _, Bw.refl _⟩⟩
 case round =>
   obtain ⟨k, hk, rfl, HR⟩ := hrel
   obtain ⟨ss, hv, hw⟩ := HR.out
   by_cases hlt : k < n
   · have e1 : k < l.length := by rw [LN.out]; exact hlt
     obtain ⟨ad, sA, sn, sc, rfl, hb, q0, q1, sl, hs⟩ := (HK.out.bw hw).at_ e1
     obtain ⟨VA, vc, rfl, _, _⟩ := hv.form
     have hlk : (l.take k).length = k := by simp; omega
     rw [hlk] at hv ⊢
     have CP : Hid (∀ o, Calls Tryz.prog 244 #[.agg #[.int .i64 l[k].n, .slice sA sn sc]] (wr.alloc o) (ValPost (wr.alloc o) l[k])) := Lib.hid (fun o => HIH.out _ (List.getElem_mem e1) _ _ (hs.bw ((Bw.refl _).alloc _)))
     have HV := Lib.hid hv
     have HW := Lib.hid hw
     have hsw := hw.size
     have HT : Hid (l.take (k + 1) = l.take k ++ [l[k]]) := Lib.hid (List.take_succ_eq_append_getElem e1)
     clear hs sl hv hw HR hlk
     generalize hx : l[k] = x at *
     clear hx
     obtain ⟨xn, hxn⟩ : ∃ xn, x.n = xn := ⟨_, rfl⟩
     unfold ValPost at CP
     rw [hxn] at CP q0
     have HXN := Lib.hid hxn
     clear hxn
     go_wp2_with (first
       | (go_at_call 244; go_must (refine (CP.out _).mono ?_; rintro e w6 ⟨s6, rfl, hk6, hg6⟩; obtain ⟨A6, n6, c6, rfl, ln6, _, _⟩ := hk6.form; (have HK6 := Lib.hid hk6); (have HG6 : Hid (Bw wr w6) := Lib.hid (((Bw.refl _).alloc _).trans hg6)); (have hs6 : wr.heap.size < w6.heap.size := by have := hg6.size; simp at this; omega); (have HV6 := Lib.hid (HV.out.bw HG6.out)); clear hk6 hg6 ln6))
       | (at_builtin; go_must (refine wpList_append_any _ rfl _ _ 29 rfl w.heap.size 31 i0 _ 2 32 Tryz.underlying29 hi hz0 hz1 hz2 rfl (by decide) (.slice VA k vc) k (vCells (l.take k) ss) rfl (by have := (HV6.out.own.alloc (.cells #[.int .i64 xn, .slice A6 n6 c6] 31)); rwa [show (l.take k).length = k by simp; omega] at this) (w6.heap.size + 1) (some ⟨w6.heap.size, 0, none⟩) 1 1 [.int .i64 xn, .slice A6 n6 c6] rfl (reads_new2 w6 _ _ _) (one2 _ _ _ _) (by unfold maxLen; omega) (by omega) (by simp; omega) ?_; intro v7 w7 hown7 hgr7 hl7; obtain ⟨A7, c7, rfl⟩ := own_form hown7; (have HO7 := Lib.hid hown7); (have HG7 := Lib.hid hgr7); (have HL7 := Lib.hid hl7); clear hown7 hgr7 hl7)))
     go_roundw
     case rel =>
       have hlk : (l.take k).length = k := by simp; omega
       have hv6 := HV6.out
       have hk6 := HK6.out
       have hs7 := HG7.out.size
       refine ⟨k + 1, by omega, by go_num, Lib.hid ⟨ss ++ [.slice A6 n6 c6], ?_, ?_⟩⟩
       · rw [HT.out]
         refine (hv6.bw (((Bw.refl w6).alloc _))).push (x := x) (s := .slice A6 n6 c6) ?_ ?_ HG7.out HL7.out
         · refine KAt.keep (S := fun b => wr.heap.size < b ∧ b < w6.heap.size) ?_ (fun b hb => ⟨by omega, by simp; omega, fun e => ?_⟩) (fun p hp => World.cell?_alloc_lt w6 _ p hp.2)
           · exact hk6.keep (fun b hb => ⟨by have := hb.1; simp at this; omega, hb.2⟩) (fun _ _ => rfl)
           · have := (HV.out.own.lt b (by rw [hlk] at *; exact e)).2; omega
         · rw [hlk, HXN.out]; exact HO7.out
       · exact Below.trans (HW.out.trans (HG6.out.alloc _)) (below_own (Below.refl w.heap.size _) ((hv6.own.alloc _)) HG7.out (by simp; omega))
     case measure => simp [intOf]; omega
   · obtain rfl : k = n := by omega
     obtain ⟨VA, vc, rfl, _, _⟩ := hv.form
     have HV := Lib.hid hv
     have HW := Lib.hid hw
     clear hv hw HR
     go_wp2
     go_ret
     refine ⟨_, rfl, ?_, HW.out⟩
     have := HV.out.kat (Nat.le_refl _)
     rwa [List.take_of_length_le (by rw [LN.out]; omega)] at this ⊢

theorem ocopy_step (v : V) (s : Value) (w : World) (h : KB w w.heap.size s v.ks) (ih : ∀ (s : Value) (W : World), KB W W.heap.size s v.ks → Calls Tryz.prog 178 #[s] W (ValsPost W v.ks)) : Calls Tryz.prog 244 #[.agg #[.int .i64 v.n, s]] w (ValPost w v) := by
 obtain ⟨A, n, c, rfl, ln, bn, mn⟩ := h.form
 have CP : Hid (∀ W, Bw w W → Calls Tryz.prog 178 #[.slice A n c] W (ValsPost W v.ks)) := Lib.hid (fun W g => ih _ _ (h.bw g))
 unfold ValPost
 clear h ih ln
 generalize v.n = x at *
 go_enter Tryz.func244, Tryz.ntmps244
 go_wp2_with fail
 refine wp_world (fun W => Hid (Bw w W ∧ Blk W w.heap.size 31 #[.int .i64 x, .slice A n c] ∧ Blk W (w.heap.size + 1) 31 #[.int .i64 0, .slice none 0 0])) (Lib.hid ⟨((Bw.refl _).alloc _).alloc _, (Blk.new _ _ _).alloc _, by have := Blk.new (w.alloc (.cells #[.int .i64 x, .slice A n c] 31)) 31 #[.int .i64 0, .slice none 0 0]; simpa only [World.size_alloc] using this⟩) ?_
 intro W HW
 obtain ⟨hg, k1, k2⟩ := HW.out
 have p0 := k1.cell 0
 have p1 := k1.cell 1
 have z1 := k1.lt
 have z2 := k2.lt
 have hs0 := hg.size
 have e0 := k2.cell 0
 have e1 := k2.cell 1
 have f0 := k2.frozen 0
 have f1 := k2.frozen 1
 have KS : Hid (∀ w', Bw W.drew w' → w.heap.size + 1 < w'.heap.size ∧ w'.cell? ⟨w.heap.size, 0, none⟩ = some (.int .i64 x) ∧ w'.cell? ⟨w.heap.size + 1, 0, none⟩ = some (.int .i64 0) ∧ w'.cell? ⟨w.heap.size + 1, 1, none⟩ = some (.slice none 0 0) ∧ w'.frozen? ⟨w.heap.size + 1, 0, none⟩ = false ∧ w'.frozen? ⟨w.heap.size + 1, 1, none⟩ = false ∧ Blk w' (w.heap.size + 1) 31 #[.int .i64 0, .slice none 0 0]) := Lib.hid (fun w' g => by
   have g : Bw W w' := (Bw.refl W).drew.trans g
   have k3 := k2.below g.b z2
   exact ⟨k3.lt, (g.b.cell (p := ⟨w.heap.size, 0, none⟩) z1).trans p0, k3.cell 0, k3.cell 1, k3.frozen 0, k3.frozen 1, k3⟩)
 have CP2 : Hid (∀ W', Bw W W' → Calls Tryz.prog 178 #[.slice A n c] W' (ValsPost W' v.ks)) := Lib.hid (fun W' g => CP.out _ (hg.trans g))
 have HG := Lib.hid hg
 clear hg k1 k2 HW CP
 generalize hz : w.heap.size = z at *
 have HZ := Lib.hid hz
 clear hz
 go_region_with ((go_at_call 178; refine (CP2.out _ (by first | exact (Bw.refl _).drew | exact Bw.refl _)).mono ?_; rintro e w' ⟨s6, rfl, hk6, hg6⟩; obtain ⟨A6, n6, c6, rfl, ln6, _, _⟩ := hk6.form; obtain ⟨u0, u1, u2, u3, u4, u5, u6⟩ := KS.out _ hg6; (have HK6 := Lib.hid hk6); (have HG6 := Lib.hid hg6); (have HU6 := Lib.hid u6); clear hk6 hg6 ln6 u6))
 all_goals
   have HBB := Lib.hid (blk_set (i := 1) (.slice A6 n6 c6) (blk_set (i := 0) (.int .i64 x) HU6.out))
   go_wp2
   refine bodyPost_ret (results_cell_row (p := 2) (ty := 31) rfl _ _ (z + 1) 31 _ (0, 0) _ rfl HBB.out Tryz.underlying31 rfl (by kernel_rfl)) rfl ?_
   have hz := HZ.out
   refine ⟨.slice A6 n6 c6, rfl, HK6.out.keep (fun b hb => ⟨?_, ?_⟩) (fun p hp => ?_), ?_⟩
   · have h1 : W.heap.size ≤ b := hb.1
     omega
   · have h1 := hb.2
     simp [World.setCell]; omega
   · have h1 : W.heap.size ≤ p.block := hp.1
     rw [World.cell?_setCell_other _ _ _ _ (by intro e; subst e; simp at h1; omega), World.cell?_setCell_other _ _ _ _ (by intro e; subst e; simp at h1; omega)]
   · have h2 : Bw w w' := HG.out.trans ((Bw.refl W).drew.trans HG6.out)
     exact (h2.setCell (p := ⟨z + 1, 0, none⟩) (by dsimp only; omega) _).setCell (p := ⟨z + 1, 1, none⟩) (by dsimp only; omega) _
theorem ocopy_any (v : V) : v.size ≤ 1000000 → ∀ (s : Value) (w : World), KB w w.heap.size s v.ks → Calls Tryz.prog 244 #[aggV v s] w (ValPost w v) := by
 induction v using V.ind with
 | h n ks ih =>
   intro hsz s w h
   have h1 : sizeL ks < 1000000 := by simp [V.size] at hsz; omega
   exact ocopy_step (.mk n ks) s w h fun s' W h' => ocopies_step ks (fun v hv s2 W2 h2 => ih v hv (by have := sizeL_mem hv; omega) s2 W2 h2) s' W h' (by have := sizeL_length ks; omega)
theorem ocopies_any (l : List V) (h9 : sizeL l ≤ 1000000) (s : Value) (w : World) (h : KB w w.heap.size s l) : Calls Tryz.prog 178 #[s] w (ValsPost w l) :=
 ocopies_step l (fun v hv s2 W2 h2 => ocopy_any v (by have := sizeL_mem hv; omega) s2 W2 h2) s w h (by have := sizeL_length l; omega)
theorem infoStr : (Tryz.prog.info? 9).map (fun i => (i.zero, i.size, i.bytes)) = some (some (.string ⟨#[]⟩), 1, 16) := by kernel_rfl
def strVs (l : List ByteArray) : List Value := l.map Value.string
theorem strVs_append (a b : List ByteArray) : strVs a ++ strVs b = strVs (a ++ b) := by simp [strVs]
def StrsF (w : World) (l : List ByteArray) (e : Ending) (w' : World) : Prop := ∃ s, e = .returned s ∧ w'.ownsRow w.heap.size 9 1 s l.length (strVs l) ∧ Bw w w'
theorem own_StrB {w : World} {base : Nat} {e : TypeId} {v : Value} {l : List ByteArray} {n : Nat} (h : w.ownsRow base e 1 v n (strVs l)) (hn : l.length = n) : StrAt w (fun b => base ≤ b ∧ b < w.heap.size) v l := by
 subst hn
 obtain ⟨A, c, rfl, h1, h2⟩ := own_bounds h
 refine ⟨A, _, c, rfl, rfl, h1, h2, fun hn => ?_⟩
 obtain ⟨g, rfl, h3, h4, h5, h6⟩ := own_at h hn
 exact ⟨_, rfl, ⟨h4, h5⟩, fun k hk => h6 k _ (by simp [strVs, hk])⟩
theorem growS_any (n : Nat) (hn : n ≤ 1000000) (w : World) : Calls Tryz.prog 221 #[.slice none 0 0, .int .i64 n] w (fun e w' => ∃ s, e = .returned s ∧ w'.ownsRow w.heap.size 9 1 s 0 [] ∧ Bw w w') := by
 by_cases h0 : n = 0
 · subst h0
   go_enter Tryz.func221, Tryz.ntmps221
   go_wp2
   go_ret
   exact ⟨_, rfl, World.ownsRow_nil _ _ _ _, Bw.refl _⟩
 · obtain ⟨i0, hi, hz0, hz1, hz2⟩ := info_parts infoStr
   have hrz : ∀ ty, (Builtin.append_ #[26, 3] ty #[.slice none 0 0, .int .i64 (n : Int)]).run Tryz.prog w = _ := fun ty =>
     Lib.run_append_grow_zeros w 26 3 ty 9 i0 _ .i64 .i64 Tryz.underlying26 Tryz.underlying3 hi hz0 none 0 0 [] (run_firstCells_none w.drew i0.size 0 0 0) n (by omega) (by omega) (by omega) (by omega) (by rw [hz2]; omega) (growslice_fits (by omega) (by rw [hz2]; omega))
   have hGn : 0 + n ≤ grownCap w (0 + n) 0 9 := grownCap_ge w _ _ _
   have hG63 : grownCap w (0 + n) 0 9 ≤ maxLen := grownCap_le_maxLen w (0 + n) 0 9 (by unfold maxLen; omega)
   generalize grownCap w (0 + n) 0 9 = G at *
   have hsz : ((#[] : Array Value) ++ Builtin.zeroCells (Value.string ⟨#[]⟩).cells n ++ Builtin.zeroCells (Value.string ⟨#[]⟩).cells (G - n)).size = G := by
     simp [size_zeroCells, Value.cells]; omega
   simp only [Nat.zero_add] at hrz
   have HSZ := Lib.hid hsz
   clear hsz
   have hG := hG63
   unfold maxLen at hG63
   have hn0 : 0 < n := by omega
   go_enter Tryz.func221, Tryz.ntmps221
   go_wp2_with (at_builtin; refine Lib.wpList_append_run _ rfl _ _ _ _ rfl _ _ rfl rfl _ _ (hrz _) ?_)
   go_ret
   refine ⟨_, rfl, ⟨by simp, .inr ⟨w.heap.size, G, _, rfl, Nat.le_refl _, heap_alloc_new w.drew _, Nat.zero_le _, hG, by have := HSZ.out; simpa [Value.cells] using this, by simp⟩⟩, (Bw.refl _).drew.alloc _⟩
def SSAt (w : World) (S : Nat → Prop) (v : Value) (ls : List (List ByteArray)) : Prop := ∃ (A : Option Addr) (n c : Nat) (ss : List Value), v = .slice A n c ∧ ls.length = n ∧ ss.length = n ∧ n ≤ c ∧ c ≤ maxLen ∧ (0 < n → ∃ ad, A = some ad ∧ S ad.block ∧ ∀ k (h : k < ss.length), w.cell? (ad.add k) = some ss[k]) ∧
 ∀ k (h : k < ls.length) (h' : k < ss.length), StrAt w S ss[k] ls[k]
theorem SSAt.form {w : World} {S : Nat → Prop} {v : Value} {ls : List (List ByteArray)} (h : SSAt w S v ls) : ∃ A n c, v = .slice A n c ∧ ls.length = n ∧ n ≤ c ∧ c ≤ maxLen := by
 obtain ⟨A, n, c, ss, e, h1, _, h3, h4, _⟩ := h
 exact ⟨A, n, c, e, h1, h3, h4⟩
theorem SSAt.at_ {w : World} {S : Nat → Prop} {A : Option Addr} {n c : Nat} {ls : List (List ByteArray)} (h : SSAt w S (.slice A n c) ls) {k : Nat} (hk : k < ls.length) : ∃ ad sA sn sc, A = some ad ∧ S ad.block ∧ w.cell? (ad.add k) = some (.slice sA sn sc) ∧ ls[k].length = sn ∧ StrAt w S (.slice sA sn sc) ls[k] := by
 obtain ⟨A', n', c', ss, e, h1, h2, h3, h4, h5, h6⟩ := h
 injection e with e1 e2 e3
 subst e1 e2 e3
 obtain ⟨ad, rfl, hb, hc⟩ := h5 (by omega)
 have hi := h6 k hk (by omega)
 obtain ⟨sA, sn, sc, e, hl, _⟩ := hi.form
 refine ⟨ad, sA, sn, sc, rfl, hb, ?_, hl, ?_⟩
 · rw [hc k (by omega), e]
 · rw [← e]; exact hi
theorem flatS_take {ls : List (List ByteArray)} {k : Nat} (h : k < ls.length) : (ls.take (k + 1)).flatten = (ls.take k).flatten ++ ls[k] := by
 rw [List.take_succ_eq_append_getElem h, List.flatten_append]; simp
theorem flatS_le (ls : List (List ByteArray)) (k : Nat) : (ls.take k).flatten.length ≤ ls.flatten.length := by
 have := congrArg List.flatten (List.take_append_drop k ls)
 rw [List.flatten_append] at this
 rw [← this]; simp
theorem concatS_any (ls : List (List ByteArray)) (hn : ls.flatten.length ≤ 1000000) (s : Value) (w : World) (h : SSAt w (· < w.heap.size) s ls) : Calls Tryz.prog 154 #[s] w (StrsF w ls.flatten) := by
 obtain ⟨A, n, c, rfl, ln, bn, mn⟩ := h.form
 unfold maxLen at mn
 have H := Lib.hid h
 have LN := Lib.hid ln
 have HN := Lib.hid hn
 unfold StrsF
 clear h ln hn
 obtain ⟨i0, hi, hz0, hz1, hz2⟩ := info_parts infoStr
 go_enter Tryz.func154, Tryz.ntmps154
 go_wp2_with fail
 go_loopw [3, 5, 11] (fun s3 _ i wr => ∃ k m : Nat, k ≤ n ∧ i = .int .i64 k ∧ s3 = .int .i64 m ∧ m ≤ 1000000 ∧ Hid (m = (ls.take k).flatten.length ∧ w = wr)) (fun _ _ i _ => n - (intOf i).toNat)
 case atStart => exact ⟨0, 0, by omega, rfl, rfl, by omega, Lib.hid ⟨by simp, rfl⟩⟩
 case round =>
   obtain ⟨k, m, hk, rfl, rfl, hm, HR⟩ := hrel
   obtain ⟨hm2, rfl⟩ := HR.out
   have HM := Lib.hid hm2
   clear hm2 HR
   by_cases hlt : k < n
   · have e1 : k < ls.length := by rw [LN.out]; exact hlt
     obtain ⟨ad, sA, sn, sc, rfl, hb, q0, sl, hs⟩ := H.out.at_ e1
     have hms : m + sn ≤ 1000000 := by
       have h1 := flatS_le ls (k + 1)
       rw [flatS_take e1, List.length_append, ← HM.out, sl] at h1
       have := HN.out; omega
     have HM2 : Hid (m + sn = (ls.take (k + 1)).flatten.length) := Lib.hid (by rw [flatS_take e1, List.length_append, ← HM.out, sl])
     have h00 : ¬ ((m : Int) + (sn : Int) < 0) := by omega
     clear hs sl hb
     go_wp2
     go_roundw
     case rel => exact ⟨k + 1, m + sn, by omega, by go_num, by go_num, hms, Lib.hid ⟨HM2.out, trivial⟩⟩
     case measure => simp [intOf]; omega
   · obtain rfl : n = k := by omega
     have CG := Lib.hid (growS_any m hm w)
     go_wp2_with (go_at_call 221; go_must (refine CG.out.mono ?_; rintro e w6 ⟨s6, rfl, hr6, hg6⟩; obtain ⟨A6, c6, rfl, -, -⟩ := own_bounds hr6; (have HR6 := Lib.hid hr6); (have HG6 := Lib.hid hg6); clear hr6 hg6))
     have HB6 : Hid (w.heap.size ≤ w6.heap.size) := Lib.hid HG6.out.size
     go_loopw [6, 8, 27] (fun s6 _ i wr => ∃ k : Nat, k ≤ n ∧ i = .int .i64 k ∧ Hid (wr.ownsRow w.heap.size 9 1 s6 (ls.take k).flatten.length (strVs (ls.take k).flatten) ∧ Bw w wr)) (fun _ _ i _ => n - (intOf i).toNat)
     case atStart => exact ⟨0, by omega, rfl, Lib.hid ⟨by simpa [strVs] using HR6.out, HG6.out⟩⟩
     case round =>
       obtain ⟨k, hk, rfl, HR⟩ := hrel
       obtain ⟨hq, hg⟩ := HR.out
       obtain ⟨VA, vc, rfl, vb1, vb2⟩ := own_bounds hq
       have HQ := Lib.hid hq
       have HG := Lib.hid hg
       by_cases hlt : k < n
       · have e1 : k < ls.length := by rw [LN.out]; exact hlt
         obtain ⟨ad, sA, sn, sc, rfl, hb, q0, sl, hs⟩ := H.out.at_ e1
         have q1 := (hg.b.cell (p := ad.add k) (by rw [add_block]; exact hb)).trans q0
         have hql : (ls.take k).flatten.length + sn ≤ 1000000 := by
           have h1 := flatS_le ls (k + 1)
           rw [flatS_take e1, List.length_append, sl] at h1
           have := HN.out; omega
         have HPS : Hid ((ls.take (k + 1)).flatten = (ls.take k).flatten ++ ls[k]) := Lib.hid (flatS_take e1)
         have HSL := Lib.hid sl
         have HRD := Lib.hid (StrAt.reads (StrAt.bw hs hg))
         have hsz := hg.size
         clear hs sl hb q0 hq hg HR
         generalize hfl : (ls.take k).flatten = fl at *
         clear hfl
         go_wp2_with (at_builtin; go_must (refine wpList_append_any _ rfl _ _ 26 rfl w.heap.size 9 i0 _ 1 16 Tryz.underlying26 hi hz0 hz1 hz2 rfl (by decide) (.slice VA fl.length vc) fl.length (strVs fl) rfl HQ.out wr.heap.size sA sn sc (strVs ls[k]) rfl HRD.out (by intro u hu; obtain ⟨x, -, rfl⟩ := List.mem_map.1 hu; rfl) (by unfold maxLen; omega) (by omega) (by omega) ?_; intro v7 w7 hown7 hgr7 hl7; obtain ⟨A7, c7, rfl, -, -⟩ := own_bounds hown7; (have HO7 := Lib.hid hown7); (have HG7 := Lib.hid hgr7); clear hown7 hgr7 hl7))
         go_roundw
         case rel =>
           refine ⟨k + 1, by omega, by go_num, Lib.hid ⟨?_, Below.grown HG.out HG7.out HG.out.size (fun r e => (HQ.out.lt r e).1)⟩⟩
           rw [HPS.out, List.length_append, HSL.out, ← strVs_append]; exact HO7.out
         case measure => simp [intOf]; omega
       · obtain rfl : k = n := by omega
         have HF : Hid ((ls.take k).flatten = ls.flatten) := Lib.hid (by rw [List.take_of_length_le (by rw [LN.out]; omega)])
         clear hq hg HR
         go_wp2
         go_ret
         refine ⟨_, rfl, ?_, HG.out⟩
         rw [← HF.out]
         exact HQ.out
end
end Go.Proofs.YthhbkabdhkdafaaGreat
