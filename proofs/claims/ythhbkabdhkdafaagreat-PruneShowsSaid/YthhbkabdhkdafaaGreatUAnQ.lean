/- Part of a proof of pruneShows_holds. -/
import Derived.Test.YthhbkabdhkdafaaGreatUAkQ
import Derived.Lib.AppendZerosOnto
set_option linter.unusedSimpArgs false
set_option linter.unusedVariables false
set_option maxRecDepth 100000
set_option maxHeartbeats 16000000
namespace Go.Proofs.YthhbkabdhkdafaaGreat
section
open Go.RowKit
def IntsF (w : World) (cs : List Int) (e : Ending) (w' : World) : Prop := ∃ s, e = .returned s ∧ w'.ownsRow w.heap.size 3 1 s cs.length (intVs cs) ∧ Bw w w'
theorem growI_any (n : Nat) (hn : n ≤ 1000000) (w : World) : Calls Tryz.prog 373 #[.slice none 0 0, .int .i64 n] w (fun e w' => ∃ s, e = .returned s ∧ w'.ownsRow w.heap.size 3 1 s 0 [] ∧ Bw w w') := by
 by_cases h0 : n = 0
 · subst h0
   go_enter Tryz.func373, Tryz.ntmps373
   go_wp2
   go_ret
   exact ⟨_, rfl, World.ownsRow_nil _ _ _ _, Bw.refl _⟩
 · obtain ⟨i0, hi, hz0, hz1, hz2⟩ := info_parts infoInt
   have hrz : ∀ ty, (Builtin.append_ #[27, 3] ty #[.slice none 0 0, .int .i64 (n : Int)]).run Tryz.prog w = _ := fun ty =>
     Lib.run_append_grow_zeros w 27 3 ty 3 i0 _ .i64 .i64 Tryz.underlying27 Tryz.underlying3 hi hz0 none 0 0 [] (run_firstCells_none w.drew i0.size 0 0 0) n (by omega) (by omega) (by omega) (by omega) (by rw [hz2]; omega) (growslice_fits (by omega) (by rw [hz2]; omega))
   have hGn : 0 + n ≤ grownCap w (0 + n) 0 3 := grownCap_ge w _ _ _
   have hG63 : grownCap w (0 + n) 0 3 ≤ maxLen := grownCap_le_maxLen w (0 + n) 0 3 (by unfold maxLen; omega)
   generalize grownCap w (0 + n) 0 3 = G at *
   have hsz : ((#[] : Array Value) ++ Builtin.zeroCells (Value.int .i64 0).cells n ++ Builtin.zeroCells (Value.int .i64 0).cells (G - n)).size = G := by
     simp [size_zeroCells, Value.cells]; omega
   simp only [Nat.zero_add] at hrz
   have HSZ := Lib.hid hsz
   clear hsz
   have hG := hG63
   unfold maxLen at hG63
   have hn0 : 0 < n := by omega
   go_enter Tryz.func373, Tryz.ntmps373
   go_wp2_with (at_builtin; refine Lib.wpList_append_run _ rfl _ _ _ _ rfl _ _ rfl rfl _ _ (hrz _) ?_)
   go_ret
   refine ⟨_, rfl, ⟨by simp, .inr ⟨w.heap.size, G, _, rfl, Nat.le_refl _, heap_alloc_new w.drew _, Nat.zero_le _, hG, by have := HSZ.out; simpa [Value.cells] using this, by simp⟩⟩, (Bw.refl _).drew.alloc _⟩
def IIAt (w : World) (S : Nat → Prop) (v : Value) (ls : List (List Int)) : Prop := ∃ (A : Option Addr) (n c : Nat) (ss : List Value), v = .slice A n c ∧ ls.length = n ∧ ss.length = n ∧ n ≤ c ∧ c ≤ maxLen ∧ (0 < n → ∃ ad, A = some ad ∧ S ad.block ∧ ∀ k (h : k < ss.length), w.cell? (ad.add k) = some ss[k]) ∧
 ∀ k (h : k < ls.length) (h' : k < ss.length), IAt w S ss[k] ls[k]
theorem IIAt.form {w : World} {S : Nat → Prop} {v : Value} {ls : List (List Int)} (h : IIAt w S v ls) : ∃ A n c, v = .slice A n c ∧ ls.length = n ∧ n ≤ c ∧ c ≤ maxLen := by
 obtain ⟨A, n, c, ss, e, h1, _, h3, h4, _⟩ := h
 exact ⟨A, n, c, e, h1, h3, h4⟩
theorem IIAt.at_ {w : World} {S : Nat → Prop} {A : Option Addr} {n c : Nat} {ls : List (List Int)} (h : IIAt w S (.slice A n c) ls) {k : Nat} (hk : k < ls.length) : ∃ ad sA sn sc, A = some ad ∧ S ad.block ∧ w.cell? (ad.add k) = some (.slice sA sn sc) ∧ ls[k].length = sn ∧ IAt w S (.slice sA sn sc) ls[k] := by
 obtain ⟨A', n', c', ss, e, h1, h2, h3, h4, h5, h6⟩ := h
 injection e with e1 e2 e3
 subst e1 e2 e3
 obtain ⟨ad, rfl, hb, hc⟩ := h5 (by omega)
 have hi := h6 k hk (by omega)
 obtain ⟨sA, sn, sc, e, hl, _⟩ := hi.form
 refine ⟨ad, sA, sn, sc, rfl, hb, ?_, hl, ?_⟩
 · rw [hc k (by omega), e]
 · rw [← e]; exact hi
theorem flatI_take {ls : List (List Int)} {k : Nat} (h : k < ls.length) : (ls.take (k + 1)).flatten = (ls.take k).flatten ++ ls[k] := by
 rw [List.take_succ_eq_append_getElem h, List.flatten_append]; simp
theorem flatI_le (ls : List (List Int)) (k : Nat) : (ls.take k).flatten.length ≤ ls.flatten.length := by
 have := congrArg List.flatten (List.take_append_drop k ls)
 rw [List.flatten_append] at this
 rw [← this]; simp
theorem concatI_any (ls : List (List Int)) (hn : ls.flatten.length ≤ 1000000) (s : Value) (w : World) (h : IIAt w (· < w.heap.size) s ls) : Calls Tryz.prog 339 #[s] w (IntsF w ls.flatten) := by
 obtain ⟨A, n, c, rfl, ln, bn, mn⟩ := h.form
 unfold maxLen at mn
 have H := Lib.hid h
 have LN := Lib.hid ln
 have HN := Lib.hid hn
 unfold IntsF
 clear h ln hn
 obtain ⟨i0, hi, hz0, hz1, hz2⟩ := info_parts infoInt
 go_enter Tryz.func339, Tryz.ntmps339
 go_wp2_with fail
 go_loopw [3, 5, 11] (fun s3 _ i wr => ∃ k m : Nat, k ≤ n ∧ i = .int .i64 k ∧ s3 = .int .i64 m ∧ m ≤ 1000000 ∧ Hid (m = (ls.take k).flatten.length ∧ w = wr)) (fun _ _ i _ => n - (intOf i).toNat)
 case atStart => exact ⟨0, 0, by omega, rfl, rfl, by omega, Lib.hid ⟨by simp, rfl⟩⟩
 case round =>
   obtain ⟨k, m, hk, rfl, rfl, hm, HR⟩ := hrel
   obtain ⟨hm2, rfl⟩ := HR.out
   have HM := Lib.hid hm2
   clear hm2 HR
   by_cases hlt : k < n
   · have e1 : k < ls.length := by rw [LN.out]; exact hlt
     obtain ⟨ad, sA, sn, sc, rfl, hb, q0, sl, hs⟩ := H.out.at_ e1
     have hms : m + sn ≤ 1000000 := by
       have h1 := flatI_le ls (k + 1)
       rw [flatI_take e1, List.length_append, ← HM.out, sl] at h1
       have := HN.out; omega
     have HM2 : Hid (m + sn = (ls.take (k + 1)).flatten.length) := Lib.hid (by rw [flatI_take e1, List.length_append, ← HM.out, sl])
     have h00 : ¬ ((m : Int) + (sn : Int) < 0) := by omega
     clear hs sl hb
     go_wp2
     go_roundw
     case rel => exact ⟨k + 1, m + sn, by omega, by go_num, by go_num, hms, Lib.hid ⟨HM2.out, trivial⟩⟩
     case measure => simp [intOf]; omega
   · obtain rfl : n = k := by omega
     have CG := Lib.hid (growI_any m hm w)
     go_wp2_with (go_at_call 373; go_must (refine CG.out.mono ?_; rintro e w6 ⟨s6, rfl, hr6, hg6⟩; obtain ⟨A6, c6, rfl, -, -⟩ := own_bounds hr6; (have HR6 := Lib.hid hr6); (have HG6 := Lib.hid hg6); clear hr6 hg6))
     have HB6 : Hid (w.heap.size ≤ w6.heap.size) := Lib.hid HG6.out.size
     go_loopw [6, 8, 27] (fun s6 _ i wr => ∃ k : Nat, k ≤ n ∧ i = .int .i64 k ∧ Hid (wr.ownsRow w.heap.size 3 1 s6 (ls.take k).flatten.length (intVs (ls.take k).flatten) ∧ Bw w wr)) (fun _ _ i _ => n - (intOf i).toNat)
     case atStart => exact ⟨0, by omega, rfl, Lib.hid ⟨by simpa [intVs] using HR6.out, HG6.out⟩⟩
     case round =>
       obtain ⟨k, hk, rfl, HR⟩ := hrel
       obtain ⟨hq, hg⟩ := HR.out
       obtain ⟨VA, vc, rfl, vb1, vb2⟩ := own_bounds hq
       have HQ := Lib.hid hq
       have HG := Lib.hid hg
       by_cases hlt : k < n
       · have e1 : k < ls.length := by rw [LN.out]; exact hlt
         obtain ⟨ad, sA, sn, sc, rfl, hb, q0, sl, hs⟩ := H.out.at_ e1
         have q1 := (hg.b.cell (p := ad.add k) (by rw [add_block]; exact hb)).trans q0
         have hql : (ls.take k).flatten.length + sn ≤ 1000000 := by
           have h1 := flatI_le ls (k + 1)
           rw [flatI_take e1, List.length_append, sl] at h1
           have := HN.out; omega
         have HPS : Hid ((ls.take (k + 1)).flatten = (ls.take k).flatten ++ ls[k]) := Lib.hid (flatI_take e1)
         have HSL := Lib.hid sl
         have HRD := Lib.hid (IAt.reads (IAt.bw hs hg))
         have hsz := hg.size
         clear hs sl hb q0 hq hg HR
         generalize hfl : (ls.take k).flatten = fl at *
         clear hfl
         go_wp2_with (at_builtin; go_must (refine wpList_append_any _ rfl _ _ 27 rfl w.heap.size 3 i0 _ 1 8 Tryz.underlying27 hi hz0 hz1 hz2 rfl (by decide) (.slice VA fl.length vc) fl.length (intVs fl) rfl HQ.out wr.heap.size sA sn sc (intVs ls[k]) rfl HRD.out (by intro u hu; obtain ⟨x, -, rfl⟩ := List.mem_map.1 hu; rfl) (by unfold maxLen; omega) (by omega) (by omega) ?_; intro v7 w7 hown7 hgr7 hl7; obtain ⟨A7, c7, rfl, -, -⟩ := own_bounds hown7; (have HO7 := Lib.hid hown7); (have HG7 := Lib.hid hgr7); clear hown7 hgr7 hl7))
         go_roundw
         case rel =>
           refine ⟨k + 1, by omega, by go_num, Lib.hid ⟨?_, Below.grown HG.out HG7.out HG.out.size (fun r e => (HQ.out.lt r e).1)⟩⟩
           rw [HPS.out, List.length_append, HSL.out, ← intVs_append]; exact HO7.out
         case measure => simp [intOf]; omega
       · obtain rfl : k = n := by omega
         have HF : Hid ((ls.take k).flatten = ls.flatten) := Lib.hid (by rw [List.take_of_length_le (by rw [LN.out]; omega)])
         clear hq hg HR
         go_wp2
         go_ret
         refine ⟨_, rfl, ?_, HG.out⟩
         rw [← HF.out]
         exact HQ.out
end
end Go.Proofs.YthhbkabdhkdafaaGreat
