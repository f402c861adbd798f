/- Part of a proof of basisSets_holds. -/
import Derived.Test.YtbmheekaclmibaaGreatXMeeAQ
import Derived.Lib.AppendZerosOnto
set_option maxRecDepth 100000
set_option maxHeartbeats 16000000
namespace Go.Proofs.YtbmheekaclmibaaGreat
open Go.RowKit
set_option linter.unusedSimpArgs false
set_option linter.unusedVariables false
def LAt (w : World) (S : Nat → Prop) (v : Value) (ls : List (List V)) : Prop := ∃ (A : Option Addr) (n c : Nat) (ss : List Value), v = .slice A n c ∧ ls.length = n ∧ ss.length = n ∧ n ≤ c ∧ c ≤ maxLen ∧ (0 < n → ∃ ad, A = some ad ∧ S ad.block ∧ ∀ k (h : k < ss.length), w.cell? (ad.add k) = some ss[k]) ∧ ∀ k (h : k < ls.length) (h' : k < ss.length), KAt w S ss[k] ls[k]
abbrev LB (w : World) (B : Nat) (v : Value) (ls : List (List V)) : Prop := LAt w (· < B) v ls
section
variable {w w' : World} {S S' : Nat → Prop} {v : Value} {ls : List (List V)}
theorem LAt.keep (h : LAt w S v ls) (hS : ∀ b, S b → S' b) (hk : ∀ p : Addr, S p.block → w'.cell? p = w.cell? p) : LAt w' S' v ls := by
 obtain ⟨A, n, c, ss, h1, h2, h3, h4, h5, h6, h7⟩ := h
 refine ⟨A, n, c, ss, h1, h2, h3, h4, h5, fun hn => ?_, fun k h h' => (h7 k h h').keep hS hk⟩
 obtain ⟨ad, e, hs, hc⟩ := h6 hn
 exact ⟨ad, e, hS _ hs, fun k h => (hk _ (by rw [add_block]; exact hs)).trans (hc k h)⟩
theorem LAt.form (h : LAt w S v ls) : ∃ A n c, v = .slice A n c ∧ ls.length = n ∧ n ≤ c ∧ c ≤ maxLen := by
 obtain ⟨A, n, c, ss, h1, h2, h3, h4, h5, h6, h7⟩ := h
 exact ⟨A, n, c, h1, h2, h4, h5⟩
theorem LAt.at_ {A : Option Addr} {n c : Nat} (h : LAt w S (.slice A n c) ls) {k : Nat} (hk : k < ls.length) : ∃ ad A' n' c', A = some ad ∧ S ad.block ∧ w.cell? (ad.add k) = some (.slice A' n' c') ∧ ls[k].length = n' ∧ KAt w S (.slice A' n' c') ls[k] := by
 obtain ⟨A1, n1, c1, ss, e, h2, h3, h4, h5, h6, h7⟩ := h
 injection e with e1 e2 e3
 subst e1 e2 e3
 obtain ⟨ad, rfl, hs, hc⟩ := h6 (by omega)
 have h8 := hc k (by omega)
 have h9 := h7 k hk (by omega)
 obtain ⟨A', n', c', e', h10, _, _⟩ := h9.form
 rw [e'] at h8 h9
 exact ⟨ad, A', n', c', rfl, hs, h8, h10, h9⟩
theorem LAt.nil (c : Nat) (A : Option Addr) (hc : c ≤ maxLen) : LAt w S (.slice A 0 c) [] := ⟨A, 0, c, [], rfl, rfl, rfl, Nat.zero_le _, hc, fun h => absurd h (by omega), fun k h => absurd h (by simp)⟩
theorem LAt.bw (h : LB w w.heap.size v ls) (g : Bw w w') : LB w' w'.heap.size v ls := LAt.keep h (fun b hb => Nat.lt_of_lt_of_le hb g.size) (fun p hp => g.b.cell hp)
end

theorem idxRow_any (l : List (List V)) (p : List V → Bool) (g : Nat) (cb : Array Value) (eg : ∀ args w, (callFunc g args).run Tryz.prog w = .ok (.enter g args) w) (s : Value) (w : World) (h : LB w w.heap.size s l)
   (hc : ∀ v ∈ l, ∀ (s' : Value) (W : World), Bw w W → KB W W.heap.size s' v → Calls Tryz.prog g (#[s'] ++ cb) W (BoolPost W (p v))) :
   Calls Tryz.prog 156 #[s, .func (.func g) #[] cb] w (NumPost w (idxP p l)) := by
 obtain ⟨A, n, c, rfl, ln, bn, mn⟩ := h.form
 unfold maxLen at mn
 have HC := Lib.hid hc
 have H := Lib.hid h
 have LN := Lib.hid ln
 clear hc h ln
 go_enter Tryz.func156, Tryz.ntmps156
 go_wp2
 go_loopw [5, 8] (fun _ i wr => ∃ k : Nat, k ≤ n ∧ i = .int .i64 k ∧ Hid (Bw w wr ∧ ∀ j (hj : j < l.length), j < k → p l[j] = false)) (fun _ i _ => n - (intOf i).toNat)
 case atStart => exact ⟨0, by omega, rfl, Lib.hid ⟨Bw.refl _, fun j _ h => absurd h (by omega)⟩⟩
 case round =>
   obtain ⟨k, hk, rfl, HR⟩ := hrel
   obtain ⟨hg, hno⟩ := HR.out
   by_cases hlt : k < n
   · have e1 : k < l.length := by rw [LN.out]; exact hlt
     obtain ⟨ad, sA, sn, sc, rfl, hb, q0, sl, hs⟩ := (H.out.bw hg).at_ e1
     have CM : Hid (Calls Tryz.prog g (#[.slice sA sn sc] ++ cb) wr (BoolPost wr (p l[k]))) := Lib.hid (HC.out _ (List.getElem_mem e1) _ _ hg hs)
     have HG := Lib.hid hg
     have HNO := Lib.hid hno
     clear hg hno HR
     rcases hp : p l[k] with _ | _
     · rw [hp] at CM
       have HP := Lib.hid hp
       clear hp
       clear hs sl
       go_wp2_with (go_at_fn g; go_must (refine CM.out.mono ?_; rintro e w6 ⟨rfl, hg6⟩; (have HG6 := Lib.hid hg6); clear hg6))
       go_roundw
       case rel =>
         refine ⟨k + 1, by omega, by go_num, Lib.hid ⟨HG.out.trans HG6.out, fun j hj hjk => ?_⟩⟩
         by_cases e : j = k
         · subst e; exact HP.out
         · exact HNO.out j hj (by omega)
       case measure => simp [intOf]; omega
     · rw [hp] at CM
       have HP := Lib.hid hp
       clear hp
       clear hs sl
       go_wp2_with (go_at_fn g; go_must (refine CM.out.mono ?_; rintro e w6 ⟨rfl, hg6⟩; (have HG6 := Lib.hid hg6); clear hg6))
       go_ret
       exact ⟨ret_int (idxP_hit e1 HP.out (fun j hj => HNO.out j (by omega) hj)).symm, HG.out.trans HG6.out⟩
   · obtain rfl : k = n := by omega
     have HG := Lib.hid hg
     have HNO := Lib.hid hno
     clear hg hno HR
     go_wp2
     go_ret
     exact ⟨ret_int (idxP_miss (fun j hj => HNO.out j hj (by have := LN.out; omega))).symm, HG.out⟩
theorem contRow_any (l : List (List V)) (p : List V → Bool) (g : Nat) (cb : Array Value) (eg : ∀ args w, (callFunc g args).run Tryz.prog w = .ok (.enter g args) w) (s : Value) (w : World) (h : LB w w.heap.size s l)
   (hc : ∀ v ∈ l, ∀ (s' : Value) (W : World), Bw w W → KB W W.heap.size s' v → Calls Tryz.prog g (#[s'] ++ cb) W (BoolPost W (p v))) :
   Calls Tryz.prog 127 #[s, .func (.func g) #[] cb] w (BoolPost w (l.any p)) := by
 have CI := Lib.hid (idxRow_any l p g cb eg s w h hc)
 rw [← idxP_nonneg]
 obtain ⟨A, n, c, rfl, _, _, _⟩ := h.form
 clear hc h
 generalize idxP p l = r at *
 go_enter Tryz.func127, Tryz.ntmps127
 go_wp2_with (go_at_call 156; go_must (refine CI.out.mono ?_; rintro e w6 ⟨rfl, hg6⟩))
 go_ret
 exact ⟨rfl, hg6⟩
theorem KAt.reads {w : World} {B : Nat} {S : Nat → Prop} {A : Option Addr} {n c : Nat} {l : List V} (h : KAt w S (.slice A n c) l) (hS : ∀ b, S b → b < B) : ∃ ps : List VS, ps.map (·.1) = l ∧ Reads w B 2 A n (pCells ps) ∧ (∀ p ∈ ps, KAt w S p.2 p.1.ks) ∧ ∀ u ∈ pCells ps, u.oneCell' = true := by
 obtain ⟨ps, hps, hcell, hkid⟩ := h.pairs
 have hln : l.length = n := by obtain ⟨_, _, _, e, h1, _, _⟩ := h.form; injection e with e1 e2 e3; subst e2; exact h1
 have hpl : ps.length = n := by rw [← hln, ← hps]; simp
 refine ⟨ps, hps, ⟨by rw [pCells_length, hpl], fun hn => ?_⟩, hkid, fun u hu => ?_⟩
 · obtain ⟨ad, _, _, _, rfl, hb, _⟩ := h.at_ (k := 0) (by omega)
   exact ⟨ad, rfl, hS _ hb, fun j u hu => (hcell ad rfl j u hu).1⟩
 · obtain ⟨p, hp, hu⟩ := List.mem_flatMap.1 hu
   obtain ⟨A', n', c', e, _⟩ := (hkid p hp).form
   simp only [List.mem_cons, List.not_mem_nil, or_false] at hu
   rcases hu with rfl | rfl
   · rfl
   · rw [e]; rfl
theorem grow_any (n : Nat) (hn : n ≤ 1000000) (w : World) : Calls Tryz.prog 97 #[.slice none 0 0, .int .i64 n] w (fun e w' => ∃ s, e = .returned s ∧ w'.ownsRow w.heap.size 39 2 s 0 [] ∧ Bw w w') := by
 by_cases h0 : n = 0
 · subst h0
   go_enter Tryz.func97, Tryz.ntmps97
   go_wp2
   go_ret
   exact ⟨_, rfl, World.ownsRow_nil _ _ _ _, Bw.refl _⟩
 · obtain ⟨i0, hi, hz0, hz1, hz2⟩ := info_parts infoVal
   have hrz : ∀ ty, (Builtin.append_ #[31, 3] ty #[.slice none 0 0, .int .i64 (n : Int)]).run Tryz.prog w = _ := fun ty =>
     Lib.run_append_grow_zeros w 31 3 ty 39 i0 _ .i64 .i64 Tryz.underlying31 Tryz.underlying3 hi hz0 none 0 0 [] (run_firstCells_none w.drew i0.size 0 0 0) n (by omega) (by omega) (by omega) (by omega) (by rw [hz2]; omega) (growslice_fits (by omega) (by rw [hz2]; omega))
   have hGn : 0 + n ≤ grownCap w (0 + n) 0 39 := grownCap_ge w _ _ _
   have hG63 : grownCap w (0 + n) 0 39 ≤ maxLen := grownCap_le_maxLen w (0 + n) 0 39 (by unfold maxLen; omega)
   generalize grownCap w (0 + n) 0 39 = G at *
   have hsz : ((#[] : Array Value) ++ Builtin.zeroCells (Value.agg #[.int .i64 0, .slice none 0 0]).cells n ++ Builtin.zeroCells (Value.agg #[.int .i64 0, .slice none 0 0]).cells (G - n)).size = G * 2 := by
     simp [size_zeroCells, Value.cells]; omega
   simp only [Nat.zero_add] at hrz
   have HSZ := Lib.hid hsz
   clear hsz
   have hG := hG63
   unfold maxLen at hG63
   have hn0 : 0 < n := by omega
   go_enter Tryz.func97, Tryz.ntmps97
   go_wp2_with (at_builtin; refine Lib.wpList_append_run _ rfl _ _ _ _ rfl _ _ rfl rfl _ _ (hrz _) ?_)
   go_ret
   refine ⟨_, rfl, ⟨by simp, .inr ⟨w.heap.size, G, _, rfl, Nat.le_refl _, heap_alloc_new w.drew _, Nat.zero_le _, hG, by have := HSZ.out; simpa [Value.cells] using this, by simp⟩⟩, (Bw.refl _).drew.alloc _⟩
def CatPost (w : World) (S : Nat → Prop) (l : List V) (e : Ending) (w' : World) : Prop := ∃ s qs, e = .returned s ∧ MRow w' w.heap.size s qs ∧ (∀ p ∈ qs, KAt w' S p.2 p.1.ks) ∧ qs.map (·.1) = l ∧ Bw w w'
theorem flat_take {ls : List (List V)} {k : Nat} (h : k < ls.length) : (ls.take (k + 1)).flatten = (ls.take k).flatten ++ ls[k] := by
 rw [List.take_succ_eq_append_getElem h, List.flatten_append]; simp
theorem flat_le (ls : List (List V)) (k : Nat) : (ls.take k).flatten.length ≤ ls.flatten.length := by
 have := congrArg List.flatten (List.take_append_drop k ls)
 rw [List.flatten_append] at this
 rw [← this]; simp
theorem concat_any (ls : List (List V)) (hn : ls.flatten.length ≤ 1000000) (S : Nat → Prop) (s : Value) (w : World) (hS : ∀ b, S b → b < w.heap.size) (h : LAt w S s ls) : Calls Tryz.prog 59 #[s] w (CatPost w S ls.flatten) := by
 obtain ⟨A, n, c, rfl, ln, bn, mn⟩ := h.form
 unfold maxLen at mn
 have H := Lib.hid h
 have HS := Lib.hid hS
 have LN := Lib.hid ln
 have HN := Lib.hid hn
 unfold CatPost
 clear h ln hn hS
 obtain ⟨i0, hi, hz0, hz1, hz2⟩ := info_parts infoVal
 go_enter Tryz.func59, Tryz.ntmps59
 go_wp2_with fail
 go_loopw [3, 5, 11] (fun s3 _ i wr => ∃ k m : Nat, k ≤ n ∧ i = .int .i64 k ∧ s3 = .int .i64 m ∧ m ≤ 1000000 ∧ Hid (m = (ls.take k).flatten.length ∧ w = wr)) (fun _ _ i _ => n - (intOf i).toNat)
 case atStart => exact ⟨0, 0, by omega, rfl, rfl, by omega, Lib.hid ⟨by simp, rfl⟩⟩
 case round =>
   obtain ⟨k, m, hk, rfl, rfl, hm, HR⟩ := hrel
   obtain ⟨hm2, rfl⟩ := HR.out
   have HM := Lib.hid hm2
   clear hm2 HR
   by_cases hlt : k < n
   · have e1 : k < ls.length := by rw [LN.out]; exact hlt
     obtain ⟨ad, sA, sn, sc, rfl, hb, q0, sl, hs⟩ := H.out.at_ e1
     have hms : m + sn ≤ 1000000 := by
       have h1 := flat_le ls (k + 1)
       rw [flat_take e1, List.length_append, ← HM.out, sl] at h1
       have := HN.out; omega
     have HM2 : Hid (m + sn = (ls.take (k + 1)).flatten.length) := Lib.hid (by rw [flat_take e1, List.length_append, ← HM.out, sl])
     have h00 : ¬ ((m : Int) + (sn : Int) < 0) := by omega
     clear hs sl hb
     go_wp2
     go_roundw
     case rel => exact ⟨k + 1, m + sn, by omega, by go_num, by go_num, hms, Lib.hid ⟨HM2.out, trivial⟩⟩
     case measure => simp [intOf]; omega
   · obtain rfl : n = k := by omega
     have hmt : Hid (m = ls.flatten.length) := Lib.hid (by rw [HM.out, List.take_of_length_le (by rw [LN.out]; omega)])
     have CG := Lib.hid (grow_any m hm w)
     go_wp2_with (go_at_call 97; go_must (refine CG.out.mono ?_; rintro e w6 ⟨s6, rfl, hr6, hg6⟩; obtain ⟨A6, c6, rfl⟩ := own_form hr6; (have HR6 := Lib.hid hr6); (have HG6 := Lib.hid hg6); clear hr6 hg6))
     have HB6 : Hid (w.heap.size ≤ w6.heap.size) := Lib.hid HG6.out.size
     go_loopw [6, 8, 27] (fun s6 _ i wr => ∃ k : Nat, k ≤ n ∧ i = .int .i64 k ∧ Hid (∃ qs, MRow wr w.heap.size s6 qs ∧ (∀ p ∈ qs, KAt wr S p.2 p.1.ks) ∧ qs.map (·.1) = (ls.take k).flatten ∧ Bw w wr)) (fun _ _ i _ => n - (intOf i).toNat)
     case atStart => exact ⟨0, by omega, rfl, Lib.hid ⟨[], ⟨HR6.out, fun p h => absurd h (by simp)⟩, fun p h => absurd h (by simp), by simp, HG6.out⟩⟩
     case round =>
       obtain ⟨k, hk, rfl, HR⟩ := hrel
       obtain ⟨qs, hq, hks, hm, hg⟩ := HR.out
       have HKS := Lib.hid hks
       obtain ⟨VA, vc, rfl, vb1, vb2⟩ := hq.form
       have HQ := Lib.hid hq
       have HMQ := Lib.hid hm
       have HG := Lib.hid hg
       by_cases hlt : k < n
       · have e1 : k < ls.length := by rw [LN.out]; exact hlt
         obtain ⟨ad, sA, sn, sc, rfl, hb, q0, sl, hs⟩ := H.out.at_ e1
         have q1 := (hg.b.cell (p := ad.add k) (by rw [add_block]; exact HS.out _ hb)).trans q0
         obtain ⟨ps, hps, hrd, hkid, hone⟩ := (hs.keep (w' := wr) (S' := S) (fun b hb => hb) (fun p hp => hg.b.cell (HS.out _ hp))).reads HS.out
         have hql : qs.length + sn ≤ 1000000 := by
           have h1 := flat_le ls (k + 1)
           rw [flat_take e1, List.length_append, sl, ← hm, List.length_map] at h1
           have := HN.out; omega
         have HPS : Hid ((qs ++ ps).map (·.1) = (ls.take (k + 1)).flatten) := Lib.hid (by rw [flat_take e1, List.map_append, hm, hps])
         have HPL : Hid (ps.length = sn) := Lib.hid (by rw [← sl, ← hps]; simp)
         have HRD := Lib.hid (Reads.more hrd hg.size)
         have HKD := Lib.hid hkid
         have HON := Lib.hid hone
         have hsz := hg.size
         clear hs sl hb q0 hps hrd hkid hone hq hm hg HR hks
         go_wp2_with (at_builtin; go_must (refine wpList_append_any _ rfl _ _ 31 rfl w.heap.size 39 i0 _ 2 32 Tryz.underlying31 hi hz0 hz1 hz2 rfl (by decide) (.slice VA qs.length vc) qs.length (pCells qs) rfl HQ.out.own wr.heap.size sA sn sc (pCells ps) rfl HRD.out HON.out (by unfold maxLen; omega) (by omega) (by omega) ?_; intro v7 w7 hown7 hgr7 hl7; obtain ⟨A7, c7, rfl⟩ := own_form hown7; (have HO7 := Lib.hid hown7); (have HG7 := Lib.hid hgr7); clear hown7 hgr7 hl7))
         go_roundw
         case rel =>
           refine ⟨k + 1, by omega, by go_num, Lib.hid ⟨qs ++ ps, ?_, fun p hp => ?_, HPS.out, ?_⟩⟩
           · refine HQ.out.turn HG7.out HG.out.size ?_ (fun p hp => ?_)
             · rw [pCells_append, List.length_append, HPL.out]; exact HO7.out
             · rcases List.mem_append.1 hp with hp | hp
               · exact .inl hp
               · exact .inr ((HKD.out p hp).keep HS.out (fun _ _ => rfl))
           · have key : ∀ {s : Value} {ks : List V}, KAt wr S s ks → KAt w7 S s ks := fun h => h.keep (fun b hb => hb) (fun q hq => World.cell?_of_block (HG7.out.block q.block (Nat.lt_of_lt_of_le (HS.out _ hq) HG.out.size) (fun e => by have := (HQ.out.own.lt _ e.symm).1; have := HS.out _ hq; omega)))
             rcases List.mem_append.1 hp with hp | hp
             · exact key (HKS.out p hp)
             · exact key (HKD.out p hp)
           · exact bw_gb HG.out HG7.out (fun r e => (HQ.out.own.lt r e).1)
         case measure => simp [intOf]; omega
       · obtain rfl : k = n := by omega
         have HF : Hid (qs.map (·.1) = ls.flatten) := Lib.hid (by rw [hm, List.take_of_length_le (by rw [LN.out]; omega)])
         clear hq hm hg HR hks
         go_wp2
         go_ret
         exact ⟨_, qs, rfl, HQ.out, HKS.out, HF.out, HG.out⟩
structure QRow (w : World) (e : Nat) (Q : Nat → Prop) (B : Nat) (v : Value) (l : List V) (ss : List Value) : Prop where
 own : w.ownsRow B e 2 v l.length (vCells l ss)
 len : ss.length = l.length
 kid : ∀ k (h : k < l.length) (h' : k < ss.length), KAt w (fun b => Q b ∧ b < w.heap.size ∧ v.ownBlock ≠ some b) ss[k] l[k].ks
section
variable {w w' A W : World} {e B : Nat} {Q : Nat → Prop} {v v' : Value} {l : List V} {ss : List Value}
theorem QRow.nil (w : World) (e : Nat) (Q : Nat → Prop) (B : Nat) : QRow w e Q B (.slice none 0 0) [] [] := ⟨World.ownsRow_nil _ _ _ _, rfl, fun k h => absurd h (by simp)⟩
theorem QRow.kat (h : QRow w e Q B v l ss) (hL : ∀ b, B ≤ b → Q b) : KAt w (fun b => Q b ∧ b < w.heap.size) v l :=
 (own_KAt h.own rfl h.len h.kid).keep (fun b hb => by
   rcases hb with hb | hb
   · exact ⟨hb.1, hb.2.1⟩
   · have := h.own.lt b hb; exact ⟨hL _ this.1, this.2⟩) (fun _ _ => rfl)
theorem QRow.bw (h : QRow A e Q B v l ss) (hg : Bw A W) : QRow W e Q B v l ss :=
 ⟨h.own.kept hg.gr (by rcases hv : v.ownBlock with _ | k <;> simp [hv]), h.len, fun k h1 h2 => (h.kid k h1 h2).keep (fun b hb => ⟨hb.1, Nat.lt_of_lt_of_le hb.2.1 hg.size, hb.2.2⟩) (fun p hp => hg.b.cell hp.2.1)⟩
theorem QRow.push (h : QRow A e Q B v l ss) {x : V} {s : Value} (hs : KAt A (fun b => Q b ∧ b < A.heap.size ∧ v.ownBlock ≠ some b) s x.ks) (hown : W.ownsRow B e 2 v' (l.length + 1) (vCells l ss ++ [.int .i64 x.n, s])) (hg : A.grownBy W v.ownBlock) (hv : v'.ownBlock = v.ownBlock ∨ v'.ownBlock = some A.heap.size) :
   QRow W e Q B v' (l ++ [x]) (ss ++ [s]) := by
 have key : ∀ {s : Value} {ks : List V}, KAt A (fun b => Q b ∧ b < A.heap.size ∧ v.ownBlock ≠ some b) s ks → KAt W (fun b => Q b ∧ b < W.heap.size ∧ v'.ownBlock ≠ some b) s ks := fun h => h.keep (fun b hb => ⟨hb.1, Nat.lt_of_lt_of_le hb.2.1 hg.size, by
   rcases hv with e | e
   · rw [e]; exact hb.2.2
   · rw [e]; intro e2; injection e2 with e2; have := hb.2.1; omega⟩) (fun p hp => World.cell?_of_block (hg.block p.block hp.2.1 (fun e => hp.2.2 e.symm)))
 refine ⟨by rw [vCells_append _ _ h.len]; simpa [vCells] using hown, by simp [h.len], fun k h1 h2 => ?_⟩
 by_cases hk : k < l.length
 · have := key (h.kid k hk (by rw [h.len]; exact hk))
   rw [List.getElem_append_left hk, List.getElem_append_left (by rw [h.len]; exact hk)]
   exact this
 · obtain rfl : k = l.length := by simp at h1; omega
   have e1 : (l ++ [x])[l.length]'(by simp) = x := by simp
   have e2 : (ss ++ [s])[l.length]'(by simp [h.len]) = s := by simp [← h.len]
   rw [e1, e2]
   exact key hs
theorem QRow.form (h : QRow w e Q B v l ss) : ∃ A c, v = .slice A l.length c ∧ l.length ≤ c ∧ c ≤ maxLen := own_bounds h.own
end
theorem add0 (ad : Addr) : ad.add 0 = ad := by simp [Addr.add]
theorem KAt.one {W : World} {g : Nat} {T : TypeId} {v : V} {s : Value} {S : Nat → Prop} (h : Blk W g T #[.int .i64 v.n, s]) (hS : S g) (hk : KAt W S s v.ks) : KAt W S (.slice (some ⟨g, 0, none⟩) 1 1) [v] :=
 .mk (some ⟨g, 0, none⟩) 1 1 [v] [s] rfl rfl (Nat.le_refl _) (by unfold maxLen; omega) (fun _ => ⟨⟨g, 0, none⟩, rfl, hS, fun k h1 h2 => by
   obtain rfl : k = 0 := by simp at h1; omega
   have e : (⟨g, 0, none⟩ : Addr).add (0 * 2) = ⟨g, 0, none⟩ := by simp [Addr.add]
   rw [e]
   exact ⟨h.cell 0, h.cell 1⟩⟩) (fun k h1 h2 => by
   obtain rfl : k = 0 := by simp at h1; omega
   exact hk)
theorem LAt.two {W : World} {g : Nat} {T : TypeId} {l1 l2 : List V} {s1 s2 : Value} {S : Nat → Prop} (h : Blk W g T #[s1, s2]) (hS : S g) (h1 : KAt W S s1 l1) (h2 : KAt W S s2 l2) : LAt W S (.slice (some ⟨g, 0, none⟩) 2 2) [l1, l2] := by
 refine ⟨_, 2, 2, [s1, s2], rfl, rfl, rfl, Nat.le_refl _, by unfold maxLen; omega, fun _ => ⟨⟨g, 0, none⟩, rfl, hS, fun k hk => ?_⟩, fun k hk hk' => ?_⟩
 · have : k = 0 ∨ k = 1 := by simp at hk; omega
   rcases this with rfl | rfl
   · rw [add0]; exact h.cell 0
   · have e : (⟨g, 0, none⟩ : Addr).add 1 = ⟨g, 1, none⟩ := by simp [Addr.add]
     rw [e]; exact h.cell 1
 · have : k = 0 ∨ k = 1 := by simp at hk; omega
   rcases this with rfl | rfl
   · exact h1
   · exact h2
def kidV (h v : V) : V := .mk 0 (h.ks ++ [v])
def tupStep (out l : List V) : List V := out.flatMap fun h => l.map (kidV h)
def tupGo : List V → List (List V) → Option (List V)
 | out, [] => some out
 | out, l :: r => if 256 < out.length * l.length then none else tupGo (tupStep out l) r
def tuplesP (ls : List (List V)) : List V × Bool := if ls.any fun l => l.isEmpty then ([], false) else match tupGo [.mk 0 []] ls with | none => ([], true) | some o => (o, false)
theorem tupStep_length (out l : List V) : (tupStep out l).length = out.length * l.length := by
 induction out with
 | nil => simp [tupStep]
 | cons x r ih =>
   have : tupStep (x :: r) l = l.map (kidV x) ++ tupStep r l := rfl
   rw [this, List.length_append, ih]; simp [Nat.add_mul, Nat.add_comm]
theorem tupStep_take {out l : List V} {k : Nat} (h : k < out.length) : tupStep (out.take (k + 1)) l = tupStep (out.take k) l ++ l.map (kidV out[k]) := by
 unfold tupStep
 rw [List.take_succ_eq_append_getElem h, List.flatMap_append]; simp
theorem tupStep_len {out l : List V} {m : Nat} (h : ∀ x ∈ out, x.ks.length ≤ m) : ∀ x ∈ tupStep out l, x.ks.length ≤ m + 1 := by
 intro x hx
 obtain ⟨y, hy, hx⟩ := List.mem_flatMap.1 hx
 obtain ⟨z, hz, rfl⟩ := List.mem_map.1 hx
 have := h y hy
 simp [kidV]; omega
theorem cat_kat {w : World} {L : Nat} {S : Nat → Prop} {v : Value} {ps : List VS} (h : MRow w L v ps) (hk : ∀ p ∈ ps, KAt w S p.2 p.1.ks) : KAt w (fun b => S b ∨ v.ownBlock = some b) v (ps.map (·.1)) :=
 own_KAt (ss := ps.map (·.2)) (n := ps.length) (by rw [vCells_pairs]; exact h.own) (by simp) (by simp) (fun k h1 h2 => by
   have := hk (ps[k]'(by simpa using h1)) (List.getElem_mem _)
   simpa using this)
theorem kid_concat {Q : Nat → Prop} {wo wr : World} {L : Nat} {v7 : Value} {l7 : List V} {ss : List Value} {T : TypeId} {hd v : V} {s1 s2 : Value} {o1 : Obj} (hQ : ∀ x, wo.heap.size ≤ x → Q x) (hrow : QRow wr 39 Q L v7 l7 ss) (hL : L = wo.heap.size) (hg : Bw wo wr) (h1 : KAt wo (fun x => Q x ∧ x < wo.heap.size) s1 hd.ks) (h2 : KAt wo (fun x => Q x ∧ x < wo.heap.size) s2 v.ks) (hlen : hd.ks.length ≤ 1000) :
   Calls Tryz.prog 59 #[.slice (some ⟨wr.heap.size + 1 + 1, 0, none⟩) 2 2] (((wr.alloc o1).alloc (.cells #[.int .i64 v.n, s2] 39)).alloc (.cells #[s1, .slice (some ⟨wr.heap.size + 1, 0, none⟩) 1 1] T))
     (CatPost (((wr.alloc o1).alloc (.cells #[.int .i64 v.n, s2] 39)).alloc (.cells #[s1, .slice (some ⟨wr.heap.size + 1, 0, none⟩) 1 1] T)) (fun b => Q b ∧ b < wr.heap.size + 1 + 1 + 1 ∧ v7.ownBlock ≠ some b) (hd.ks ++ [v])) := by
 have hsz : (((wr.alloc o1).alloc (.cells #[.int .i64 v.n, s2] 39)).alloc (.cells #[s1, .slice (some ⟨wr.heap.size + 1, 0, none⟩) 1 1] T)).heap.size = wr.heap.size + 1 + 1 + 1 := by simp
 have b1 := (Blk.new (wr.alloc o1) 39 #[.int .i64 v.n, s2]).alloc (.cells #[s1, .slice (some ⟨wr.heap.size + 1, 0, none⟩) 1 1] T)
 have b2 := Blk.new ((wr.alloc o1).alloc (.cells #[.int .i64 v.n, s2] 39)) T #[s1, .slice (some ⟨wr.heap.size + 1, 0, none⟩) 1 1]
 have e1 : (wr.alloc o1).heap.size = wr.heap.size + 1 := by simp
 have e2 : ((wr.alloc o1).alloc (.cells #[.int .i64 v.n, s2] 39)).heap.size = wr.heap.size + 1 + 1 := by simp
 rw [e1] at b1
 rw [e2] at b2
 have hgW := ((hg.alloc o1).alloc (.cells #[.int .i64 v.n, s2] 39)).alloc (.cells #[s1, .slice (some ⟨wr.heap.size + 1, 0, none⟩) 1 1] T)
 have hlt : ∀ b, v7.ownBlock = some b → wo.heap.size ≤ b ∧ b < wr.heap.size := fun b e => by have := hrow.own.lt b e; rw [hL] at this; exact this
 have hwo := hg.size
 have key : ∀ {s : Value} {ks : List V}, KAt wo (fun x => Q x ∧ x < wo.heap.size) s ks → KAt (((wr.alloc o1).alloc (.cells #[.int .i64 v.n, s2] 39)).alloc (.cells #[s1, .slice (some ⟨wr.heap.size + 1, 0, none⟩) 1 1] T)) (fun b => Q b ∧ b < wr.heap.size + 1 + 1 + 1 ∧ v7.ownBlock ≠ some b) s ks := fun h =>
   h.keep (fun b hb => ⟨hb.1, by have := hb.2; omega, fun e => by have := hlt b e; have := hb.2; omega⟩) (fun p hp => hgW.b.cell hp.2)
 have := concat_any [hd.ks, [v]] (by simp; omega) (fun b => Q b ∧ b < wr.heap.size + 1 + 1 + 1 ∧ v7.ownBlock ≠ some b) _ _ (fun b hb => by rw [hsz]; exact hb.2.1)
   (LAt.two b2 ⟨hQ _ (by omega), by omega, fun e => by have := hlt _ e; omega⟩ (key h1) (KAt.one b1 ⟨hQ _ (by omega), by omega, fun e => by have := hlt _ e; omega⟩ (key h2)))
 simpa using this
def AbvPost (w : World) (S : Nat → Prop) (l : List V) (b : Bool) (e : Ending) (w' : World) : Prop := ∃ s, e = .returned (.tuple #[s, .bool b]) ∧ KAt w' (fun x => (S x ∨ w.heap.size ≤ x) ∧ x < w'.heap.size) s l ∧ Bw w w'
theorem btuples1_any (l : List V) (s : Value) (W : World) (h : KB W W.heap.size s l) : Calls Tryz.prog 128 (#[s] ++ #[]) W (BoolPost W l.isEmpty) := by
 obtain ⟨A, n, c, rfl, ln, bn, mn⟩ := h.form
 unfold maxLen at mn
 have e : l.isEmpty = ((n : Int) == 0) := by rw [← ln]; cases l <;> simp <;> omega
 rw [e]
 clear h ln e
 show Calls Tryz.prog 128 #[.slice A n c] W _
 go_enter Tryz.func128, Tryz.ntmps128
 go_wp2
 go_ret
 exact ⟨rfl, Bw.refl _⟩
theorem btuples_any (ls : List (List V)) (h1 : ls.length ≤ 1000) (h2 : ∀ l ∈ ls, l.length ≤ 1000000) (S : Nat → Prop) (s : Value) (w : World) (hS : ∀ x, S x → x < w.heap.size) (h : LAt w S s ls) :
   Calls Tryz.prog 101 #[s] w (AbvPost w S (tuplesP ls).1 (tuplesP ls).2) := by
 obtain ⟨A, n, c, rfl, ln, bn, mn⟩ := h.form
 unfold maxLen at mn
 rw [ln] at h1
 have CF : Hid (Calls Tryz.prog 127 #[.slice A n c, .func (.func 128) #[] #[]] w (BoolPost w (ls.any fun l => l.isEmpty))) := Lib.hid (contRow_any ls (fun l => l.isEmpty) 128 #[] (enters_of Tryz.func128 (by kernel_rfl) rfl) _ w (LAt.keep h hS (fun _ _ => rfl)) (fun l hl s' W hg hk => btuples1_any l s' W hk))
 have H := Lib.hid h
 have HSS := Lib.hid hS
 have LN := Lib.hid ln
 have HL := Lib.hid h2
 clear h ln h2 hS
 obtain ⟨i0, hi, hz0, hz1, hz2⟩ := info_parts infoVal
 unfold tuplesP
 rcases hb : (ls.any fun l => l.isEmpty) with _ | _
 rotate_left
 · rw [hb] at CF
   rw [if_pos rfl]
   clear hb
   go_enter Tryz.func101, Tryz.ntmps101
   go_wp2_with (go_at_call 127; go_must (refine CF.out.mono ?_; rintro e w6 ⟨rfl, hg6⟩))
   go_ret2
   exact ⟨_, rfl, KAt.nil _ _ (Nat.zero_le _), hg6⟩
 · rw [hb] at CF
   rw [if_neg (by simp)]
   clear hb
   generalize hres : (match tupGo [.mk 0 []] ls with | none => (([] : List V), true) | some o => (o, false)) = res at *
   have HRES := Lib.hid hres
   clear hres
   go_enter Tryz.func101, Tryz.ntmps101
   go_wp2_with (go_at_call 127; go_must (refine CF.out.mono ?_; rintro e w6 ⟨rfl, hg6⟩; (have HG6 := Lib.hid hg6); clear hg6))
   go_loopw [4, 18] (fun s4 i wr => ∃ k : Nat, k ≤ n ∧ i = .int .i64 k ∧ Hid (∃ out, KAt wr (fun x => (S x ∨ w.heap.size ≤ x) ∧ x < wr.heap.size) s4 out ∧ out.length ≤ 256 ∧ (∀ x ∈ out, x.ks.length ≤ k) ∧ tupGo out (ls.drop k) = tupGo [.mk 0 []] ls ∧ Bw w wr)) (fun _ i _ => n - (intOf i).toNat)
   case atStart =>
     refine ⟨0, by omega, rfl, Lib.hid ⟨[.mk 0 []], KAt.one (v := .mk 0 []) (Blk.new w6 39 #[.int .i64 0, .slice none 0 0]) ⟨.inr HG6.out.size, by simp⟩ (KAt.nil _ _ (Nat.zero_le _)), by simp, by simp, rfl, HG6.out.alloc _⟩⟩
   case round =>
     obtain ⟨k, hk, rfl, HR⟩ := hrel
     obtain ⟨out, hko, hlo, hxo, hgo, hg⟩ := HR.out
     obtain ⟨oA, on, oc, rfl, lo, bo, mo⟩ := hko.form
     unfold maxLen at mo
     rw [lo] at hlo
     by_cases hlt : k < n
     · have e1 : k < ls.length := by rw [LN.out]; exact hlt
       obtain ⟨ad, sA, sn, sc, rfl, hb, q0, sl, hs⟩ := (LAt.keep (w' := wr) (S' := S) H.out (fun _ h => h) (fun p hp => hg.b.cell (HSS.out _ hp))).at_ e1
       have hs6 : sn ≤ 1000000 := by rw [← sl]; exact HL.out _ (List.getElem_mem e1)
       have HK := Lib.hid hko
       have HS := Lib.hid hs
       have LO := Lib.hid lo
       have SL := Lib.hid sl
       have HX := Lib.hid hxo
       have HGO := Lib.hid hgo
       have HG := Lib.hid hg
       clear hko lo hxo hgo hg hs sl HR hb
       have hprod : (on : Int) * (sn : Int) = ((on * sn : Nat) : Int) := by push_cast; rfl
       have hpb : on * sn ≤ 256 * 1000000 := Nat.mul_le_mul hlo hs6
       have hp0 : 0 ≤ (on : Int) * (sn : Int) := by rw [hprod]; omega
       have hp1 : (on : Int) * (sn : Int) ≤ 256 * 1000000 := by rw [hprod]; omega
       have HPR := Lib.hid hprod
       clear hprod
       by_cases hbig : 256 < on * sn
       · have hp2 : (on : Int) * (sn : Int) > 256 := by rw [HPR.out]; omega
         have HF : Hid (res = ([], true)) := Lib.hid (by
           rw [← HRES.out, ← HGO.out, List.drop_eq_getElem_cons e1]
           simp only [tupGo]
           rw [if_pos (by rw [LO.out, SL.out]; exact hbig)])
         clear hbig hpb
         go_wp2
         go_ret2
         rw [HF.out]
         exact ⟨_, rfl, KAt.nil _ _ (Nat.zero_le _), HG.out⟩
       · have hp2 : ¬ (on : Int) * (sn : Int) > 256 := by rw [HPR.out]; omega
         have hp3 : on * sn ≤ 256 := by omega
         have HGO2 : Hid (tupGo (tupStep out ls[k]) (ls.drop (k + 1)) = tupGo [.mk 0 []] ls) := Lib.hid (by
           rw [← HGO.out, List.drop_eq_getElem_cons e1]
           conv => rhs; simp only [tupGo]
           rw [if_neg (by rw [LO.out, SL.out]; exact hbig)])
         clear hbig hpb
         generalize ls[k] = l at *
         obtain ⟨wo, rfl⟩ : ∃ wo, wo = wr := ⟨_, rfl⟩
         go_wp2_with fail
         go_loopw [7, 30] (fun s7 i wr => ∃ j : Nat, j ≤ on ∧ i = .int .i64 j ∧ Hid (∃ ss, QRow wr 39 (fun x => S x ∨ w.heap.size ≤ x) wo.heap.size s7 (tupStep (out.take j) l) ss ∧ Bw wo wr)) (fun _ i _ => on - (intOf i).toNat)
         case atStart => exact ⟨0, by omega, rfl, Lib.hid ⟨[], QRow.nil _ _ _ _, Bw.refl _⟩⟩
         case round =>
           obtain ⟨j, hj, rfl, HR⟩ := hrel
           obtain ⟨ss, hrow, hg2⟩ := HR.out
           obtain ⟨VA, vc, rfl, vb1, vb2⟩ := hrow.form
           have HROW := Lib.hid hrow
           have HG2 := Lib.hid hg2
           by_cases hltj : j < on
           · have e2 : j < out.length := by rw [LO.out]; exact hltj
             obtain ⟨od, hA, hn, hc, rfl, ob, o0, o1, ol, oh⟩ := HK.out.at_ e2
             have o0' := (hg2.b.cell (p := od.add (j * 2)) (by rw [add_block]; exact ob.2)).trans o0
             have o1' := (hg2.b.cell (p := ⟨(od.add (j * 2)).block, (od.add (j * 2)).off + 1, none⟩) (by simp only [add_block]; exact ob.2)).trans o1
             have hxl : Hid (out[j].ks.length ≤ 1000) := Lib.hid (by have := HX.out _ (List.getElem_mem e2); omega)
             have HOH := Lib.hid oh
             have HT : Hid (tupStep (out.take (j + 1)) l = tupStep (out.take j) l ++ l.map (kidV out[j])) := Lib.hid (tupStep_take e2)
             have HTL : Hid ((tupStep (out.take j) l).length = j * sn) := Lib.hid (by rw [tupStep_length, List.length_take, SL.out]; congr 1; omega)
             have hjs : (j + 1) * sn ≤ on * sn := Nat.mul_le_mul_right sn hltj
             rw [Nat.add_mul, Nat.one_mul] at hjs
             have HJS := Lib.hid hjs
             clear oh ol hrow HR o0 o1 hjs hg2
             generalize out[j] = hd at *
             generalize tupStep (out.take j) l = L0 at *
             generalize hd.n = hdn at *
             obtain ⟨wi, rfl⟩ : ∃ wi, wi = wr := ⟨_, rfl⟩
             go_wp2_with fail
             go_loopw [7, 36] (fun s7 i wr => ∃ m : Nat, m ≤ sn ∧ i = .int .i64 m ∧ Hid (∃ ss, QRow wr 39 (fun x => S x ∨ w.heap.size ≤ x) wo.heap.size s7 (L0 ++ (l.take m).map (kidV hd)) ss ∧ Bw wo wr ∧ Blk wr wi.heap.size 39 #[.int .i64 hdn, .slice hA hn hc] ∧ s7.ownBlock ≠ some wi.heap.size)) (fun _ i _ => sn - (intOf i).toNat)
             case atStart => exact ⟨0, by omega, rfl, Lib.hid ⟨ss, by simpa using HROW.out.bw ((Bw.refl _).alloc _), HG2.out.alloc _, Blk.new _ _ _, fun e => by have := (HROW.out.own.lt _ e).2; omega⟩⟩
             case round =>
               obtain ⟨m, hm, rfl, HR⟩ := hrel
               obtain ⟨st, hrow, hgo, hbx, hne⟩ := HR.out
               obtain ⟨VB, vd, rfl, vb3, vb4⟩ := hrow.form
               have HROW3 := Lib.hid hrow
               have HG3 := Lib.hid hgo
               have HBX := Lib.hid hbx
               have HNE := Lib.hid hne
               by_cases hltm : m < sn
               · have e3 : m < l.length := by rw [SL.out]; exact hltm
                 have b1 := hbx.cell 1
                 obtain ⟨vd2, uA, un, uc, rfl, ub, u0, u1, ul, uh⟩ := HS.out.at_ e3
                 have u0' := (hgo.b.cell (p := vd2.add (m * 2)) (by rw [add_block]; exact Nat.lt_of_lt_of_le (HSS.out _ ub) HG.out.size)).trans u0
                 have u1' := (hgo.b.cell (p := ⟨(vd2.add (m * 2)).block, (vd2.add (m * 2)).off + 1, none⟩) (by simp only [add_block]; exact Nat.lt_of_lt_of_le (HSS.out _ ub) HG.out.size)).trans u1
                 have CC : Hid (∀ o1, Calls Tryz.prog 59 #[.slice (some ⟨wr.heap.size + 1 + 1, 0, none⟩) 2 2] (((wr.alloc o1).alloc (.cells #[.int .i64 l[m].n, .slice uA un uc] 39)).alloc (.cells #[.slice hA hn hc, .slice (some ⟨wr.heap.size + 1, 0, none⟩) 1 1] 31)) _) := Lib.hid (fun o1 => kid_concat (T := 31) (o1 := o1) (fun x hx => .inr (Nat.le_trans HG.out.size hx)) hrow rfl hgo HOH.out (uh.keep (fun x hx => ⟨.inl hx, Nat.lt_of_lt_of_le (HSS.out _ hx) HG.out.size⟩) (fun _ _ => rfl)) hxl.out)
                 have hll : (L0 ++ (l.take m).map (kidV hd)).length ≤ 256 := by
                   rw [List.length_append, List.length_map, List.length_take, HTL.out, SL.out]
                   have := HJS.out; omega
                 have HT3 : Hid (L0 ++ (l.take (m + 1)).map (kidV hd) = (L0 ++ (l.take m).map (kidV hd)) ++ [kidV hd l[m]]) := Lib.hid (by rw [List.take_succ_eq_append_getElem e3, List.map_append, ← List.append_assoc]; rfl)
                 unfold CatPost at CC
                 have hlt3 := HROW3.out.own.lt
                 have HLT3 := Lib.hid hlt3
                 have hgs := hgo.size
                 have hbl := hbx.lt
                 clear hlt3 hbx hgo uh ul u0 u1 hrow hne HR hxl
                 generalize L0 ++ (l.take m).map (kidV hd) = L1 at *
                 have hkv : Hid ((kidV hd l[m]).n = 0 ∧ (kidV hd l[m]).ks = hd.ks ++ [l[m]]) := Lib.hid ⟨rfl, rfl⟩
                 generalize kidV hd l[m] = kv at *
                 generalize l[m].n = x at *
                 go_wp2_with (first
                   | (go_at_call 59; go_must (refine (CC.out _).mono ?_; rintro e w8 ⟨s8, qs, rfl, hq8, hks8, hm8, hg8⟩; obtain ⟨A8, c8, rfl, _, _⟩ := hq8.form; (have hs8 : wr.heap.size + 1 + 1 + 1 ≤ w8.heap.size := by have := hg8.size; simpa using this); (have HG8 := Lib.hid ((((Bw.refl wr).alloc _).alloc _).alloc _ |>.trans hg8)); (have HQ8 := Lib.hid hq8); (have HK8 := Lib.hid (cat_kat hq8 hks8)); (have HM8 := Lib.hid hm8); clear hg8 hq8 hks8 hm8))
                   | (at_builtin; go_must (refine wpList_append_any _ rfl _ _ 31 rfl wo.heap.size 39 i0 _ 2 32 Tryz.underlying31 hi hz0 hz1 hz2 rfl (by decide) (.slice VB L1.length vd) L1.length (vCells L1 st) rfl ((HROW3.out.bw HG8.out).own.alloc (.cells #[.int .i64 0, .slice A8 qs.length c8] 39)) (w8.heap.size + 1) (some ⟨w8.heap.size, 0, none⟩) 1 1 [.int .i64 0, .slice A8 qs.length c8] rfl (reads_new2 w8 _ _ _) (one2 _ _ _ _) (by unfold maxLen; omega) (by omega) (by simp; omega) ?_; intro v7 w7 hown7 hgr7 hl7; obtain ⟨A7, c7, rfl⟩ := own_form hown7; (have HO7 := Lib.hid hown7); (have HG7 := Lib.hid hgr7); (have HL7 := Lib.hid hl7); clear hown7 hgr7 hl7)))
                 go_roundw
                 case rel =>
                   have hA := (HROW3.out.bw HG8.out).bw ((Bw.refl w8).alloc (.cells #[.int .i64 0, .slice A8 qs.length c8] 39))
                   have hlt8 : ∀ b, (Value.slice VB L1.length vd).ownBlock = some b → b < wr.heap.size := fun b e => (HLT3.out b e).2
                   refine ⟨m + 1, by omega, by go_num, Lib.hid ⟨st ++ [.slice A8 qs.length c8], ?_, ?_, ?_, ?_⟩⟩
                   · rw [HT3.out]
                     refine hA.push (x := kv) (s := .slice A8 qs.length c8) ?_ (by rw [hkv.out.1]; exact HO7.out) HG7.out HL7.out
                     rw [hkv.out.2, ← HM8.out]
                     refine HK8.out.keep (fun b hb => ?_) (fun p hp => World.cell?_alloc_lt w8 _ p ?_)
                     · rcases hb with hb | hb
                       · exact ⟨hb.1, by have := hb.2.1; simp; omega, hb.2.2⟩
                       · have := HQ8.out.own.lt b hb
                         simp at this
                         exact ⟨.inr (by have := HG3.out.size; have := HG.out.size; omega), by simp; omega, fun e => by have := hlt8 b e; omega⟩
                     · rcases hp with hp | hp
                       · have := hp.2.1; omega
                       · exact (HQ8.out.own.lt _ hp).2
                   · exact bw_gb ((HG3.out.trans HG8.out).alloc _) HG7.out (fun r e => by have := (HROW3.out.own.lt r e).1; omega)
                   · exact ((HBX.out.below HG8.out.b hbl).alloc _).grown HG7.out (fun e => HNE.out e.symm)
                   · rcases HL7.out with e | e
                     · rw [e]; exact HNE.out
                     · rw [e]; intro e2; injection e2 with e2; simp at e2; omega
                 case measure => simp [intOf]; omega
               · obtain rfl : m = sn := by omega
                 have HF : Hid (∃ st, QRow wr 39 (fun x => S x ∨ w.heap.size ≤ x) wo.heap.size (.slice VB (L0 ++ (l.take m).map (kidV hd)).length vd) (tupStep (out.take (j + 1)) l) st) := Lib.hid (by
                   have e : l.take m = l := List.take_of_length_le (by rw [SL.out]; omega)
                   have := HROW3.out
                   rw [e] at this ⊢
                   rw [HT.out]
                   exact ⟨_, this⟩)
                 clear hrow hne hbx hgo HR
                 generalize (L0 ++ (l.take m).map (kidV hd)).length = q at *
                 go_wp2
                 go_roundw
                 case rel =>
                   obtain ⟨st', hst'⟩ := HF.out
                   exact ⟨j + 1, by omega, by go_num, Lib.hid ⟨st', hst', HG3.out⟩⟩
                 case measure => simp [intOf]; omega
           · obtain rfl : j = on := by omega
             have e : out.take j = out := List.take_of_length_le (by rw [LO.out]; omega)
             have HF : Hid ((tupStep out l).length ≤ 256 ∧ (∀ x ∈ tupStep out l, x.ks.length ≤ k + 1)) := Lib.hid ⟨by rw [tupStep_length, LO.out, SL.out]; exact hp3, tupStep_len HX.out⟩
             have HROW4 : Hid (QRow wr 39 (fun x => S x ∨ w.heap.size ≤ x) wo.heap.size (.slice VA (tupStep (out.take j) l).length vc) (tupStep out l) ss) := Lib.hid (by rw [e] at hrow ⊢; exact hrow)
             clear hrow hg2 HR
             generalize (tupStep (out.take j) l).length = q at *
             go_wp2
             go_roundw
             case rel => exact ⟨k + 1, by omega, by go_num, Lib.hid ⟨tupStep out l, HROW4.out.kat (fun b hb => .inr (Nat.le_trans HG.out.size hb)), HF.out.1, HF.out.2, HGO2.out, HG.out.trans HG2.out⟩⟩
             case measure => simp [intOf]; omega
     · obtain rfl : k = n := by omega
       have HF : Hid (res = (out, false)) := Lib.hid (by
         rw [List.drop_eq_nil_of_le (by rw [LN.out]; omega)] at hgo
         rw [← HRES.out, ← hgo]; rfl)
       have HK := Lib.hid hko
       have HG := Lib.hid hg
       clear hko hxo hgo hg HR
       go_wp2
       go_ret2
       rw [HF.out]
       exact ⟨_, rfl, HK.out, HG.out⟩
end Go.Proofs.YtbmheekaclmibaaGreat
