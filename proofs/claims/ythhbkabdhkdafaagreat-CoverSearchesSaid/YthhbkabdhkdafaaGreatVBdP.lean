/- Part of a proof of coverSearches_holds. -/
import Derived.Test.YthhbkabdhkdafaaGreatVBcP
import Derived.Test.YthhbkabdhkdafaaGreatVAyP
import Derived.Laws.IdiomStrings
set_option linter.unusedSimpArgs false
set_option linter.unusedVariables false
set_option maxRecDepth 100000
set_option maxHeartbeats 16000000
namespace Go.Proofs.YthhbkabdhkdafaaGreat
section
open Go.RowKit
theorem wrapI64 (k : Nat) (h : k < 100000) : IntKind.i64.wrap (k : Int) = k := by
 simp [IntKind.wrap, IntKind.bits, IntKind.signed]; omega
section
variable {w3 : World} {s : ByteArray} {C : Array Value} {cap : Nat}
end
theorem r6Valid_of (t : T) (hof : rightP 8 t = true → OfSays t (oneP 8 t)) (v : V) (rv pv s : Value) (w : World) (hT : TB w w.heap.size rv pv t) (h : KB w w.heap.size s v.ks) (b : Bool) (hb : validP t v = b) :
   Calls Tryz.prog 42 #[.agg #[.int .i64 t.kind, .int .i64 t.size, rv, pv], .agg #[.int .i64 v.n, s]] w (BoolPost w b) := by
 subst hb
 obtain ⟨A, n, c, rfl, ln, bn, mn⟩ := h.form
 obtain ⟨A1, rn, c1, rfl, _, _⟩ := hT.1.form'
 obtain ⟨A2, pn, c2, rfl, _, _, _⟩ := hT.2.form
 have CK : Hid (∀ W, Bw w W → Calls Tryz.prog 73 #[.agg #[.int .i64 t.kind, .int .i64 t.size, .slice A1 rn c1, .slice A2 pn c2]] W (NumPost W (if rightP 8 t then 0 else 6))) := Lib.hid (fun W g => r6check_any t _ _ W (TAt.bw hT g) _ rfl)
 have SZ : Hid (∀ W, Bw w W → Calls Tryz.prog 74 #[.agg #[.int .i64 v.n, .slice A n c], .int .i64 128] W (NumPost W (cntI v 128))) := Lib.hid (fun W g => r6sz_any v _ W 128 (by omega) (by omega) (h.bw g))
 have ON : Hid (rightP 8 t = true → ∀ W, Bw w W → Calls Tryz.prog 75 #[.agg #[.int .i64 t.kind, .int .i64 t.size, .slice A1 rn c1, .slice A2 pn c2], .agg #[.int .i64 v.n, .slice A n c]] W (BoolPost W (oneP 8 t v))) := Lib.hid (fun hr W g => hof hr v _ _ _ W (TAt.bw hT g) (h.bw g))
 have TX := Lib.hid (tvb (w := w) (kd := t.kind) (z := t.size) (x := v.n) (r := .slice A1 rn c1) (p := .slice A2 pn c2) (s := .slice A n c))
 unfold validP
 clear h hT ln hof
 generalize hq : oneP 8 t v = q at *
 clear hq
 have hsz : decide (v.size ≤ 128) = decide (cntI v 128 ≤ 128) := by rw [Bool.eq_iff_iff]; unfold cntI; simp; omega
 rw [hsz]
 have hm1 : cntI v 128 ≤ 129 := by unfold cntI; omega
 generalize cntI v 128 = m at *
 clear hsz
 generalize v.n = x at *
 generalize t.kind = kd at *
 generalize t.size = z at *
 rcases hr : rightP 8 t with _ | _
 · rw [hr] at CK
   simp only [Bool.false_eq_true, if_false] at CK
   clear hr ON SZ
   go_enter Tryz.func42, Tryz.ntmps42
   go_wp2_with (go_at_call 73; go_must (refine (CK.out _ TX.out.1).mono ?_; rintro e w6 ⟨rfl, hg6⟩; (have HG6 := Lib.hid hg6); clear hg6))
   go_ret
   exact ⟨rfl, TX.out.1.trans HG6.out⟩
 · rw [hr] at CK ON
   simp only [if_true] at CK
   have ON2 := Lib.hid (ON.out rfl)
   clear hr ON
   by_cases h2 : m ≤ 128
   · have d2 : decide (m ≤ 128) = true := by simpa using h2
     have HF : Hid ((true && decide (m ≤ 128) && q) = q) := Lib.hid (by rw [d2]; rfl)
     go_enter Tryz.func42, Tryz.ntmps42
     go_wp2_with (first | (go_at_call 73; go_must (refine (CK.out _ TX.out.1).mono ?_; rintro e w6 ⟨rfl, hg6⟩; (have HG6 := Lib.hid hg6); (obtain ⟨y0, -, y1, y2, y3, y4, y5, y6⟩ := TX.out.2 _ hg6); clear hg6)) | (go_at_call 74; go_must (refine (SZ.out _ (TX.out.1.trans HG6.out)).mono ?_; rintro e w7 ⟨rfl, hg7⟩; (have HG7 := Lib.hid (HG6.out.trans hg7)); (obtain ⟨u0, -, u1, u2, u3, u4, u5, u6⟩ := TX.out.2 _ HG7.out); clear hg7)) | (go_at_call 75; go_must (refine (ON2.out _ (TX.out.1.trans HG7.out)).mono ?_; rintro e w8 ⟨rfl, hg8⟩; (have HG8 := Lib.hid hg8); clear hg8)))
     go_ret
     exact ⟨ret_bool (by first | rfl | exact HF.out.symm), TX.out.1.trans (HG7.out.trans HG8.out)⟩
   · have d2 : decide (m ≤ 128) = false := by simpa using h2
     have HF : Hid ((true && decide (m ≤ 128) && q) = false) := Lib.hid (by rw [d2]; rfl)
     go_enter Tryz.func42, Tryz.ntmps42
     go_wp2_with (first | (go_at_call 73; go_must (refine (CK.out _ TX.out.1).mono ?_; rintro e w6 ⟨rfl, hg6⟩; (have HG6 := Lib.hid hg6); (obtain ⟨y0, -, y1, y2, y3, y4, y5, y6⟩ := TX.out.2 _ hg6); clear hg6)) | (go_at_call 74; go_must (refine (SZ.out _ (TX.out.1.trans HG6.out)).mono ?_; rintro e w7 ⟨rfl, hg7⟩; (have HG7 := Lib.hid (HG6.out.trans hg7)); clear hg7)))
     go_ret
     exact ⟨ret_bool (by first | rfl | exact HF.out.symm), TX.out.1.trans HG7.out⟩
def encO : Enc (Ori × Value × Value) := ⟨5, fun p => [.int .i64 p.1.v.n, p.2.1, .int .i64 p.1.r, .int .i64 p.1.nx.n, p.2.2], fun _ => rfl, fun p => [(p.2.1, p.1.v.ks), (p.2.2, p.1.nx.ks)]⟩
theorem blk5 {W : World} {b : Nat} {t : TypeId} {u0 u1 u2 u3 u4 v0 v1 v2 v3 v4 : Value} (h : Blk W b t #[u0, u1, u2, u3, u4]) : Blk (((((W.setCell ⟨b, 0, none⟩ v0).setCell ⟨b, 1, none⟩ v1).setCell ⟨b, 2, none⟩ v2).setCell ⟨b, 3, none⟩ v3).setCell ⟨b, 4, none⟩ v4) b t #[v0, v1, v2, v3, v4] ∧ W.grownBy (((((W.setCell ⟨b, 0, none⟩ v0).setCell ⟨b, 1, none⟩ v1).setCell ⟨b, 2, none⟩ v2).setCell ⟨b, 3, none⟩ v3).setCell ⟨b, 4, none⟩ v4) (some b) :=
 ⟨blk_set (i := 4) v4 (blk_set (i := 3) v3 (blk_set (i := 2) v2 (blk_set (i := 1) v1 (blk_set (i := 0) v0 h)))),
  grownBy_setCell (p := ⟨b, 4, none⟩) (grownBy_setCell (p := ⟨b, 3, none⟩) (grownBy_setCell (p := ⟨b, 2, none⟩) (grownBy_setCell (p := ⟨b, 1, none⟩) (grownBy_setCell (p := ⟨b, 0, none⟩) (World.grownBy.refl W (some b)) (.inl rfl) v0) (.inl rfl) v1) (.inl rfl) v2) (.inl rfl) v3) (.inl rfl) v4⟩
def LAt (w : World) (S : Nat → Prop) (v : Value) (ls : List (List V)) : Prop := ∃ (A : Option Addr) (n c : Nat) (ss : List Value), v = .slice A n c ∧ ls.length = n ∧ ss.length = n ∧ n ≤ c ∧ c ≤ maxLen ∧ (0 < n → ∃ ad, A = some ad ∧ S ad.block ∧ ∀ k (h : k < ss.length), w.cell? (ad.add k) = some ss[k]) ∧ ∀ k (h : k < ls.length) (h' : k < ss.length), KAt w S ss[k] ls[k]
abbrev LB (w : World) (B : Nat) (v : Value) (ls : List (List V)) : Prop := LAt w (· < B) v ls
section
variable {w w' : World} {S S' : Nat → Prop} {v : Value} {ls : List (List V)}
theorem LAt.form (h : LAt w S v ls) : ∃ A n c, v = .slice A n c ∧ ls.length = n ∧ n ≤ c ∧ c ≤ maxLen := by
 obtain ⟨A, n, c, ss, h1, h2, h3, h4, h5, h6, h7⟩ := h
 exact ⟨A, n, c, h1, h2, h4, h5⟩
theorem LAt.at_ {A : Option Addr} {n c : Nat} (h : LAt w S (.slice A n c) ls) {k : Nat} (hk : k < ls.length) : ∃ ad A' n' c', A = some ad ∧ S ad.block ∧ w.cell? (ad.add k) = some (.slice A' n' c') ∧ ls[k].length = n' ∧ KAt w S (.slice A' n' c') ls[k] := by
 obtain ⟨A1, n1, c1, ss, e, h2, h3, h4, h5, h6, h7⟩ := h
 injection e with e1 e2 e3
 subst e1 e2 e3
 obtain ⟨ad, rfl, hs, hc⟩ := h6 (by omega)
 have h8 := hc k (by omega)
 have h9 := h7 k hk (by omega)
 obtain ⟨A', n', c', e', h10, _, _⟩ := h9.form
 rw [e'] at h8 h9
 exact ⟨ad, A', n', c', rfl, hs, h8, h10, h9⟩
end

theorem KAt.reads {w : World} {B : Nat} {S : Nat → Prop} {A : Option Addr} {n c : Nat} {l : List V} (h : KAt w S (.slice A n c) l) (hS : ∀ b, S b → b < B) : ∃ ps : List VS, ps.map (·.1) = l ∧ Reads w B 2 A n (pCells ps) ∧ (∀ p ∈ ps, KAt w S p.2 p.1.ks) ∧ ∀ u ∈ pCells ps, u.oneCell' = true := by
 obtain ⟨ps, hps, hcell, hkid⟩ := h.pairs
 have hln : l.length = n := by obtain ⟨_, _, _, e, h1, _, _⟩ := h.form; injection e with e1 e2 e3; subst e2; exact h1
 have hpl : ps.length = n := by rw [← hln, ← hps]; simp
 refine ⟨ps, hps, ⟨by rw [pCells_length, hpl], fun hn => ?_⟩, hkid, fun u hu => ?_⟩
 · obtain ⟨ad, _, _, _, rfl, hb, _⟩ := h.at_ (k := 0) (by omega)
   exact ⟨ad, rfl, hS _ hb, fun j u hu => (hcell ad rfl j u hu).1⟩
 · obtain ⟨p, hp, hu⟩ := List.mem_flatMap.1 hu
   obtain ⟨A', n', c', e, _⟩ := (hkid p hp).form
   simp only [List.mem_cons, List.not_mem_nil, or_false] at hu
   rcases hu with rfl | rfl
   · rfl
   · rw [e]; rfl
theorem growV_any (n : Nat) (hn : n ≤ 1000000) (w : World) : Calls Tryz.prog 407 #[.slice none 0 0, .int .i64 n] w (fun e w' => ∃ s, e = .returned s ∧ w'.ownsRow w.heap.size 31 2 s 0 [] ∧ Bw w w') := by
 by_cases h0 : n = 0
 · subst h0
   go_enter Tryz.func407, Tryz.ntmps407
   go_wp2
   go_ret
   exact ⟨_, rfl, World.ownsRow_nil _ _ _ _, Bw.refl _⟩
 · obtain ⟨i0, hi, hz0, hz1, hz2⟩ := info_parts infoVal
   have hrz : ∀ ty, (Builtin.append_ #[29, 3] ty #[.slice none 0 0, .int .i64 (n : Int)]).run Tryz.prog w = _ := fun ty =>
     Lib.run_append_grow_zeros w 29 3 ty 31 i0 _ .i64 .i64 Tryz.underlying29 Tryz.underlying3 hi hz0 none 0 0 [] (run_firstCells_none w.drew i0.size 0 0 0) n (by omega) (by omega) (by omega) (by omega) (by rw [hz2]; omega) (growslice_fits (by omega) (by rw [hz2]; omega))
   have hGn : 0 + n ≤ grownCap w (0 + n) 0 31 := grownCap_ge w _ _ _
   have hG63 : grownCap w (0 + n) 0 31 ≤ maxLen := grownCap_le_maxLen w (0 + n) 0 31 (by unfold maxLen; omega)
   generalize grownCap w (0 + n) 0 31 = G at *
   have hsz : ((#[] : Array Value) ++ Builtin.zeroCells (Value.agg #[.int .i64 0, .slice none 0 0]).cells n ++ Builtin.zeroCells (Value.agg #[.int .i64 0, .slice none 0 0]).cells (G - n)).size = G * 2 := by
     simp [size_zeroCells, Value.cells]; omega
   simp only [Nat.zero_add] at hrz
   have HSZ := Lib.hid hsz
   clear hsz
   have hG := hG63
   unfold maxLen at hG63
   have hn0 : 0 < n := by omega
   go_enter Tryz.func407, Tryz.ntmps407
   go_wp2_with (at_builtin; refine Lib.wpList_append_run _ rfl _ _ _ _ rfl _ _ rfl rfl _ _ (hrz _) ?_)
   go_ret
   refine ⟨_, rfl, ⟨by simp, .inr ⟨w.heap.size, G, _, rfl, Nat.le_refl _, heap_alloc_new w.drew _, Nat.zero_le _, hG, by have := HSZ.out; simpa [Value.cells] using this, by simp⟩⟩, (Bw.refl _).drew.alloc _⟩
def CatPost (w : World) (S : Nat → Prop) (l : List V) (e : Ending) (w' : World) : Prop := ∃ s qs, e = .returned s ∧ MRow w' w.heap.size s qs ∧ (∀ p ∈ qs, KAt w' S p.2 p.1.ks) ∧ qs.map (·.1) = l ∧ Bw w w'
theorem flatL_take {ls : List (List V)} {k : Nat} (h : k < ls.length) : (ls.take (k + 1)).flatten = (ls.take k).flatten ++ ls[k] := by
 rw [List.take_succ_eq_append_getElem h, List.flatten_append]; simp
theorem flatL_le (ls : List (List V)) (k : Nat) : (ls.take k).flatten.length ≤ ls.flatten.length := by
 have := congrArg List.flatten (List.take_append_drop k ls)
 rw [List.flatten_append] at this
 rw [← this]; simp
theorem concatV_any (ls : List (List V)) (hn : ls.flatten.length ≤ 1000000) (S : Nat → Prop) (s : Value) (w : World) (hS : ∀ b, S b → b < w.heap.size) (h : LAt w S s ls) : Calls Tryz.prog 385 #[s] w (CatPost w S ls.flatten) := by
 obtain ⟨A, n, c, rfl, ln, bn, mn⟩ := h.form
 unfold maxLen at mn
 have H := Lib.hid h
 have HS := Lib.hid hS
 have LN := Lib.hid ln
 have HN := Lib.hid hn
 unfold CatPost
 clear h ln hn hS
 obtain ⟨i0, hi, hz0, hz1, hz2⟩ := info_parts infoVal
 go_enter Tryz.func385, Tryz.ntmps385
 go_wp2_with fail
 go_loopw [3, 5, 11] (fun s3 _ i wr => ∃ k m : Nat, k ≤ n ∧ i = .int .i64 k ∧ s3 = .int .i64 m ∧ m ≤ 1000000 ∧ Hid (m = (ls.take k).flatten.length ∧ w = wr)) (fun _ _ i _ => n - (intOf i).toNat)
 case atStart => exact ⟨0, 0, by omega, rfl, rfl, by omega, Lib.hid ⟨by simp, rfl⟩⟩
 case round =>
   obtain ⟨k, m, hk, rfl, rfl, hm, HR⟩ := hrel
   obtain ⟨hm2, rfl⟩ := HR.out
   have HM := Lib.hid hm2
   clear hm2 HR
   by_cases hlt : k < n
   · have e1 : k < ls.length := by rw [LN.out]; exact hlt
     obtain ⟨ad, sA, sn, sc, rfl, hb, q0, sl, hs⟩ := H.out.at_ e1
     have hms : m + sn ≤ 1000000 := by
       have h1 := flatL_le ls (k + 1)
       rw [flatL_take e1, List.length_append, ← HM.out, sl] at h1
       have := HN.out; omega
     have HM2 : Hid (m + sn = (ls.take (k + 1)).flatten.length) := Lib.hid (by rw [flatL_take e1, List.length_append, ← HM.out, sl])
     have h00 : ¬ ((m : Int) + (sn : Int) < 0) := by omega
     clear hs sl hb
     go_wp2
     go_roundw
     case rel => exact ⟨k + 1, m + sn, by omega, by go_num, by go_num, hms, Lib.hid ⟨HM2.out, trivial⟩⟩
     case measure => simp [intOf]; omega
   · obtain rfl : n = k := by omega
     have hmt : Hid (m = ls.flatten.length) := Lib.hid (by rw [HM.out, List.take_of_length_le (by rw [LN.out]; omega)])
     have CG := Lib.hid (growV_any m hm w)
     go_wp2_with (go_at_call 407; go_must (refine CG.out.mono ?_; rintro e w6 ⟨s6, rfl, hr6, hg6⟩; obtain ⟨A6, c6, rfl⟩ := own_form hr6; (have HR6 := Lib.hid hr6); (have HG6 := Lib.hid hg6); clear hr6 hg6))
     have HB6 : Hid (w.heap.size ≤ w6.heap.size) := Lib.hid HG6.out.size
     go_loopw [6, 8, 27] (fun s6 _ i wr => ∃ k : Nat, k ≤ n ∧ i = .int .i64 k ∧ Hid (∃ qs, MRow wr w.heap.size s6 qs ∧ (∀ p ∈ qs, KAt wr S p.2 p.1.ks) ∧ qs.map (·.1) = (ls.take k).flatten ∧ Bw w wr)) (fun _ _ i _ => n - (intOf i).toNat)
     case atStart => exact ⟨0, by omega, rfl, Lib.hid ⟨[], ⟨HR6.out, fun p h => absurd h (by simp)⟩, fun p h => absurd h (by simp), by simp, HG6.out⟩⟩
     case round =>
       obtain ⟨k, hk, rfl, HR⟩ := hrel
       obtain ⟨qs, hq, hks, hm, hg⟩ := HR.out
       have HKS := Lib.hid hks
       obtain ⟨VA, vc, rfl, vb1, vb2⟩ := hq.form
       have HQ := Lib.hid hq
       have HMQ := Lib.hid hm
       have HG := Lib.hid hg
       by_cases hlt : k < n
       · have e1 : k < ls.length := by rw [LN.out]; exact hlt
         obtain ⟨ad, sA, sn, sc, rfl, hb, q0, sl, hs⟩ := H.out.at_ e1
         have q1 := (hg.b.cell (p := ad.add k) (by rw [add_block]; exact HS.out _ hb)).trans q0
         obtain ⟨ps, hps, hrd, hkid, hone⟩ := (hs.keep (w' := wr) (S' := S) (fun b hb => hb) (fun p hp => hg.b.cell (HS.out _ hp))).reads HS.out
         have hql : qs.length + sn ≤ 1000000 := by
           have h1 := flatL_le ls (k + 1)
           rw [flatL_take e1, List.length_append, sl, ← hm, List.length_map] at h1
           have := HN.out; omega
         have HPS : Hid ((qs ++ ps).map (·.1) = (ls.take (k + 1)).flatten) := Lib.hid (by rw [flatL_take e1, List.map_append, hm, hps])
         have HPL : Hid (ps.length = sn) := Lib.hid (by rw [← sl, ← hps]; simp)
         have HRD := Lib.hid (Reads.more hrd hg.size)
         have HKD := Lib.hid hkid
         have HON := Lib.hid hone
         have hsz := hg.size
         clear hs sl hb q0 hps hrd hkid hone hq hm hg HR hks
         go_wp2_with (at_builtin; go_must (refine wpList_append_any _ rfl _ _ 29 rfl w.heap.size 31 i0 _ 2 32 Tryz.underlying29 hi hz0 hz1 hz2 rfl (by decide) (.slice VA qs.length vc) qs.length (pCells qs) rfl HQ.out.own wr.heap.size sA sn sc (pCells ps) rfl HRD.out HON.out (by unfold maxLen; omega) (by omega) (by omega) ?_; intro v7 w7 hown7 hgr7 hl7; obtain ⟨A7, c7, rfl⟩ := own_form hown7; (have HO7 := Lib.hid hown7); (have HG7 := Lib.hid hgr7); clear hown7 hgr7 hl7))
         go_roundw
         case rel =>
           refine ⟨k + 1, by omega, by go_num, Lib.hid ⟨qs ++ ps, ?_, fun p hp => ?_, HPS.out, ?_⟩⟩
           · refine HQ.out.turn HG7.out HG.out.size ?_ (fun p hp => ?_)
             · rw [pCells_append, List.length_append, HPL.out]; exact HO7.out
             · rcases List.mem_append.1 hp with hp | hp
               · exact .inl hp
               · exact .inr ((HKD.out p hp).keep HS.out (fun _ _ => rfl))
           · have key : ∀ {s : Value} {ks : List V}, KAt wr S s ks → KAt w7 S s ks := fun h => h.keep (fun b hb => hb) (fun q hq => World.cell?_of_block (HG7.out.block q.block (Nat.lt_of_lt_of_le (HS.out _ hq) HG.out.size) (fun e => by have := (HQ.out.own.lt _ e.symm).1; have := HS.out _ hq; omega)))
             rcases List.mem_append.1 hp with hp | hp
             · exact key (HKS.out p hp)
             · exact key (HKD.out p hp)
           · exact bw_gb HG.out HG7.out (fun r e => (HQ.out.own.lt r e).1)
         case measure => simp [intOf]; omega
       · obtain rfl : k = n := by omega
         have HF : Hid (qs.map (·.1) = ls.flatten) := Lib.hid (by rw [hm, List.take_of_length_le (by rw [LN.out]; omega)])
         clear hq hm hg HR hks
         go_wp2
         go_ret
         exact ⟨_, qs, rfl, HQ.out, HKS.out, HF.out, HG.out⟩
theorem with_any (st : Int) (l : List V) (hl : sizeL l ≤ 1000) (s : Value) (w : World) (h : KB w w.heap.size s l) : Calls Tryz.prog 358 #[.int .i64 st, s] w (ValPost w (.mk 0 (.mk st [] :: l))) := by
 obtain ⟨A, n, c, rfl, ln, bn, mn⟩ := h.form
 have CC : Hid (∀ W, Bw w W → Calls Tryz.prog 178 #[.slice A n c] W (ValsPost W l)) := Lib.hid (fun W g => ocopies_any l (by omega) _ W (h.bw g))
 have HL : l.length ≤ 1000 := by have := sizeL_length l; omega
 unfold ValPost
 unfold ValsPost at CC
 simp only [V.n_mk, V.ks_mk]
 have HRB : Hid (∀ W, Bw (w.alloc (.cells #[.int .i64 0, .slice none 0 0] 31)) W → Blk W w.heap.size 31 #[.int .i64 0, .slice none 0 0]) := Lib.hid (fun W g => (Blk.new w 31 #[.int .i64 0, .slice none 0 0]).below g.b (by simp))
 have W1B : Hid (Bw w ((w.alloc (.cells #[.int .i64 0, .slice none 0 0] 31)).alloc (.cells #[.int .i64 st, .slice none 0 0] 31))) := Lib.hid (((Bw.refl _).alloc _).alloc _)
 have CK : Hid (∀ (w6 : World) (A6 : Option Addr) (n6 c6 : Nat), Bw ((w.alloc (.cells #[.int .i64 0, .slice none 0 0] 31)).alloc (.cells #[.int .i64 st, .slice none 0 0] 31)) w6 → KAt w6 (fun b => w.heap.size + 1 ≤ b ∧ b < w6.heap.size) (.slice A6 n6 c6) l → Calls Tryz.prog 385 #[.slice (some ⟨w6.heap.size, 0, none⟩) 2 2] (w6.alloc (.cells #[.slice (some ⟨w.heap.size + 1, 0, none⟩) 1 1, .slice A6 n6 c6] 29)) (CatPost (w6.alloc (.cells #[.slice (some ⟨w.heap.size + 1, 0, none⟩) 1 1, .slice A6 n6 c6] 29)) (fun b => w.heap.size + 1 ≤ b ∧ b < w6.heap.size + 1) (.mk st [] :: l))) := Lib.hid (fun w6 A6 n6 c6 g6 hk6 => by
   have e : [[V.mk st []], l].flatten = .mk st [] :: l := by simp
   rw [← e]
   have hb := Blk.new w6 29 #[.slice (some ⟨w.heap.size + 1, 0, none⟩) 1 1, .slice A6 n6 c6]
   have h1 : KAt w6 (fun b => w.heap.size + 1 ≤ b ∧ b < w6.heap.size) (.slice (some ⟨w.heap.size + 1, 0, none⟩) 1 1) [.mk st []] := by
     have hb1 := Blk.new (w.alloc (.cells #[.int .i64 0, .slice none 0 0] 31)) 31 #[.int .i64 st, .slice none 0 0]
     rw [World.size_alloc] at hb1
     have hb2 := hb1.below g6.b hb1.lt
     refine .mk _ 1 1 [.mk st []] [.slice none 0 0] rfl rfl (Nat.le_refl _) (by unfold maxLen; omega) (fun _ => ⟨_, rfl, ⟨Nat.le_refl _, hb2.lt⟩, fun k hk hk' => ?_⟩) (fun k hk hk' => ?_)
     · obtain rfl : k = 0 := by simpa using hk
       exact ⟨hb2.cell 0, hb2.cell 1⟩
     · obtain rfl : k = 0 := by simpa using hk
       exact KAt.nil _ _ (Nat.zero_le _)
   have key : ∀ {v : Value} {l : List V}, KAt w6 (fun b => w.heap.size + 1 ≤ b ∧ b < w6.heap.size) v l → KAt (w6.alloc (.cells #[.slice (some ⟨w.heap.size + 1, 0, none⟩) 1 1, .slice A6 n6 c6] 29)) (fun b => w.heap.size + 1 ≤ b ∧ b < w6.heap.size + 1) v l := fun hh => hh.keep (fun b hb => ⟨hb.1, by omega⟩) (fun p hp => World.cell?_alloc_lt w6 _ p hp.2)
   have hsz : w.heap.size + 1 ≤ w6.heap.size := by have := g6.size; simp at this; omega
   refine concatV_any [[.mk st []], l] (by rw [e]; simp; omega) _ _ _ (fun b hb => by simp; omega) ⟨some ⟨w6.heap.size, 0, none⟩, 2, 2, [.slice (some ⟨w.heap.size + 1, 0, none⟩) 1 1, .slice A6 n6 c6], rfl, rfl, rfl, by omega, by unfold maxLen; omega, fun _ => ⟨_, rfl, ⟨hsz, by simp⟩, fun k hk => ?_⟩, fun k hk hk' => ?_⟩
   · have hk3 : k < 2 := by simpa using hk
     rw [add_zero_blk, hb.cell k]
     have : k = 0 ∨ k = 1 := by omega
     rcases this with rfl | rfl <;> rfl
   · have hk3 : k < 2 := by simpa using hk
     have : k = 0 ∨ k = 1 := by omega
     rcases this with rfl | rfl
     · exact key h1
     · exact key hk6)
 unfold CatPost at CK
 clear h ln
 go_enter Tryz.func358, Tryz.ntmps358
 go_wp2_with (first
   | (go_at_call 178; go_must (refine (CC.out _ W1B.out).mono ?_; rintro e w6 ⟨s6, rfl, hk6, hg6⟩; obtain ⟨A6, n6, c6, rfl, _, _, _⟩ := hk6.form; (have HK6 : Hid (KAt w6 (fun b => w.heap.size + 1 ≤ b ∧ b < w6.heap.size) (.slice A6 n6 c6) l) := Lib.hid (hk6.keep (fun b hb => ⟨by have := hb.1; simp at this; omega, hb.2⟩) (fun _ _ => rfl))); (have HG6 := Lib.hid hg6); clear hk6 hg6))
   | (go_at_call 385; go_must (refine (CK.out _ _ _ _ HG6.out HK6.out).mono ?_; rintro e w7 ⟨s7, qs, rfl, hm7, hkq, he7, hg7⟩; obtain ⟨A7, c7, rfl, _, _⟩ := hm7.form; (have hb := HRB.out _ (((Bw.refl _).alloc _).trans (HG6.out.trans (((Bw.refl _).alloc _).trans hg7)))); (have f0 := hb.cell 0); (have f1 := hb.cell 1); (have g0 := hb.frozen 0); (have g1 := hb.frozen 1); (have hl := hb.lt); (have HB7 := Lib.hid hb); (have HM7 := Lib.hid hm7); (have HQ7 := Lib.hid hkq); (have HE7 := Lib.hid he7); (have HG7 := Lib.hid hg7); clear hm7 hkq he7 hg7 hb)))
 obtain ⟨hbb, hgr⟩ := blk2 (v0 := .int .i64 0) (v1 := .slice A7 qs.length c7) HB7.out
 refine bodyPost_ret (results_cell_row (p := 4) (ty := 31) rfl _ _ w.heap.size 31 _ (0, 0) _ rfl hbb Tryz.underlying31 rfl (by kernel_rfl)) rfl ?_
 have hsz := hgr.size
 have hbw : Bw w w7 := W1B.out.trans (HG6.out.trans (((Bw.refl _).alloc _).trans HG7.out))
 have hs6 : w.heap.size + 2 ≤ w6.heap.size := by have := HG6.out.size; simpa using this
 have hs7 := HG7.out.size
 simp only [World.size_alloc] at hs7
 refine ⟨_, rfl, ?_, Below.grown hbw hgr hbw.size (fun r e => by injection e with e; omega)⟩
 have h1 := own_KAt (ss := qs.map (·.2)) (n := qs.length) (S := fun b => w.heap.size + 1 ≤ b ∧ b < w6.heap.size + 1) (by rw [vCells_pairs]; exact HM7.out.own) (by simp) (by simp) (fun j a b => by
   have hj : j < qs.length := by simpa using a
   have := HQ7.out _ (List.getElem_mem hj)
   simpa using this)
 rw [HE7.out] at h1
 have h2 : KAt w7 (fun b => w.heap.size + 1 ≤ b ∧ b < w7.heap.size) (.slice A7 qs.length c7) (.mk st [] :: l) := h1.keep (fun b hb => by
   rcases hb with hb | hb
   · exact ⟨hb.1, by omega⟩
   · have := HM7.out.own.lt b hb
     simp only [World.size_alloc] at this
     exact ⟨by omega, this.2⟩) (fun _ _ => rfl)
 exact h2.keep (fun b hb => ⟨by omega, Nat.lt_of_lt_of_le hb.2 hsz⟩) (fun p hp => World.cell?_of_block (hgr.block p.block hp.2 (fun e => by injection e with e; omega)))
end
end Go.Proofs.YthhbkabdhkdafaaGreat
