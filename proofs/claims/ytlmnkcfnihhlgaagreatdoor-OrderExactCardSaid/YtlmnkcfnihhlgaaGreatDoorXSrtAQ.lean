/- Part of a proof of orderExact_card. -/
import Derived.Test.YtlmnkcfnihhlgaaGreatDoorXAppAQ
import Derived.Test.YtlmnkcfnihhlgaaGreatDoorSortLayQ
import Derived.Lib.RowBridge
set_option maxRecDepth 100000
set_option maxHeartbeats 16000000
namespace Go.Proofs.YtlmnkcfnihhlgaaGreatDoor
open Go.RowKit Go.Sort
set_option linter.unusedSimpArgs false
set_option linter.unusedVariables false
def KV (w : World) (L : Nat) : Type := { x : VS // KAt w (· < L) x.2 x.1.ks }
instance (w : World) (L : Nat) : Inhabited (KV w L) := ⟨⟨(.mk 0 [], .slice none 0 0), KAt.nil _ _ (Nat.zero_le _)⟩⟩
theorem setCells_own {L g n c : Nat} {e : TypeId} : ∀ (vs : List Value) (o : Nat) (W : World) (xs : List Value), W.ownsRow L e 2 (.slice (some ⟨g, 0, none⟩) n c) n xs → o + vs.length = n * 2 → (W.setCells g o vs).ownsRow L e 2 (.slice (some ⟨g, 0, none⟩) n c) n (xs.take o ++ vs)
 | [], o, W, xs, h, hl => by
   have h1 := h.1
   rw [List.append_nil, List.take_of_length_le (by simp at hl; omega)]; exact h
 | v :: r, o, W, xs, h, hl => by
   have h2 := setCells_own r (o + 1) _ _ (h.stored o v).1 (by simp at hl; omega)
   have h1 := h.1
   have e : (xs.set o v).take (o + 1) ++ r = xs.take o ++ v :: r := by
     rw [List.take_succ_eq_append_getElem (by simp at hl ⊢; omega), List.take_set_of_le (Nat.le_refl _)]
     simp
   rw [e] at h2
   exact h2
theorem setCells_gb {g : Nat} {w : World} : ∀ (vs : List Value) (o : Nat) (W : World), w.grownBy W (some g) → w.grownBy (W.setCells g o vs) (some g)
 | [], _, _, h => h
 | v :: r, o, W, h => setCells_gb r (o + 1) _ (grownBy_setCell (p := ⟨g, o, none⟩) h (.inl rfl) v)
theorem gb_grow (w : World) (os : Array Obj) (row : Option Nat) : w.grownBy (grow w os) row :=
 ⟨rfl, rfl, rfl, by simp, fun k hk _ => heap_grow_old w os hk⟩
theorem insNone_any (A : Option Addr) (c : Nat) (fv : Value) (w : World) : Calls Tryz.prog 149 #[.slice A 0 c, .int .i64 0, .int .i64 0, fv] w fun e w' => e = .returned (.tuple #[]) ∧ w = w' := by
 go_enter Tryz.func149, Tryz.ntmps149
 go_wp2
 refine wp_loop_rounds 1 ?_
 rw [rounds_succ]
 go_wp2
 go_end0
 exact ⟨rfl, rfl⟩
theorem pdqNone_any (A : Option Addr) (c : Nat) (lim : Int) (fv : Value) (w : World) : Calls Tryz.prog 124 #[.slice A 0 c, .int .i64 0, .int .i64 0, .int .i64 lim, fv] w fun e w' => e = .returned (.tuple #[]) ∧ w = w' := by
 go_enter Tryz.func124, Tryz.ntmps124
 go_wp2
 refine wp_loop_rounds 1 ?_
 rw [rounds_succ]
 go_wp2_with (go_at_call 149; refine (insNone_any A c fv _).mono ?_; rintro e w' ⟨rfl, rfl⟩)
 (try simp only [Exit.inBlock, Exit.then]); refine bodyPost_ret (results_none rfl _ _ _) rfl ?_
 exact ⟨rfl, rfl⟩
theorem sortNone_any (A : Option Addr) (c : Nat) (fv : Value) (w : World) : Calls Tryz.prog 92 #[.slice A 0 c, fv] w fun e w' => e = .returned (.tuple #[]) ∧ w = w' := by
 have hl : Calls Tryz.prog 125 #[.int .u64 0] w fun e w' => e = .returned (.int .i64 ((Lib.bitLen 0 : Nat) : Int)) ∧ w = w' := (Tryz.bits_Len 0 w (by omega) (by omega)).mono fun e w' h => ⟨h.1, h.2.symm⟩
 generalize ((Lib.bitLen 0 : Nat) : Int) = r at hl
 go_enter Tryz.func92, Tryz.ntmps92
 go_wp2_with (first | (go_at_call 125; go_must (refine hl.mono ?_; rintro e w' ⟨rfl, rfl⟩)) | (go_at_call 124; go_must (refine (pdqNone_any A c r fv _).mono ?_; rintro e w' ⟨rfl, rfl⟩)))
 go_end0
 exact ⟨rfl, rfl⟩
def KS (w : World) (S : Nat → Prop) : Type := { x : VS // KAt w S x.2 x.1.ks }
instance (w : World) (S : Nat → Prop) : Inhabited (KS w S) := ⟨⟨(.mk 0 [], .slice none 0 0), KAt.nil _ _ (Nat.zero_le _)⟩⟩
def encKS {w : World} {S : Nat → Prop} (x : KS w S) : List Value := [.int .i64 x.1.1.n, x.1.2]
def cmpKS {w : World} {S : Nat → Prop} (x y : KS w S) : Int := cmpV x.1.1 y.1.1
theorem swoKS (w : World) (S : Nat → Prop) : SWO (ltOf (cmpKS (w := w) (S := S))) where
 irrefl x := by simp [ltOf, cmpKS, cmp_self]
 trans x y z h1 h2 := by
   have h1 : cmpV x.1.1 y.1.1 < 0 := of_decide_eq_true h1
   have h2 : cmpV y.1.1 z.1.1 < 0 := of_decide_eq_true h2
   refine decide_eq_true (p := cmpV x.1.1 z.1.1 < 0) ?_
   have r1 := cmp_range x.1.1 y.1.1
   have r2 := cmp_range y.1.1 z.1.1
   have := cmp_trans x.1.1 y.1.1 z.1.1 (by omega) (by omega)
   omega
 ntrans x y z h1 h2 := by
   have h1 : ¬ cmpV x.1.1 y.1.1 < 0 := of_decide_eq_false h1
   have h2 : ¬ cmpV y.1.1 z.1.1 < 0 := of_decide_eq_false h2
   refine decide_eq_false (p := cmpV x.1.1 z.1.1 < 0) ?_
   have a1 := cmp_anti x.1.1 y.1.1
   have a2 := cmp_anti y.1.1 z.1.1
   have a3 := cmp_anti x.1.1 z.1.1
   have := cmp_le_trans (a := z.1.1) (b := y.1.1) (c := x.1.1) (by omega) (by omega)
   omega
def pairsS {w : World} {S : Nat → Prop} (d : List (KS w S)) : List VS := d.map (·.1)
theorem flatS_cells {w : World} {S : Nat → Prop} (d : List (KS w S)) : (flatK encKS 2 d.toArray).toList = pCells (pairsS d) := by
 apply List.ext_getElem
 · rw [pCells_length]; simp [pairsS]
 · intro i h1 h2
   have h3 : i < d.length * 2 := by rw [pCells_length] at h2; simpa [pairsS] using h2
   have h4 := pCells_get (ps := pairsS d) (k := i / 2) (by simp [pairsS]; omega)
   have e : (flatK encKS 2 d.toArray).toList[i] = (encKS (d[i / 2]'(by omega)))[i % 2]! := by
     have := get_flatK encKS 2 d.toArray i (by simpa using h3)
     rw [getElem!_pos _ i (by simpa using h3)] at this
     rw [Array.getElem_toList, this]
     simp [show i / 2 < d.length by omega]
   rw [e]
   have hm := Nat.div_add_mod i 2
   rcases Nat.mod_two_eq_zero_or_one i with h0 | h0
   · have e1 : i / 2 * 2 = i := by omega
     rw [e1, List.getElem?_eq_getElem h2] at h4
     rw [Option.some.inj h4.1, h0]
     simp [encKS, pairsS]
   · have e1 : i / 2 * 2 + 1 = i := by omega
     rw [e1, List.getElem?_eq_getElem h2] at h4
     rw [Option.some.inj h4.2, h0]
     simp [encKS, pairsS]
def attachS {w : World} {S : Nat → Prop} : (ps : List VS) → (∀ p ∈ ps, KAt w S p.2 p.1.ks) → List (KS w S)
 | [], _ => []
 | p :: r, h => ⟨p, h p (by simp)⟩ :: attachS r fun q hq => h q (by simp [hq])
theorem pairsS_attach {w : World} {S : Nat → Prop} : ∀ (ps : List VS) (h : ∀ p ∈ ps, KAt w S p.2 p.1.ks), pairsS (attachS ps h) = ps
 | [], _ => rfl
 | p :: r, h => congrArg (p :: ·) (pairsS_attach r _)
structure SRow (w : World) (B : Nat) (S : Nat → Prop) (v : Value) (ps : List VS) : Prop where
 own : w.ownsRow B 28 2 v ps.length (pCells ps)
 kid : ∀ p ∈ ps, KAt w S p.2 p.1.ks
theorem holdsS_row {w : World} {S : Nat → Prop} {B g n c : Nat} {ps : List VS} (h : SRow w B S (.slice (some ⟨g, 0, none⟩) n c) ps) (hn : ps.length = n) : HoldsK encKS 2 w g 0 (attachS ps h.kid).toArray := by
 subst hn
 intro j hj
 have hl : (attachS ps h.kid).length = ps.length := by
   have := congrArg List.length (pairsS_attach ps h.kid)
   simpa [pairsS] using this
 have hj2 : j < ps.length * 2 := by simpa [hl] using hj
 refine ⟨?_, h.own.frozenAt _⟩
 rw [Nat.zero_add, h.own.cellAt j hj2]
 have e := flatS_cells (attachS ps h.kid)
 rw [pairsS_attach] at e
 rw [← e, Array.getElem?_toList, Array.getElem?_eq_getElem hj, getElem!_pos _ j hj]
 rfl
theorem sortWorldS_eq {w : World} {S : Nat → Prop} {g q : Nat} (d0 d : List (KS w S)) (os : Array Obj) (hH : HoldsK encKS 2 w g 0 d0.toArray) (hl : d.length = d0.length) :
   sortWorldK encKS 2 w g 0 q d.toArray os = grow ((w.drewN q).setCells g 0 (pCells (pairsS d))) os := by
 unfold sortWorldK putRowK
 have := Go.Lib.putRow_eq_setCells id w g 0 (flatK encKS 2 d0.toArray) (flatK encKS 2 d.toArray).toList q hH (by simp [hl])
 rw [Array.toArray_toList, List.map_id, flatS_cells] at this
 rw [this]
def SortSPost (w : World) (B : Nat) (S : Nat → Prop) (s : Value) (ps : List VS) (e : Ending) (w' : World) : Prop := e = .returned (.tuple #[]) ∧ ∃ qs, w'.ownsRow B 28 2 s qs.length (pCells qs) ∧ (∀ p ∈ qs, KAt w' S p.2 p.1.ks) ∧ qs.map (·.1) = sortV (ps.map (·.1)) ∧ w.grownBy w' s.ownBlock
theorem sortValS_any (B : Nat) (S : Nat → Prop) (ps : List VS) (s : Value) (w : World) (h : SRow w B S s ps) (hS : ∀ b, S b → b < w.heap.size ∧ s.ownBlock ≠ some b) (h9 : ps.length ≤ 1000000) :
   Calls Tryz.prog 92 #[s, .func (.func 24) #[] #[]] w (SortSPost w B S s ps) := by
 obtain ⟨A, c, rfl, bn, mn⟩ := own_bounds h.own
 by_cases h0 : ps.length = 0
 · obtain rfl := List.eq_nil_of_length_eq_zero h0
   refine (sortNone_any A c _ w).mono ?_
   rintro e w' ⟨rfl, rfl⟩
   exact ⟨rfl, [], h.own, fun p hp => absurd hp (by simp), rfl, World.grownBy.refl _ _⟩
 · obtain ⟨g, rfl, -, hLg, hgl, -⟩ := own_at h.own (by omega : 0 < ps.length)
   have hl : (attachS ps h.kid).length = ps.length := by
     have := congrArg List.length (pairsS_attach ps h.kid)
     simpa [pairsS] using this
   have hH := holdsS_row h rfl
   have hcon := AnyQ.slices_SortFunc Tryz.sortVal 2 Tryz.isAgg28 Tryz.sizeOf28 encKS (fun _ => rfl) (fun x v hv => by
       obtain ⟨A, n, c, e, _⟩ := x.2.form
       simp [encKS] at hv
       rcases hv with rfl | rfl
       · rfl
       · rw [e]; rfl) cmpKS (swoKS w S) 24 #[] g 0 c (attachS ps h.kid).toArray w (enters_of Tryz.func24 (by kernel_rfl) rfl)
     (fun m os dk hdk x y => by
       have key : ∀ z : KS w S, KB (sortWorldK encKS 2 w g 0 m dk os) (sortWorldK encKS 2 w g 0 m dk os).heap.size z.1.2 z.1.1.ks := fun z => z.2.keep (fun b hb => by
           have := size_sortWorldK_c encKS 2 w g 0 m dk os; have := (hS b hb).1; omega) (fun p hp => by
           have h1 := (hS _ hp).1
           have h2 : p.block ≠ g := fun e => (hS _ hp).2 (by rw [e]; rfl)
           unfold sortWorldK
           rw [cell?_grow _ _ _ (by unfold putRowK; rw [Sort.size_putRow]; exact h1), cell?_putRowK_other _ _ _ _ _ _ _ h2]
           rfl)
       refine (cmp_any x.1.1 y.1.1 x.1.2 y.1.2 _ (key x) (key y)).mono ?_
       rintro e w' ⟨rfl, hg⟩
       obtain ⟨q, os', e⟩ := hg.form
       exact ⟨rfl, q, os', e⟩) hH hgl (by simp [hl]; omega)
   have hcon' := hcon
   rw [show (attachS ps h.kid).toArray.size = ps.length by simp [hl]] at hcon'
   change Calls Tryz.prog 92 _ _ _ at hcon'
   refine hcon'.mono ?_
   rintro e w' ⟨rfl, d', q, os, hp, hs, rfl⟩
   obtain ⟨d2, rfl⟩ : ∃ d2 : List (KS w S), d' = d2.toArray := ⟨d'.toList, by simp⟩
   have hl2 : d2.length = (attachS ps h.kid).length := by simpa using hp.1
   have hperm : d2.Perm (attachS ps h.kid) := by
     have := hp.2.2
     simp only [List.extract_toArray, List.extract_eq_take_drop, List.drop_zero, Nat.sub_zero] at this
     rwa [List.take_of_length_le (by omega), List.take_of_length_le (by omega)] at this
   have hperm2 : (pairsS d2).Perm ps := by
     have := hperm.map (fun x : KS w S => x.1)
     rw [← pairsS_attach ps h.kid]; exact this
   rw [sortWorldS_eq (attachS ps h.kid) d2 os hH hl2]
   have ho : ((w.drewN q).setCells g 0 (pCells (pairsS d2))).ownsRow B 28 2 (.slice (some ⟨g, 0, none⟩) ps.length c) ps.length (pCells (pairsS d2)) := by
     have := setCells_own (pCells (pairsS d2)) 0 (w.drewN q) _ (show (w.drewN q).ownsRow B 28 2 (.slice (some ⟨g, 0, none⟩) ps.length c) ps.length (pCells ps) from h.own) (by rw [pCells_length, hperm2.length_eq]; omega)
     simpa using this
   have hgb : w.grownBy ((w.drewN q).setCells g 0 (pCells (pairsS d2))) (some g) := setCells_gb _ _ _ ⟨rfl, rfl, rfl, Nat.le_refl _, fun _ _ _ => rfl⟩
   have hgb2 : w.grownBy (grow ((w.drewN q).setCells g 0 (pCells (pairsS d2))) os) (some g) := grownBy_trans hgb (gb_grow _ _ _)
   refine ⟨rfl, pairsS d2, ?_, fun p hp => (h.kid p (hperm2.subset hp)).keep (fun _ hb => hb) (fun q hq => World.cell?_of_block (hgb2.block q.block (hS _ hq).1 (fun e => (hS _ hq).2 (by rw [e]; rfl)))), ?_, hgb2⟩
   · rw [hperm2.length_eq]
     exact ho.kept (gb_grow _ os none) (.inr (by simp [Value.ownBlock]))
   · refine sortV_eq (hperm2.map _) (pair_sorted ?_)
     rw [List.pairwise_iff_getElem]
     intro i j hi hj hij
     have h1 : i < d2.length := by simpa [pairsS] using hi
     have h2 : j < d2.length := by simpa [pairsS] using hj
     have h3 := hs i j (Nat.zero_le _) hij (by omega)
     have e1 : d2.toArray[i]! = d2[i] := by simp [h1]
     have e2 : d2.toArray[j]! = d2[j] := by simp [h2]
     rw [e1, e2] at h3
     have h3 : ¬ cmpV d2[j].1.1 d2[i].1.1 < 0 := of_decide_eq_false h3
     have := cmp_anti d2[i].1.1 d2[j].1.1
     simp only [pairsS, List.getElem_map]
     omega
theorem zip_cells : ∀ (l : List V) (ss : List Value), ss.length = l.length → pCells (l.zip ss) = vCells l ss ∧ (l.zip ss).map (·.1) = l ∧ (l.zip ss).map (·.2) = ss
 | [], [], _ => ⟨rfl, rfl, rfl⟩
 | [], _ :: _, h => by simp at h
 | _ :: _, [], h => by simp at h
 | v :: l, s :: ss, h => by
   obtain ⟨h1, h2, h3⟩ := zip_cells l ss (by simpa using h)
   refine ⟨?_, by simp [h2], by simp [h3]⟩
   rw [List.zip_cons_cons, pCells_cons, h1]; simp [vCells]
theorem sortRow_any {L B : Nat} {l : List V} {ss : List Value} {s : Value} {w : World} (h : VRow w 28 L B s l ss) (h9 : l.length ≤ 1000000) :
   Calls Tryz.prog 92 #[s, .func (.func 24) #[] #[]] w fun e w' => e = .returned (.tuple #[]) ∧ (∃ ss', VRow w' 28 L B s (sortV l) ss') ∧ w.grownBy w' s.ownBlock := by
 obtain ⟨z1, z2, z3⟩ := zip_cells l ss h.len
 have hlen : (l.zip ss).length = l.length := by have := congrArg List.length z2; simpa using this
 have hs : SRow w B (fun b => L ≤ b ∧ b < w.heap.size ∧ s.ownBlock ≠ some b) s (l.zip ss) := ⟨by rw [z1, hlen]; exact h.own, fun p hp => by
   obtain ⟨k, hk, rfl⟩ := List.getElem_of_mem hp
   rw [List.getElem_zip]
   exact h.kid k _ _⟩
 refine (sortValS_any B _ _ s w hs (fun b hb => hb.2) (by omega)).mono ?_
 rintro e w' ⟨rfl, qs, q1, q2, q3, q4⟩
 rw [z2] at q3
 refine ⟨rfl, ⟨qs.map (·.2), ?_, by rw [← q3]; simp, fun k h1 h2 => ?_⟩, q4⟩
 · rw [← q3, vCells_pairs, List.length_map]; exact q1
 · have h3 : k < qs.length := by simpa using h2
   have := q2 qs[k] (List.getElem_mem h3)
   have e1 : (qs.map (·.2))[k] = qs[k].2 := by simp
   have e2 : (sortV l)[k] = qs[k].1 := by simp only [← q3, List.getElem_map]
   rw [e1, e2]
   exact this.keep (fun b hb => ⟨hb.1, Nat.lt_of_lt_of_le hb.2.1 q4.size, hb.2.2⟩) (fun _ _ => rfl)
end Go.Proofs.YtlmnkcfnihhlgaaGreatDoor
