/- Part of a proof of coverSearches_holds. -/
import Derived.Test.YthhbkabdhkdafaaGreatVAnP
import Derived.Test.YthhbkabdhkdafaaGreatVAqP
import Derived.Test.YthhbkabdhkdafaaGreatSortLayP
import Derived.Lib.RowBridge
set_option linter.unusedSimpArgs false
set_option linter.unusedVariables false
set_option maxRecDepth 100000
set_option maxHeartbeats 16000000
namespace Go.Proofs.YthhbkabdhkdafaaGreat
section
open Go.RowKit
abbrev RR := Rul × Value × Value
def encR : Enc RR := ⟨14, fun x => rlCells x.1 x.2.1 x.2.2, fun _ => rfl, fun _ => []⟩
theorem own_iat2 {w : World} {B e : Nat} {v : Value} {cs : List Int} (h : w.ownsRow B e 1 v cs.length (intVs cs)) : IAt w (fun b => B ≤ b ∧ b < w.heap.size) v cs := by
 obtain ⟨A, c, rfl, _, _⟩ := own_bounds h
 exact own_iat h
structure RulO (w : World) (B : Nat) (v : Value) (ps : List RR) : Prop where
 own : w.ownsRow B 75 14 v ps.length (ps.flatMap encR.enc)
 int : ∀ q ∈ ps, w.ownsRow B 3 1 q.2.1 q.1.need.length (intVs q.1.need) ∧ w.ownsRow B 3 1 q.2.2 q.1.give.length (intVs q.1.give)
section
variable {w w' A W : World} {B : Nat} {v v' : Value} {ps : List RR}
theorem RulO.nil (w : World) (B : Nat) : RulO w B (.slice none 0 0) [] := ⟨World.ownsRow_nil _ _ _ _, fun q hq => by cases hq⟩
theorem RulO.bw (h : RulO w B v ps) (g : Bw w w') : RulO w' B v ps := ⟨own_kept_below h.own g, fun q hq => ⟨own_kept_below (h.int q hq).1 g, own_kept_below (h.int q hq).2 g⟩⟩
theorem RulO.push (h : RulO A B v ps) (q : RR) (hown : W.ownsRow B 75 14 v' (ps.length + 1) (ps.flatMap encR.enc ++ encR.enc q)) (hg : A.grownBy W v.ownBlock)
   (h1 : A.ownsRow B 3 1 q.2.1 q.1.need.length (intVs q.1.need)) (h2 : A.ownsRow B 3 1 q.2.2 q.1.give.length (intVs q.1.give)) : RulO W B v' (ps ++ [q]) := by
 refine ⟨by rw [List.length_append, List.flatMap_append]; simpa using hown, fun x hx => ?_⟩
 rcases List.mem_append.1 hx with hx | hx
 · exact ⟨own_kept_grow (h.int x hx).1 h.own (by decide) hg, own_kept_grow (h.int x hx).2 h.own (by decide) hg⟩
 · obtain rfl := List.mem_singleton.1 hx
   exact ⟨own_kept_grow h1 h.own (by decide) hg, own_kept_grow h2 h.own (by decide) hg⟩
theorem RulO.at_ (h : RulO w B v ps) : RlsAt w (fun b => B ≤ b ∧ b < w.heap.size) v (ps.map (·.1)) := by
 have he : ERow encR w 75 B (fun _ => False) v ps := ⟨h.own, fun x _ q hq => by cases hq⟩
 obtain ⟨Ad, n, c, rfl, h2, h3, h4, h5, _⟩ := he.eat (S := fun b => B ≤ b ∧ b < w.heap.size) (fun b hb => hb.elim) (fun b hb => h.own.lt b hb)
 refine ⟨Ad, n, c, ps.map (·.2.1), ps.map (·.2.2), rfl, by simp [h2], h3, h4, by simp [h2], by simp [h2], fun hn => ?_, fun k a b c' => ?_⟩
 · obtain ⟨ad, e, hs, hc⟩ := h5 hn
   refine ⟨ad, e, hs, fun k a b c' j u hu => ?_⟩
   have ha : k < ps.length := by simpa using a
   simp only [List.getElem_map] at hu
   have hj : j < 14 := by
     have := (List.getElem?_eq_some_iff.1 hu).1
     simpa [rlCells] using this
   exact hc _ _ ((flat_get encR (xs := ps) (k := k) (j := j) ha hj).trans hu)
 · have ha : k < ps.length := by simpa using a
   have hq := h.int ps[k] (List.getElem_mem ha)
   simp only [List.getElem_map]
   exact ⟨own_iat2 hq.1, own_iat2 hq.2⟩
end
theorem infoRule : (Tryz.prog.info? 75).map (fun i => (i.zero, i.size, i.bytes)) = some (some (.agg #[.string ⟨#[]⟩, .int .i64 0, .int .i64 0, .slice none 0 0, .slice none 0 0, .slice none 0 0, .int .i64 0, .int .i64 0, .int .i64 0, .slice none 0 0, .slice none 0 0, .slice none 0 0, .slice none 0 0, .int .i64 0]), 14, 232) := by kernel_rfl
theorem blk10 {W : World} {b : Nat} {t : TypeId} {u0 u1 u2 u3 u4 u5 u6 u7 u8 u9 v0 v1 v2 v3 v4 v5 v6 v7 v8 v9 : Value} (h : Blk W b t #[u0, u1, u2, u3, u4, u5, u6, u7, u8, u9]) : Blk ((((((((((W.setCell ⟨b, 0, none⟩ v0).setCell ⟨b, 1, none⟩ v1).setCell ⟨b, 2, none⟩ v2).setCell ⟨b, 3, none⟩ v3).setCell ⟨b, 4, none⟩ v4).setCell ⟨b, 5, none⟩ v5).setCell ⟨b, 6, none⟩ v6).setCell ⟨b, 7, none⟩ v7).setCell ⟨b, 8, none⟩ v8).setCell ⟨b, 9, none⟩ v9) b t #[v0, v1, v2, v3, v4, v5, v6, v7, v8, v9] ∧ W.grownBy ((((((((((W.setCell ⟨b, 0, none⟩ v0).setCell ⟨b, 1, none⟩ v1).setCell ⟨b, 2, none⟩ v2).setCell ⟨b, 3, none⟩ v3).setCell ⟨b, 4, none⟩ v4).setCell ⟨b, 5, none⟩ v5).setCell ⟨b, 6, none⟩ v6).setCell ⟨b, 7, none⟩ v7).setCell ⟨b, 8, none⟩ v8).setCell ⟨b, 9, none⟩ v9) (some b) := by
 have h1 := h.set_ 0 v0
 have h2 := h1.set_ 1 v1
 have h3 := h2.set_ 2 v2
 have h4 := h3.set_ 3 v3
 have h5 := h4.set_ 4 v4
 have h6 := h5.set_ 5 v5
 have h7 := h6.set_ 6 v6
 have h8 := h7.set_ 7 v7
 have h9 := h8.set_ 8 v8
 have h10 := h9.set_ 9 v9
 exact ⟨by simpa using h10, (grownBy_setCell (p := ⟨b, 9, none⟩) (grownBy_setCell (p := ⟨b, 8, none⟩) (grownBy_setCell (p := ⟨b, 7, none⟩) (grownBy_setCell (p := ⟨b, 6, none⟩) (grownBy_setCell (p := ⟨b, 5, none⟩) (grownBy_setCell (p := ⟨b, 4, none⟩) (grownBy_setCell (p := ⟨b, 3, none⟩) (grownBy_setCell (p := ⟨b, 2, none⟩) (grownBy_setCell (p := ⟨b, 1, none⟩) (grownBy_setCell (p := ⟨b, 0, none⟩) (World.grownBy.refl W (some b)) (.inl rfl) v0) (.inl rfl) v1) (.inl rfl) v2) (.inl rfl) v3) (.inl rfl) v4) (.inl rfl) v5) (.inl rfl) v6) (.inl rfl) v7) (.inl rfl) v8) (.inl rfl) v9)⟩
theorem bw_gbM {a b c : World} {row : Option Nat} (h : Bw a b) (hg : b.grownBy c row) (hr : ∀ r, row = some r → a.heap.size ≤ r) : Bw a c := Below.grown h hg h.size hr
theorem RulO.put {w w' : World} {B k : Nat} {v : Value} {ps : List RR} (h : RulO w B v ps) (g : w.grownBy w' (some k)) (hk : k < B) : RulO w' B v ps := by
 have key : ∀ {e size n : Nat} {v : Value} {xs : List Value}, w.ownsRow B e size v n xs → w'.ownsRow B e size v n xs := fun {e size n v xs} ho => ho.kept g (by
   rcases hb : v.ownBlock with _ | j
   · exact .inl rfl
   · refine .inr (fun e => ?_)
     injection e with e
     have := (ho.lt j hb).1
     omega)
 exact ⟨key h.own, fun q hq => ⟨key (h.int q hq).1, key (h.int q hq).2⟩⟩
theorem own_put {w w' : World} {B k e size n : Nat} {v : Value} {xs : List Value} (ho : w.ownsRow B e size v n xs) (g : w.grownBy w' (some k)) (hk : k < B) : w'.ownsRow B e size v n xs := ho.kept g (by
   rcases hb : v.ownBlock with _ | j
   · exact .inl rfl
   · refine .inr (fun e => ?_)
     injection e with e
     have := (ho.lt j hb).1
     omega)
theorem reads_new14 (W : World) (cs : List Value) (h : cs.length = 14) : Reads (W.alloc (.cells cs.toArray 75)) (W.heap.size + 1) 14 (some ⟨W.heap.size, 0, none⟩) 1 cs := by
 have := reads_blk (n := 1) (size := 14) (B := W.heap.size + 1) (Blk.new W 75 cs.toArray) (Nat.lt_succ_self _) (by simpa using h)
 simpa using this
end
section
open Go.RowKit Go.Sort
def KV (w : World) (L : Nat) : Type := { x : VS // KAt w (· < L) x.2 x.1.ks }
instance (w : World) (L : Nat) : Inhabited (KV w L) := ⟨⟨(.mk 0 [], .slice none 0 0), KAt.nil _ _ (Nat.zero_le _)⟩⟩
def encKV {w : World} {L : Nat} (x : KV w L) : List Value := [.int .i64 x.1.1.n, x.1.2]
def cmpKV {w : World} {L : Nat} (x y : KV w L) : Int := cmpV x.1.1 y.1.1
theorem swoKV (w : World) (L : Nat) : SWO (ltOf (cmpKV (w := w) (L := L))) where
 irrefl x := by simp [ltOf, cmpKV, cmp_self]
 trans x y z h1 h2 := by
   have h1 : cmpV x.1.1 y.1.1 < 0 := of_decide_eq_true h1
   have h2 : cmpV y.1.1 z.1.1 < 0 := of_decide_eq_true h2
   refine decide_eq_true (p := cmpV x.1.1 z.1.1 < 0) ?_
   have r1 := cmp_range x.1.1 y.1.1
   have r2 := cmp_range y.1.1 z.1.1
   have := cmp_trans x.1.1 y.1.1 z.1.1 (by omega) (by omega)
   omega
 ntrans x y z h1 h2 := by
   have h1 : ¬ cmpV x.1.1 y.1.1 < 0 := of_decide_eq_false h1
   have h2 : ¬ cmpV y.1.1 z.1.1 < 0 := of_decide_eq_false h2
   refine decide_eq_false (p := cmpV x.1.1 z.1.1 < 0) ?_
   have a1 := cmp_anti x.1.1 y.1.1
   have a2 := cmp_anti y.1.1 z.1.1
   have a3 := cmp_anti x.1.1 z.1.1
   have := cmp_le_trans (a := z.1.1) (b := y.1.1) (c := x.1.1) (by omega) (by omega)
   omega
def pairsK {w : World} {L : Nat} (d : List (KV w L)) : List VS := d.map (·.1)
theorem flatK_cells {w : World} {L : Nat} (d : List (KV w L)) : (flatK encKV 2 d.toArray).toList = pCells (pairsK d) := by
 apply List.ext_getElem
 · rw [pCells_length]; simp [pairsK]
 · intro i h1 h2
   have h3 : i < d.length * 2 := by rw [pCells_length] at h2; simpa [pairsK] using h2
   have h4 := pCells_get (ps := pairsK d) (k := i / 2) (by simp [pairsK]; omega)
   have e : (flatK encKV 2 d.toArray).toList[i] = (encKV (d[i / 2]'(by omega)))[i % 2]! := by
     have := get_flatK encKV 2 d.toArray i (by simpa using h3)
     rw [getElem!_pos _ i (by simpa using h3)] at this
     rw [Array.getElem_toList, this]
     simp [show i / 2 < d.length by omega]
   rw [e]
   have hm := Nat.div_add_mod i 2
   rcases Nat.mod_two_eq_zero_or_one i with h0 | h0
   · have e1 : i / 2 * 2 = i := by omega
     rw [e1, List.getElem?_eq_getElem h2] at h4
     rw [Option.some.inj h4.1, h0]
     simp [encKV, pairsK]
   · have e1 : i / 2 * 2 + 1 = i := by omega
     rw [e1, List.getElem?_eq_getElem h2] at h4
     rw [Option.some.inj h4.2, h0]
     simp [encKV, pairsK]
def attachK {w : World} {L : Nat} : (ps : List VS) → (∀ p ∈ ps, KAt w (· < L) p.2 p.1.ks) → List (KV w L)
 | [], _ => []
 | p :: r, h => ⟨p, h p (by simp)⟩ :: attachK r fun q hq => h q (by simp [hq])
theorem pairsK_attach {w : World} {L : Nat} : ∀ (ps : List VS) (h : ∀ p ∈ ps, KAt w (· < L) p.2 p.1.ks), pairsK (attachK ps h) = ps
 | [], _ => rfl
 | p :: r, h => congrArg (p :: ·) (pairsK_attach r _)
theorem holdsK_row {w : World} {L g n c : Nat} {ps : List VS} (h : MRow w L (.slice (some ⟨g, 0, none⟩) n c) ps) (hn : ps.length = n) : HoldsK encKV 2 w g 0 (attachK ps h.kid).toArray := by
 subst hn
 intro j hj
 have hl : (attachK ps h.kid).length = ps.length := by
   have := congrArg List.length (pairsK_attach ps h.kid)
   simpa [pairsK] using this
 have hj2 : j < ps.length * 2 := by simpa [hl] using hj
 refine ⟨?_, h.own.frozenAt _⟩
 rw [Nat.zero_add, h.own.cellAt j hj2]
 have e := flatK_cells (attachK ps h.kid)
 rw [pairsK_attach] at e
 rw [← e, Array.getElem?_toList, Array.getElem?_eq_getElem hj, getElem!_pos _ j hj]
 rfl
theorem setCells_own {L g n c : Nat} {e : TypeId} : ∀ (vs : List Value) (o : Nat) (W : World) (xs : List Value), W.ownsRow L e 2 (.slice (some ⟨g, 0, none⟩) n c) n xs → o + vs.length = n * 2 → (W.setCells g o vs).ownsRow L e 2 (.slice (some ⟨g, 0, none⟩) n c) n (xs.take o ++ vs)
 | [], o, W, xs, h, hl => by
   have h1 := h.1
   rw [List.append_nil, List.take_of_length_le (by simp at hl; omega)]; exact h
 | v :: r, o, W, xs, h, hl => by
   have h2 := setCells_own r (o + 1) _ _ (h.stored o v).1 (by simp at hl; omega)
   have h1 := h.1
   have e : (xs.set o v).take (o + 1) ++ r = xs.take o ++ v :: r := by
     rw [List.take_succ_eq_append_getElem (by simp at hl ⊢; omega), List.take_set_of_le (Nat.le_refl _)]
     simp
   rw [e] at h2
   exact h2
theorem setCells_gb {g : Nat} {w : World} : ∀ (vs : List Value) (o : Nat) (W : World), w.grownBy W (some g) → w.grownBy (W.setCells g o vs) (some g)
 | [], _, _, h => h
 | v :: r, o, W, h => setCells_gb r (o + 1) _ (grownBy_setCell (p := ⟨g, o, none⟩) h (.inl rfl) v)
theorem gb_grow (w : World) (os : Array Obj) (row : Option Nat) : w.grownBy (grow w os) row :=
 ⟨rfl, rfl, rfl, by simp, fun k hk _ => heap_grow_old w os hk⟩
theorem sortWorld_eq {w : World} {L g q : Nat} (d0 d : List (KV w L)) (os : Array Obj) (hH : HoldsK encKV 2 w g 0 d0.toArray) (hl : d.length = d0.length) :
   sortWorldK encKV 2 w g 0 q d.toArray os = grow ((w.drewN q).setCells g 0 (pCells (pairsK d))) os := by
 unfold sortWorldK putRowK
 have := Go.Lib.putRow_eq_setCells id w g 0 (flatK encKV 2 d0.toArray) (flatK encKV 2 d.toArray).toList q hH (by simp [hl])
 rw [Array.toArray_toList, List.map_id, flatK_cells] at this
 rw [this]
def SortPostP (w : World) (L : Nat) (s : Value) (ps : List VS) (e : Ending) (w' : World) : Prop := e = .returned (.tuple #[]) ∧ ∃ qs, MRow w' L s qs ∧ qs.map (·.1) = sortV (ps.map (·.1)) ∧ w.grownBy w' s.ownBlock ∧ ∀ q ∈ qs, q ∈ ps
theorem insNone_any (A : Option Addr) (c : Nat) (fv : Value) (w : World) : Calls Tryz.prog 301 #[.slice A 0 c, .int .i64 0, .int .i64 0, fv] w fun e w' => e = .returned (.tuple #[]) ∧ w = w' := by
 go_enter Tryz.func301, Tryz.ntmps301
 go_wp2
 refine wp_loop_rounds 1 ?_
 rw [rounds_succ]
 go_wp2
 go_end0
 exact ⟨rfl, rfl⟩
theorem pdqNone_any (A : Option Addr) (c : Nat) (lim : Int) (fv : Value) (w : World) : Calls Tryz.prog 246 #[.slice A 0 c, .int .i64 0, .int .i64 0, .int .i64 lim, fv] w fun e w' => e = .returned (.tuple #[]) ∧ w = w' := by
 go_enter Tryz.func246, Tryz.ntmps246
 go_wp2
 refine wp_loop_rounds 1 ?_
 rw [rounds_succ]
 go_wp2_with (go_at_call 301; refine (insNone_any A c fv _).mono ?_; rintro e w' ⟨rfl, rfl⟩)
 (try simp only [Exit.inBlock, Exit.then]); refine bodyPost_ret (results_none rfl _ _ _) rfl ?_
 exact ⟨rfl, rfl⟩
theorem sortNone_any (A : Option Addr) (c : Nat) (fv : Value) (w : World) : Calls Tryz.prog 183 #[.slice A 0 c, fv] w fun e w' => e = .returned (.tuple #[]) ∧ w = w' := by
 have hl : Calls Tryz.prog 218 #[.int .u64 0] w fun e w' => e = .returned (.int .i64 ((Lib.bitLen 0 : Nat) : Int)) ∧ w = w' := (Tryz.bits_Len 0 w (by omega) (by omega)).mono fun e w' h => ⟨h.1, h.2.symm⟩
 generalize ((Lib.bitLen 0 : Nat) : Int) = r at hl
 go_enter Tryz.func183, Tryz.ntmps183
 go_wp2_with (first | (go_at_call 218; go_must (refine hl.mono ?_; rintro e w' ⟨rfl, rfl⟩)) | (go_at_call 246; go_must (refine (pdqNone_any A c r fv _).mono ?_; rintro e w' ⟨rfl, rfl⟩)))
 go_end0
 exact ⟨rfl, rfl⟩
theorem sortValP_any (L : Nat) (ps : List VS) (s : Value) (w : World) (h : MRow w L s ps) (hL : L ≤ w.heap.size) (h9 : ps.length ≤ 1000000) :
   Calls Tryz.prog 183 #[s, .func (.func 172) #[] #[]] w (SortPostP w L s ps) := by
 obtain ⟨A, c, rfl, bn, mn⟩ := h.form
 by_cases h0 : ps.length = 0
 · obtain rfl := List.eq_nil_of_length_eq_zero h0
   refine (sortNone_any A c _ w).mono ?_
   rintro e w' ⟨rfl, rfl⟩
   exact ⟨rfl, [], h, rfl, World.grownBy.refl _ _, fun q hq => hq⟩
 · obtain ⟨g, rfl, hLg, hgl, _⟩ := h.at_ rfl (k := 0) (by omega)
   have hl : (attachK ps h.kid).length = ps.length := by
     have := congrArg List.length (pairsK_attach ps h.kid)
     simpa [pairsK] using this
   have hH := holdsK_row h rfl
   have hcon := AnyQ.slices_SortFunc Tryz.sortVal 2 Tryz.isAgg31 Tryz.sizeOf31 encKV (fun _ => rfl) (fun x v hv => by
       obtain ⟨A, n, c, e, _⟩ := x.2.form
       simp [encKV] at hv
       rcases hv with rfl | rfl
       · rfl
       · rw [e]; rfl) cmpKV (swoKV w L) 172 #[] g 0 c (attachK ps h.kid).toArray w (enters_of Tryz.func172 (by kernel_rfl) rfl)
     (fun m os dk hdk x y => by
       have key : ∀ z : KV w L, KB (sortWorldK encKV 2 w g 0 m dk os) (sortWorldK encKV 2 w g 0 m dk os).heap.size z.1.2 z.1.1.ks := fun z => z.2.keep (fun b hb => by
           have := size_sortWorldK_c encKV 2 w g 0 m dk os; omega) (fun p hp => by
           unfold sortWorldK
           rw [cell?_grow _ _ _ (by unfold putRowK; rw [Sort.size_putRow]; exact Nat.lt_of_lt_of_le hp hL), cell?_putRowK_other _ _ _ _ _ _ _ (by omega)]
           rfl)
       refine (cmp_any x.1.1 y.1.1 x.1.2 y.1.2 _ (key x) (key y)).mono ?_
       rintro e w' ⟨rfl, hg⟩
       obtain ⟨q, os', e⟩ := hg.form
       exact ⟨rfl, q, os', e⟩) hH hgl (by simp [hl]; omega)
   have hcon' := hcon
   rw [show (attachK ps h.kid).toArray.size = ps.length by simp [hl]] at hcon'
   change Calls Tryz.prog 183 _ _ _ at hcon'
   refine hcon'.mono ?_
   rintro e w' ⟨rfl, d', q, os, hp, hs, rfl⟩
   obtain ⟨d2, rfl⟩ : ∃ d2 : List (KV w L), d' = d2.toArray := ⟨d'.toList, by simp⟩
   have hl2 : d2.length = (attachK ps h.kid).length := by simpa using hp.1
   have hperm : d2.Perm (attachK ps h.kid) := by
     have := hp.2.2
     simp only [List.extract_toArray, List.extract_eq_take_drop, List.drop_zero, Nat.sub_zero] at this
     rwa [List.take_of_length_le (by omega), List.take_of_length_le (by omega)] at this
   have hperm2 : (pairsK d2).Perm ps := by
     have := hperm.map (fun x : KV w L => x.1)
     rw [← pairsK_attach ps h.kid]; exact this
   rw [sortWorld_eq (attachK ps h.kid) d2 os hH hl2]
   have ho : ((w.drewN q).setCells g 0 (pCells (pairsK d2))).ownsRow L 31 2 (.slice (some ⟨g, 0, none⟩) ps.length c) ps.length (pCells (pairsK d2)) := by
     have := setCells_own (pCells (pairsK d2)) 0 (w.drewN q) _ (show (w.drewN q).ownsRow L 31 2 (.slice (some ⟨g, 0, none⟩) ps.length c) ps.length (pCells ps) from h.own) (by rw [pCells_length, hperm2.length_eq]; omega)
     simpa using this
   have hgb : w.grownBy ((w.drewN q).setCells g 0 (pCells (pairsK d2))) (some g) := setCells_gb _ _ _ ⟨rfl, rfl, rfl, Nat.le_refl _, fun _ _ _ => rfl⟩
   have hgb2 : w.grownBy (grow ((w.drewN q).setCells g 0 (pCells (pairsK d2))) os) (some g) := grownBy_trans hgb (gb_grow _ _ _)
   refine ⟨rfl, pairsK d2, h.turn hgb2 hL ?_ (fun p hp => .inl (hperm2.subset hp)), ?_, hgb2, fun q hq => hperm2.subset hq⟩
   · rw [hperm2.length_eq]
     exact ho.kept (gb_grow _ os none) (.inr (by simp [Value.ownBlock]))
   · refine sortV_eq (hperm2.map _) (pair_sorted ?_)
     rw [List.pairwise_iff_getElem]
     intro i j hi hj hij
     have h1 : i < d2.length := by simpa [pairsK] using hi
     have h2 : j < d2.length := by simpa [pairsK] using hj
     have h3 := hs i j (Nat.zero_le _) hij (by omega)
     have e1 : d2.toArray[i]! = d2[i] := by simp [h1]
     have e2 : d2.toArray[j]! = d2[j] := by simp [h2]
     rw [e1, e2] at h3
     have h3 : ¬ cmpV d2[j].1.1 d2[i].1.1 < 0 := of_decide_eq_false h3
     have := cmp_anti d2[i].1.1 d2[j].1.1
     simp only [pairsK, List.getElem_map]
     omega
end
section
open Go.RowKit
theorem bvalid1_any (t : T) [Nonempty (FlatT t)] (v : V) (g : Nat) (rv pv s : Value) (W : World) (hg : Blk W g 50 #[.int .i64 t.kind, .int .i64 t.size, rv, pv]) (hT : TB W W.heap.size rv pv t) (h : KB W W.heap.size s v.ks) :
   Calls Tryz.prog 177 (#[.agg #[.int .i64 v.n, s]] ++ #[.pointer (some ⟨g, 0, none⟩)]) W (BoolPost W (!validP t v)) := by
 obtain ⟨A, n, c, rfl, _, _, _⟩ := h.form
 obtain ⟨A1, rn, c1, rfl, _, _⟩ := hT.1.form'
 obtain ⟨A2, pn, c2, rfl, _, _, _⟩ := hT.2.form
 have OV : Hid (∀ W', Bw W W' → Calls Tryz.prog 54 #[.agg #[.int .i64 t.kind, .int .i64 t.size, .slice A1 rn c1, .slice A2 pn c2], .agg #[.int .i64 v.n, .slice A n c]] W' (BoolPost W' (validP t v))) := Lib.hid (fun W' g => ovalid_any t v _ _ _ W' (TAt.bw hT g) (h.bw g) _ rfl)
 have q0 := hg.cell 0
 have q1 := hg.cell 1
 have q2 := hg.cell 2
 have q3 := hg.cell 3
 have q4 := hg.lt
 clear hg hT h
 generalize validP t v = q at *
 generalize v.n = x at *
 generalize t.kind = k at *
 generalize t.size = z at *
 go_enter Tryz.func177, Tryz.ntmps177
 go_wp2_with (go_at_call 54; go_must (refine (OV.out _ ((Bw.refl _).alloc _)).mono ?_; rintro e w6 ⟨rfl, hg6⟩; have HG6 := Lib.hid hg6; clear hg6))
 go_ret
 exact ⟨rfl, ((Bw.refl _).alloc _).trans HG6.out⟩
theorem bvalid_any (t : T) [Nonempty (FlatT t)] (l : List V) (rv pv s : Value) (w : World) (hT : TB w w.heap.size rv pv t) (h : KB w w.heap.size s l) :
   Calls Tryz.prog 114 #[.agg #[.int .i64 t.kind, .int .i64 t.size, rv, pv], s] w (BoolPost w (l.all (validP t))) := by
 obtain ⟨A, n, c, rfl, _, _, _⟩ := h.form
 obtain ⟨A1, rn, c1, rfl, _, _⟩ := hT.1.form'
 obtain ⟨A2, pn, c2, rfl, _, _, _⟩ := hT.2.form
 have CF : Hid (Calls Tryz.prog 174 #[.slice A n c, .func (.func 177) #[] #[.pointer (some ⟨w.heap.size, 0, none⟩)]] (w.alloc (.cells #[.int .i64 t.kind, .int .i64 t.size, .slice A1 rn c1, .slice A2 pn c2] 50)) (BoolPost (w.alloc (.cells #[.int .i64 t.kind, .int .i64 t.size, .slice A1 rn c1, .slice A2 pn c2] 50)) (l.any fun v => !validP t v))) := Lib.hid (by
   have hb := Blk.new w 50 #[.int .i64 t.kind, .int .i64 t.size, .slice A1 rn c1, .slice A2 pn c2]
   exact contVal_any l _ 177 _ (enters_of Tryz.func177 (by kernel_rfl) rfl) _ _ (h.bw ((Bw.refl _).alloc _)) (fun v _ s' W hg hk => bvalid1_any t v _ _ _ s' W (hb.below hg.b hb.lt) (TAt.bw hT (((Bw.refl _).alloc _).trans hg)) hk))
 have HA : Hid ((!(l.any fun v => !validP t v)) = l.all (validP t)) := Lib.hid (by rw [List.all_eq_not_any_not])
 rw [← HA.out]
 clear hT h HA
 generalize (l.any fun v => !validP t v) = q at *
 generalize t.kind = k at *
 generalize t.size = z at *
 go_enter Tryz.func114, Tryz.ntmps114
 go_wp2_with (go_at_call 174; go_must (refine CF.out.mono ?_; rintro e w6 ⟨rfl, hg6⟩; have HG6 := Lib.hid hg6; clear hg6))
 go_ret
 exact ⟨rfl, ((Bw.refl _).alloc _).trans HG6.out⟩
theorem bhas1_any (t : T) [Nonempty (FlatT t)] (ht : rightP 8 t = true) (x v : V) (hx : oneP 8 t x = true) (hv : oneP 8 t v = true) (g1 g2 : Nat) (rv pv s s2 : Value) (W : World) (hg : Blk W g1 50 #[.int .i64 t.kind, .int .i64 t.size, rv, pv]) (hg2 : Blk W g2 31 #[.int .i64 v.n, s2]) (hT : TB W W.heap.size rv pv t) (h : KB W W.heap.size s x.ks) (h2 : KB W W.heap.size s2 v.ks) :
   Calls Tryz.prog 184 (#[.agg #[.int .i64 x.n, s]] ++ #[.pointer (some ⟨g1, 0, none⟩), .pointer (some ⟨g2, 0, none⟩)]) W (BoolPost W (belowP 8 t x v)) := by
 obtain ⟨A, n, c, rfl, _, _, _⟩ := h.form
 obtain ⟨B, m, e, rfl, _, _, _⟩ := h2.form
 obtain ⟨A1, rn, c1, rfl, _, _⟩ := hT.1.form'
 obtain ⟨A2, pn, c2, rfl, _, _, _⟩ := hT.2.form
 have OV : Hid (∀ W', Bw W W' → Calls Tryz.prog 180 #[.agg #[.int .i64 t.kind, .int .i64 t.size, .slice A1 rn c1, .slice A2 pn c2], .agg #[.int .i64 x.n, .slice A n c], .agg #[.int .i64 v.n, .slice B m e]] W' (BoolPost W' (belowP 8 t x v))) := Lib.hid (fun W' g => oBelow_any 6 t ht x v hx hv _ _ _ _ W' (TAt.bw hT g) (h.bw g) (h2.bw g))
 have q0 := hg.cell 0
 have q1 := hg.cell 1
 have q2 := hg.cell 2
 have q3 := hg.cell 3
 have q4 := hg.lt
 have p0 := hg2.cell 0
 have p1 := hg2.cell 1
 have p2 := hg2.lt
 clear hg hg2 hT h h2 ht hx hv
 generalize belowP 8 t x v = q at *
 generalize v.n = y at *
 generalize x.n = xn at *
 generalize t.kind = k at *
 generalize t.size = z at *
 go_enter Tryz.func184, Tryz.ntmps184
 go_wp2_with (go_at_call 180; go_must (refine (OV.out _ ((Bw.refl _).alloc _)).mono ?_; rintro e w6 ⟨rfl, hg6⟩; have HG6 := Lib.hid hg6; clear hg6))
 go_ret
 exact ⟨rfl, ((Bw.refl _).alloc _).trans HG6.out⟩
theorem bhas_any (t : T) [Nonempty (FlatT t)] (ht : rightP 8 t = true) (l : List V) (v : V) (hl : ∀ x ∈ l, oneP 8 t x = true) (hv : oneP 8 t v = true) (rv pv s s2 : Value) (w : World) (hT : TB w w.heap.size rv pv t) (h : KB w w.heap.size s l) (h2 : KB w w.heap.size s2 v.ks) :
   Calls Tryz.prog 119 #[.agg #[.int .i64 t.kind, .int .i64 t.size, rv, pv], s, .agg #[.int .i64 v.n, s2]] w (BoolPost w (l.any fun x => belowP 8 t x v)) := by
 obtain ⟨A, n, c, rfl, _, _, _⟩ := h.form
 obtain ⟨B, m, e, rfl, _, _, _⟩ := h2.form
 obtain ⟨A1, rn, c1, rfl, _, _⟩ := hT.1.form'
 obtain ⟨A2, pn, c2, rfl, _, _, _⟩ := hT.2.form
 have CF : Hid (Calls Tryz.prog 174 #[.slice A n c, .func (.func 184) #[] #[.pointer (some ⟨w.heap.size, 0, none⟩), .pointer (some ⟨w.heap.size + 1, 0, none⟩)]] ((w.alloc (.cells #[.int .i64 t.kind, .int .i64 t.size, .slice A1 rn c1, .slice A2 pn c2] 50)).alloc (.cells #[.int .i64 v.n, .slice B m e] 31)) (BoolPost ((w.alloc (.cells #[.int .i64 t.kind, .int .i64 t.size, .slice A1 rn c1, .slice A2 pn c2] 50)).alloc (.cells #[.int .i64 v.n, .slice B m e] 31)) (l.any fun x => belowP 8 t x v))) := Lib.hid (by
   obtain ⟨b0, b1, b2⟩ := boxes w (.int .i64 t.kind) (.int .i64 t.size) (.slice A1 rn c1) (.slice A2 pn c2) (.int .i64 v.n) (.slice B m e)
   exact contVal_any l _ 184 _ (enters_of Tryz.func184 (by kernel_rfl) rfl) _ _ (h.bw b0) (fun x hx s' W hg hk => bhas1_any t ht x v (hl x hx) hv _ _ _ _ s' _ W (b1.below hg.b b1.lt) (b2.below hg.b b2.lt) (TAt.bw hT (b0.trans hg)) hk (h2.bw (b0.trans hg))))
 clear hT h h2 ht hl hv
 generalize (l.any fun x => belowP 8 t x v) = q at *
 generalize v.n = y at *
 generalize t.kind = k at *
 generalize t.size = z at *
 go_enter Tryz.func119, Tryz.ntmps119
 go_wp2_with (go_at_call 174; go_must (refine CF.out.mono ?_; rintro e w6 ⟨rfl, hg6⟩; have HG6 := Lib.hid hg6; clear hg6))
 go_ret
 exact ⟨rfl, (((Bw.refl _).alloc _).alloc _).trans HG6.out⟩
theorem bmin1_any (t : T) [Nonempty (FlatT t)] (ht : rightP 8 t = true) (x v : V) (hx : oneP 8 t x = true) (hv : oneP 8 t v = true) (g1 g2 : Nat) (rv pv s s2 : Value) (W : World) (hg : Blk W g1 50 #[.int .i64 t.kind, .int .i64 t.size, rv, pv]) (hg2 : Blk W g2 31 #[.int .i64 v.n, s2]) (hT : TB W W.heap.size rv pv t) (h : KB W W.heap.size s x.ks) (h2 : KB W W.heap.size s2 v.ks) :
   Calls Tryz.prog 179 (#[.agg #[.int .i64 x.n, s]] ++ #[.pointer (some ⟨g1, 0, none⟩), .pointer (some ⟨g2, 0, none⟩)]) W (BoolPost W (belowP 8 t x v)) := by
 obtain ⟨A, n, c, rfl, _, _, _⟩ := h.form
 obtain ⟨B, m, e, rfl, _, _, _⟩ := h2.form
 obtain ⟨A1, rn, c1, rfl, _, _⟩ := hT.1.form'
 obtain ⟨A2, pn, c2, rfl, _, _, _⟩ := hT.2.form
 have OV : Hid (∀ W', Bw W W' → Calls Tryz.prog 180 #[.agg #[.int .i64 t.kind, .int .i64 t.size, .slice A1 rn c1, .slice A2 pn c2], .agg #[.int .i64 x.n, .slice A n c], .agg #[.int .i64 v.n, .slice B m e]] W' (BoolPost W' (belowP 8 t x v))) := Lib.hid (fun W' g => oBelow_any 6 t ht x v hx hv _ _ _ _ W' (TAt.bw hT g) (h.bw g) (h2.bw g))
 have q0 := hg.cell 0
 have q1 := hg.cell 1
 have q2 := hg.cell 2
 have q3 := hg.cell 3
 have q4 := hg.lt
 have p0 := hg2.cell 0
 have p1 := hg2.cell 1
 have p2 := hg2.lt
 clear hg hg2 hT h h2 ht hx hv
 generalize belowP 8 t x v = q at *
 generalize v.n = y at *
 generalize x.n = xn at *
 generalize t.kind = k at *
 generalize t.size = z at *
 go_enter Tryz.func179, Tryz.ntmps179
 go_wp2_with (go_at_call 180; go_must (refine (OV.out _ ((Bw.refl _).alloc _)).mono ?_; rintro e w6 ⟨rfl, hg6⟩; have HG6 := Lib.hid hg6; clear hg6))
 go_ret
 exact ⟨rfl, ((Bw.refl _).alloc _).trans HG6.out⟩
theorem bmin2_any (t : T) [Nonempty (FlatT t)] (ht : rightP 8 t = true) (x v : V) (hx : oneP 8 t x = true) (hv : oneP 8 t v = true) (g1 g2 : Nat) (rv pv s s2 : Value) (W : World) (hg : Blk W g1 50 #[.int .i64 t.kind, .int .i64 t.size, rv, pv]) (hg2 : Blk W g2 31 #[.int .i64 v.n, s2]) (hT : TB W W.heap.size rv pv t) (h : KB W W.heap.size s x.ks) (h2 : KB W W.heap.size s2 v.ks) :
   Calls Tryz.prog 182 (#[.agg #[.int .i64 x.n, s]] ++ #[.pointer (some ⟨g1, 0, none⟩), .pointer (some ⟨g2, 0, none⟩)]) W (BoolPost W (belowP 8 t v x)) := by
 obtain ⟨A, n, c, rfl, _, _, _⟩ := h.form
 obtain ⟨B, m, e, rfl, _, _, _⟩ := h2.form
 obtain ⟨A1, rn, c1, rfl, _, _⟩ := hT.1.form'
 obtain ⟨A2, pn, c2, rfl, _, _, _⟩ := hT.2.form
 have OV : Hid (∀ W', Bw W W' → Calls Tryz.prog 180 #[.agg #[.int .i64 t.kind, .int .i64 t.size, .slice A1 rn c1, .slice A2 pn c2], .agg #[.int .i64 v.n, .slice B m e], .agg #[.int .i64 x.n, .slice A n c]] W' (BoolPost W' (belowP 8 t v x))) := Lib.hid (fun W' g => oBelow_any 6 t ht v x hv hx _ _ _ _ W' (TAt.bw hT g) (h2.bw g) (h.bw g))
 have q0 := hg.cell 0
 have q1 := hg.cell 1
 have q2 := hg.cell 2
 have q3 := hg.cell 3
 have q4 := hg.lt
 have p0 := hg2.cell 0
 have p1 := hg2.cell 1
 have p2 := hg2.lt
 clear hg hg2 hT h h2 ht hx hv
 generalize belowP 8 t v x = q at *
 generalize v.n = y at *
 generalize x.n = xn at *
 generalize t.kind = k at *
 generalize t.size = z at *
 go_enter Tryz.func182, Tryz.ntmps182
 go_wp2_with (go_at_call 180; go_must (refine (OV.out _ ((Bw.refl _).alloc _)).mono ?_; rintro e w6 ⟨rfl, hg6⟩; have HG6 := Lib.hid hg6; clear hg6))
 go_ret
 exact ⟨rfl, ((Bw.refl _).alloc _).trans HG6.out⟩

theorem bw_gb {a b c : World} {row : Option Nat} (h : Bw a b) (hg : b.grownBy c row) (hr : ∀ r, row = some r → a.heap.size ≤ r) : Bw a c := Below.grown h hg h.size hr
def MinPost (w : World) (l : List V) (e : Ending) (w' : World) : Prop := ∃ s qs, e = .returned s ∧ MRow w' w.heap.size s qs ∧ qs.map (·.1) = l ∧ Bw w w'
def MinPostS (S : Nat → Prop) (w : World) (l : List V) (e : Ending) (w' : World) : Prop := ∃ s qs, e = .returned s ∧ MRow w' w.heap.size s qs ∧ (∀ p ∈ qs, KAt w S p.2 p.1.ks) ∧ qs.map (·.1) = l ∧ Bw w w'
theorem foldl_snoc {α β : Type} (f : β → α → β) (b : β) (l : List α) (k : Nat) (h : k < l.length) : (l.take (k + 1)).foldl f b = f ((l.take k).foldl f b) l[k] := by
 rw [List.take_succ_eq_append_getElem h, List.foldl_append]; rfl
theorem minStep_pairs {f : V → V → Bool} {v : V} {ps : List VS} (h : (ps.map (·.1)).any (fun x => f x v) = false) (s : Value) : ((ps.filter fun x => !f v x.1) ++ [(v, s)]).map (·.1) = minStep f (ps.map (·.1)) v := by
 unfold minStep
 rw [if_neg (by rw [h]; simp), List.map_append, List.filter_map]
 rfl
theorem box_later {W w6 w7 : World} {L : Nat} {v : Value} {ps : List VS} {x : Int} {s : Value} (h : MRow W L v ps) (hg : Bw (W.alloc (.cells #[.int .i64 x, s] 31)) w6) (hg7 : w6.grownBy w7 v.ownBlock) :
   w7.cell? ⟨W.heap.size, 0, none⟩ = some (.int .i64 x) ∧ w7.cell? ⟨W.heap.size, 1, none⟩ = some s ∧ W.heap.size < w7.heap.size := by
 have k := ((Blk.new W 31 #[.int .i64 x, s]).below hg.b (by simp)).grown hg7 (fun e => by have := (h.own.lt _ e.symm).2; omega)
 exact ⟨k.cell 0, k.cell 1, k.lt⟩
theorem bminimalS_any (S : Nat → Prop) (t : T) [Nonempty (FlatT t)] (ht : rightP 8 t = true) (l : List V) (hl : ∀ x ∈ l, oneP 8 t x = true) (h9 : l.length ≤ 1000000) (rv pv s : Value) (w : World) (hT : TB w w.heap.size rv pv t) (hS : ∀ x, S x → x < w.heap.size) (hkS : KAt w S s l) :
   Calls Tryz.prog 116 #[.agg #[.int .i64 t.kind, .int .i64 t.size, rv, pv], s] w (MinPostS S w (minimalP (belowP 8 t) l)) := by
 have h : KB w w.heap.size s l := hkS.keep hS (fun _ _ => rfl)
 obtain ⟨A, n, c, rfl, ln, bn, mn⟩ := h.form
 unfold maxLen at mn
 obtain ⟨A1, rn, c1, rfl, _, _⟩ := hT.1.form'
 obtain ⟨A2, pn, c2, rfl, _, _, _⟩ := hT.2.form
 rw [ln] at h9
 have HK := Lib.hid h
 have HKS := Lib.hid hkS
 have HT := Lib.hid hT
 have HL := Lib.hid hl
 have HR := Lib.hid ht
 have LN := Lib.hid ln
 clear h hl ln ht hT hkS hS
 unfold minimalP minL
 obtain ⟨i0, hi, hz0, hz1, hz2⟩ := info_parts infoVal
 generalize hkd : t.kind = kd at *
 generalize hsz : t.size = sz at *
 have HKD := Lib.hid hkd
 have HSZ := Lib.hid hsz
 clear hkd hsz
 go_enter Tryz.func116, Tryz.ntmps116
 go_wp2
 have hb0 := Blk.new w 50 #[.int .i64 kd, .int .i64 sz, .slice A1 rn c1, .slice A2 pn c2]
 go_loopw [5, 10] (fun s5 i wr => ∃ k : Nat, k ≤ n ∧ i = .int .i64 k ∧ Hid (∃ ps, MRow wr w.heap.size s5 ps ∧ (∀ p ∈ ps, KAt w S p.2 p.1.ks) ∧ ps.map (·.1) = (l.take k).foldl (minStep (belowP 8 t)) [] ∧ Bw w wr ∧ Blk wr w.heap.size 50 #[.int .i64 kd, .int .i64 sz, .slice A1 rn c1, .slice A2 pn c2])) (fun _ i _ => n - (intOf i).toNat)
 case atStart => exact ⟨0, by omega, by go_num, Lib.hid ⟨[], MRow.nil _ _, fun p hp => absurd hp (by simp), rfl, (Bw.refl _).alloc _, hb0⟩⟩
 case round =>
   clear hb0
   obtain ⟨k, hk, rfl, HRR⟩ := hrel
   obtain ⟨ps, hm, hks, he, hw, hb⟩ := HRR.out
   have HKP := Lib.hid hks
   obtain ⟨VA, vc, rfl, _, _⟩ := hm.form
   have hLw : w.heap.size ≤ wr.heap.size := hw.size
   by_cases hlt : k < n
   · have e1 : k < l.length := by rw [LN.out]; exact hlt
     obtain ⟨ad, sA, sn, sc, rfl, hbl, q0, q1, sl, hs⟩ := (HK.out.under hw.b).at_ e1
     have hsS : KAt w S (.slice sA sn sc) l[k].ks := by
       obtain ⟨ad', sA', sn', sc', ea, _, _, q1', _, hs'⟩ := HKS.out.at_ e1
       obtain rfl := Option.some.inj ea
       have h1 := (hw.b.cell (p := ⟨(ad.add (k * 2)).block, (ad.add (k * 2)).off + 1, none⟩) (by show (ad.add (k * 2)).block < _; rw [add_block]; exact hbl)).trans q1'
       rw [q1] at h1
       rw [Option.some.inj h1]
       exact hs'
     have HSS := Lib.hid hsS
     have hv1 : oneP 8 t l[k] = true := HL.out _ (List.getElem_mem e1)
     have hpl : ps.length ≤ k := by
       have h1 := congrArg List.length he
       have h2 := fold_length (f := belowP 8 t) (l.take k) []
       simp at h1 h2
       omega
     have hpo : ∀ x ∈ ps.map (·.1), oneP 8 t x = true := by
       intro x hx
       rw [he] at hx
       have := (fold_spec (below_ord HR.out) (l.take k) [] (fun x hx => by simp at hx) (fun x hx => HL.out x (List.mem_of_mem_take hx)) .nil).2.1 x hx
       rcases this with h | h
       · simp at h
       · exact HL.out x (List.mem_of_mem_take h)
     have HSTEP := Lib.hid (foldl_snoc (minStep (belowP 8 t)) [] l k e1)
     -- the world with the value's box
     have CF : Hid (Calls Tryz.prog 174 #[.slice VA ps.length vc, .func (.func 179) #[] #[.pointer (some ⟨w.heap.size, 0, none⟩), .pointer (some ⟨wr.heap.size, 0, none⟩)]] (wr.alloc (.cells #[.int .i64 l[k].n, .slice sA sn sc] 31)) (BoolPost (wr.alloc (.cells #[.int .i64 l[k].n, .slice sA sn sc] 31)) ((ps.map (·.1)).any fun x => belowP 8 t x l[k]))) := Lib.hid (by
       have hbx := Blk.new wr 31 #[.int .i64 l[k].n, .slice sA sn sc]
       have hba := hb.alloc (.cells #[.int .i64 l[k].n, .slice sA sn sc] 31)
       have hwa : Bw w (wr.alloc (.cells #[.int .i64 l[k].n, .slice sA sn sc] 31)) := hw.alloc _
       exact contVal_any (ps.map (·.1)) _ 179 _ (enters_of Tryz.func179 (by kernel_rfl) rfl) _ _ ((hm.kb hLw).bw ((Bw.refl _).alloc _)) (fun x hx s' W hg hkx => by
         have := bmin1_any t HR.out x l[k] (hpo x hx) hv1 w.heap.size wr.heap.size (.slice A1 rn c1) (.slice A2 pn c2) s' (.slice sA sn sc) W (by rw [HKD.out, HSZ.out]; exact hba.below hg.b hba.lt) (hbx.below hg.b hbx.lt) (TAt.bw HT.out (hwa.trans hg)) hkx ((hs.under (Below.mono (((Bw.refl wr).alloc _).trans hg).b hLw)).more (hwa.trans hg).size)
         exact this))
     have CD : Hid (∀ w6, Bw (wr.alloc (.cells #[.int .i64 l[k].n, .slice sA sn sc] 31)) w6 → Calls Tryz.prog 181 #[.slice VA ps.length vc, .func (.func 182) #[] #[.pointer (some ⟨w.heap.size, 0, none⟩), .pointer (some ⟨wr.heap.size, 0, none⟩)]] w6 (DelPost w6 w.heap.size (.slice VA ps.length vc) (ps.filter fun x => !belowP 8 t l[k] x.1))) := Lib.hid (fun w6 g6 => by
       have hg6 : Bw wr w6 := ((Bw.refl wr).alloc _).trans g6
       have hbx := (Blk.new wr 31 #[.int .i64 l[k].n, .slice sA sn sc]).below g6.b (by simp)
       have hba := hb.below hg6.b hb.lt
       refine delVal_any w.heap.size ps (fun x => belowP 8 t l[k] x) 182 _ (enters_of Tryz.func182 (by kernel_rfl) rfl) _ w6 (hm.bw hg6 hLw) (Nat.le_trans hLw hg6.size) (fun x hx s' W hg hkx => ?_)
       have hW : Bw w W := bw_gb (hw.trans hg6) hg (fun r e => (hm.own.lt r e).1)
       exact bmin2_any t HR.out x l[k] (hpo x hx) hv1 w.heap.size wr.heap.size (.slice A1 rn c1) (.slice A2 pn c2) s' (.slice sA sn sc) W (by
           rw [HKD.out, HSZ.out]
           exact hba.grown hg (fun e => own_blk_ne hm.own hb (by decide) e.symm)) (hbx.grown hg (fun e => by have := (hm.own.lt _ e.symm).2; omega)) (TAt.bw HT.out hW) hkx ((hs.under (Below.mono ((Bw.refl wr).b) hLw) |>.keep (fun b hb => by have := hW.size; have h2 : b < w.heap.size := hb; omega) (fun q hq => by
             have h1 : W.cell? q = w.cell? q := hW.b.cell hq
             have h2 : wr.cell? q = w.cell? q := hw.b.cell hq
             rw [h1, h2]))))
     have HS := Lib.hid (hs.under (Below.refl w.heap.size wr))
     have HM := Lib.hid hm
     have HE := Lib.hid he
     have HW := Lib.hid hw
     have HB := Lib.hid hb
     have HPL := Lib.hid hpl
     clear hm he hw hb hs hpo hv1 HRR sl hpl hks hsS
     rcases hp : (ps.map (·.1)).any fun x => belowP 8 t x l[k] with _ | _
     · rw [hp] at CF
       have HP := Lib.hid hp
       clear hp
       generalize hqs : (ps.filter fun x => !belowP 8 t l[k] x.1) = qs at *
       have HQS := Lib.hid hqs
       have HQL : qs.length ≤ k := by rw [← hqs]; exact Nat.le_trans (List.length_filter_le _ _) HPL.out
       clear hqs
       generalize hx : l[k] = x at *
       have HX := Lib.hid hx
       clear hx
       obtain ⟨xn, hxn⟩ : ∃ xn, x.n = xn := ⟨_, rfl⟩
       rw [hxn] at CF CD q0
       have HXN := Lib.hid hxn
       clear hxn
       go_wp2_with (first
         | (go_at_call 174; go_must (refine CF.out.mono ?_; rintro e w6 ⟨rfl, hg6⟩; (have HG6 := Lib.hid hg6); clear hg6))
         | (go_at_call 181; go_must (refine (CD.out _ HG6.out).mono ?_; rintro e w7 ⟨s7, rfl, hm7, hg7, ho7⟩; obtain ⟨VA7, vc7, rfl, _, _⟩ := hm7.form; (have HM7 := Lib.hid hm7); (have HG7 := Lib.hid hg7); (have HO7 := Lib.hid ho7); (obtain ⟨b0, b1, hz7⟩ := box_later HM.out HG6.out hg7); clear hm7 hg7 ho7))
         | (at_builtin; go_must (refine wpList_append_any _ rfl _ _ 29 rfl w.heap.size 31 i0 _ 2 32 Tryz.underlying29 hi hz0 hz1 hz2 rfl (by decide) (.slice VA7 qs.length vc7) qs.length (pCells qs) rfl (HM7.out.own.alloc _) (w7.heap.size + 1) (some ⟨w7.heap.size, 0, none⟩) 1 1 [.int .i64 xn, .slice sA sn sc] rfl (reads_new2 w7 31 _ _) (one2 _ _ _ _) (by unfold maxLen; omega) (by omega) (by simp; omega) ?_; intro v8 w8 hown8 hgr8 hl8; obtain ⟨A8, c8, rfl⟩ := own_form hown8; (have HO8 := Lib.hid hown8); (have HG8 := Lib.hid hgr8); (have HL8 := Lib.hid hl8); clear hown8 hgr8 hl8)))
       go_roundw
       case rel =>
         have g6 : Bw wr w6 := ((Bw.refl wr).alloc _).trans HG6.out
         have g7 : Bw w w7 := bw_gb (HW.out.trans g6) HG7.out (fun r e => (HM.out.own.lt r e).1)
         have hL7 : w.heap.size ≤ w7.heap.size := g7.size
         have hm7 := HM7.out.bw ((Bw.refl w7).alloc (.cells #[.int .i64 xn, .slice sA sn sc] 31)) hL7
         have hb8 : Blk w8 w.heap.size 50 #[.int .i64 kd, .int .i64 sz, .slice A1 rn c1, .slice A2 pn c2] := by
           have h1 := (HB.out.below g6.b HB.out.lt).grown HG7.out (fun e => own_blk_ne HM.out.own HB.out (by decide) e.symm)
           exact (h1.alloc (.cells #[.int .i64 xn, .slice sA sn sc] 31)).grown HG8.out (fun e => own_blk_ne HM7.out.own h1 (by decide) e.symm)
         have hs8 : KAt (w7.alloc (.cells #[.int .i64 xn, .slice sA sn sc] 31)) (· < w.heap.size) (.slice sA sn sc) x.ks := HS.out.keep (fun b hb => hb) (fun q hq => by
           have h1 := (g7.alloc (.cells #[.int .i64 xn, .slice sA sn sc] 31)).b.cell (p := q) hq
           have h2 := HW.out.b.cell (p := q) hq
           rw [h1, h2])
         refine ⟨k + 1, by omega, by go_num, Lib.hid ⟨qs ++ [(x, .slice sA sn sc)], ?_, fun p hp => ?_, ?_, ?_, hb8⟩⟩
         · exact hm7.push (x := (x, .slice sA sn sc)) (by simp; omega) hs8 (by rw [HXN.out]; exact HO8.out) HG8.out
         · rcases List.mem_append.1 hp with hp | hp
           · rw [← HQS.out] at hp
             exact HKP.out p (List.mem_filter.1 hp).1
           · obtain rfl := List.mem_singleton.1 hp
             exact HSS.out
         · rw [HSTEP.out, ← HE.out, ← HQS.out]
           exact minStep_pairs HP.out _
         · exact bw_gb (g7.alloc _) HG8.out (fun r e => (hm7.own.lt r e).1)
       case measure => simp [intOf]; omega
     · rw [hp] at CF
       have HP := Lib.hid hp
       clear hp
       generalize l[k].n = xn at *
       go_wp2_with (go_at_call 174; go_must (refine CF.out.mono ?_; rintro e w6 ⟨rfl, hg6⟩; (have HG6 := Lib.hid hg6); clear hg6))
       go_roundw
       case rel =>
         have hg : Bw wr w6 := ((Bw.refl wr).alloc _).trans HG6.out
         refine ⟨k + 1, by omega, by go_num, Lib.hid ⟨ps, HM.out.bw hg hLw, HKP.out, ?_, HW.out.trans hg, HB.out.below hg.b HB.out.lt⟩⟩
         rw [HSTEP.out, ← HE.out]
         unfold minStep
         rw [if_pos HP.out]
       case measure => simp [intOf]; omega
   · obtain rfl : k = n := by omega
     have HM := Lib.hid hm
     have HE := Lib.hid he
     have HW := Lib.hid hw
     have HPL : ps.length ≤ 1000000 := by
       have h1 := congrArg List.length he
       have h2 := fold_length (f := belowP 8 t) (l.take k) []
       simp at h1 h2
       omega
     have CS : Hid (Calls Tryz.prog 183 #[.slice VA ps.length vc, .func (.func 172) #[] #[]] wr (SortPostP wr w.heap.size (.slice VA ps.length vc) ps)) := Lib.hid (sortValP_any w.heap.size ps _ wr hm hLw HPL)
     clear hm he hw hb HRR HPL hks
     go_wp2_with (go_at_call 183; go_must (refine CS.out.mono ?_; rintro e w6 ⟨rfl, qs, hm6, he6, hg6, hq6⟩; (have HM6 := Lib.hid hm6); (have HQ6 := Lib.hid hq6); (have HE6 := Lib.hid he6); (have HG6 := Lib.hid hg6); clear hm6 he6 hg6 hq6))
     go_ret
     refine ⟨_, qs, rfl, HM6.out, fun p hp => HKP.out p (HQ6.out p hp), ?_, bw_gb HW.out HG6.out (fun r e => (HM.out.own.lt r e).1)⟩
     rw [HE6.out, HE.out, List.take_of_length_le (by have := LN.out; omega)]
theorem bminimal_any (t : T) [Nonempty (FlatT t)] (ht : rightP 8 t = true) (l : List V) (hl : ∀ x ∈ l, oneP 8 t x = true) (h9 : l.length ≤ 1000000) (rv pv s : Value) (w : World) (hT : TB w w.heap.size rv pv t) (h : KB w w.heap.size s l) :
   Calls Tryz.prog 116 #[.agg #[.int .i64 t.kind, .int .i64 t.size, rv, pv], s] w (MinPost w (minimalP (belowP 8 t) l)) :=
 (bminimalS_any (· < w.heap.size) t ht l hl h9 rv pv s w hT (fun _ h => h) h).mono fun e w' ⟨s, qs, h1, h2, _, h3, h4⟩ => ⟨s, qs, h1, h2, h3, h4⟩
end
end Go.Proofs.YthhbkabdhkdafaaGreat
