/- slices.SortFunc over a row of values of the call's own, by order.Compare. -/
import Derived.Test.YtbmheekaclmibaaGreatDelA
import Derived.Test.YtbmheekaclmibaaGreatSortLay
import Derived.Test.YtbmheekaclmibaaGreatShelf
import Derived.Lib.RowBridge
namespace Go.Proofs.YtbmheekaclmibaaGreat
open Go.RowKit Go.Sort
set_option linter.unusedSimpArgs false
set_option linter.unusedVariables false

/-- values whose own slices lie below L in w -/
def KV (w : World) (L : Nat) : Type := { x : VS // KAt w (· < L) x.2 x.1.ks }
instance (w : World) (L : Nat) : Inhabited (KV w L) := ⟨⟨(.mk 0 [], .slice none 0 0), KAt.nil _ _ (Nat.zero_le _)⟩⟩
def encKV {w : World} {L : Nat} (x : KV w L) : List Value := [.int .i64 x.1.1.n, x.1.2]
def cmpKV {w : World} {L : Nat} (x y : KV w L) : Int := cmpV x.1.1 y.1.1
theorem swoKV (w : World) (L : Nat) : SWO (ltOf (cmpKV (w := w) (L := L))) where
  irrefl x := by simp [ltOf, cmpKV, cmp_self]
  trans x y z h1 h2 := by
    have h1 : cmpV x.1.1 y.1.1 < 0 := of_decide_eq_true h1
    have h2 : cmpV y.1.1 z.1.1 < 0 := of_decide_eq_true h2
    refine decide_eq_true (p := cmpV x.1.1 z.1.1 < 0) ?_
    have r1 := cmp_range x.1.1 y.1.1
    have r2 := cmp_range y.1.1 z.1.1
    have := cmp_trans x.1.1 y.1.1 z.1.1 (by omega) (by omega)
    omega
  ntrans x y z h1 h2 := by
    have h1 : ¬ cmpV x.1.1 y.1.1 < 0 := of_decide_eq_false h1
    have h2 : ¬ cmpV y.1.1 z.1.1 < 0 := of_decide_eq_false h2
    refine decide_eq_false (p := cmpV x.1.1 z.1.1 < 0) ?_
    have a1 := cmp_anti x.1.1 y.1.1
    have a2 := cmp_anti y.1.1 z.1.1
    have a3 := cmp_anti x.1.1 z.1.1
    have := cmp_le_trans (a := z.1.1) (b := y.1.1) (c := x.1.1) (by omega) (by omega)
    omega
def pairsK {w : World} {L : Nat} (d : List (KV w L)) : List VS := d.map (·.1)
theorem pairsK_cells {w : World} {L : Nat} (d : List (KV w L)) : pCells (pairsK d) = d.flatMap encKV := by
  simp only [pCells, pairsK, List.flatMap_map]; rfl
theorem flatK_cells {w : World} {L : Nat} (d : List (KV w L)) : (flatK encKV 2 d.toArray).toList = pCells (pairsK d) := by
  apply List.ext_getElem
  · rw [pCells_length]; simp [pairsK]
  · intro i h1 h2
    have h3 : i < d.length * 2 := by rw [pCells_length] at h2; simpa [pairsK] using h2
    have h4 := pCells_get (ps := pairsK d) (k := i / 2) (by simp [pairsK]; omega)
    have e : (flatK encKV 2 d.toArray).toList[i] = (encKV (d[i / 2]'(by omega)))[i % 2]! := by
      have := get_flatK encKV 2 d.toArray i (by simpa using h3)
      rw [getElem!_pos _ i (by simpa using h3)] at this
      rw [Array.getElem_toList, this]
      simp [show i / 2 < d.length by omega]
    rw [e]
    have hm := Nat.div_add_mod i 2
    rcases Nat.mod_two_eq_zero_or_one i with h0 | h0
    · have e1 : i / 2 * 2 = i := by omega
      rw [e1, List.getElem?_eq_getElem h2] at h4
      rw [Option.some.inj h4.1, h0]
      simp [encKV, pairsK]
    · have e1 : i / 2 * 2 + 1 = i := by omega
      rw [e1, List.getElem?_eq_getElem h2] at h4
      rw [Option.some.inj h4.2, h0]
      simp [encKV, pairsK]
def attachK {w : World} {L : Nat} : (ps : List VS) → (∀ p ∈ ps, KAt w (· < L) p.2 p.1.ks) → List (KV w L)
  | [], _ => []
  | p :: r, h => ⟨p, h p (by simp)⟩ :: attachK r fun q hq => h q (by simp [hq])
theorem pairsK_attach {w : World} {L : Nat} : ∀ (ps : List VS) (h : ∀ p ∈ ps, KAt w (· < L) p.2 p.1.ks), pairsK (attachK ps h) = ps
  | [], _ => rfl
  | p :: r, h => congrArg (p :: ·) (pairsK_attach r _)
theorem holdsK_row {w : World} {L g n c : Nat} {ps : List VS} (h : MRow w L (.slice (some ⟨g, 0, none⟩) n c) ps) (hn : ps.length = n) : HoldsK encKV 2 w g 0 (attachK ps h.kid).toArray := by
  subst hn
  intro j hj
  have hl : (attachK ps h.kid).length = ps.length := by
    have := congrArg List.length (pairsK_attach ps h.kid)
    simpa [pairsK] using this
  have hj2 : j < ps.length * 2 := by simpa [hl] using hj
  refine ⟨?_, h.own.frozenAt _⟩
  rw [Nat.zero_add, h.own.cellAt j hj2]
  have e := flatK_cells (attachK ps h.kid)
  rw [pairsK_attach] at e
  rw [← e, Array.getElem?_toList, Array.getElem?_eq_getElem hj, getElem!_pos _ j hj]
  rfl
theorem setCells_own {L g n c : Nat} {e : TypeId} : ∀ (vs : List Value) (o : Nat) (W : World) (xs : List Value), W.ownsRow L e 2 (.slice (some ⟨g, 0, none⟩) n c) n xs → o + vs.length = n * 2 → (W.setCells g o vs).ownsRow L e 2 (.slice (some ⟨g, 0, none⟩) n c) n (xs.take o ++ vs)
  | [], o, W, xs, h, hl => by
    have h1 := h.1
    rw [List.append_nil, List.take_of_length_le (by simp at hl; omega)]; exact h
  | v :: r, o, W, xs, h, hl => by
    have h2 := setCells_own r (o + 1) _ _ (h.stored o v).1 (by simp at hl; omega)
    have h1 := h.1
    have e : (xs.set o v).take (o + 1) ++ r = xs.take o ++ v :: r := by
      rw [List.take_succ_eq_append_getElem (by simp at hl ⊢; omega), List.take_set_of_le (Nat.le_refl _)]
      simp
    rw [e] at h2
    exact h2
theorem setCells_gb {g : Nat} {w : World} : ∀ (vs : List Value) (o : Nat) (W : World), w.grownBy W (some g) → w.grownBy (W.setCells g o vs) (some g)
  | [], _, _, h => h
  | v :: r, o, W, h => setCells_gb r (o + 1) _ (grownBy_setCell (p := ⟨g, o, none⟩) h (.inl rfl) v)
theorem gb_grow (w : World) (os : Array Obj) (row : Option Nat) : w.grownBy (grow w os) row :=
  ⟨rfl, rfl, rfl, by simp, fun k hk _ => heap_grow_old w os hk⟩
theorem sortWorld_eq {w : World} {L g q : Nat} (d0 d : List (KV w L)) (os : Array Obj) (hH : HoldsK encKV 2 w g 0 d0.toArray) (hl : d.length = d0.length) :
    sortWorldK encKV 2 w g 0 q d.toArray os = grow ((w.drewN q).setCells g 0 (pCells (pairsK d))) os := by
  unfold sortWorldK putRowK
  have := Go.Lib.putRow_eq_setCells id w g 0 (flatK encKV 2 d0.toArray) (flatK encKV 2 d.toArray).toList q hH (by simp [hl])
  rw [Array.toArray_toList, List.map_id, flatK_cells] at this
  rw [this]
def SortPost (w : World) (L : Nat) (s : Value) (ps : List VS) (e : Ending) (w' : World) : Prop := e = .returned (.tuple #[]) ∧ ∃ qs, MRow w' L s qs ∧ qs.map (·.1) = sortV (ps.map (·.1)) ∧ w.grownBy w' s.ownBlock
theorem insNone_any (A : Option Addr) (c : Nat) (fv : Value) (w : World) : Calls Tryz.prog 139 #[.slice A 0 c, .int .i64 0, .int .i64 0, fv] w fun e w' => e = .returned (.tuple #[]) ∧ w = w' := by
  go_enter Tryz.func139, Tryz.ntmps139
  go_wp2
  refine wp_loop_rounds 1 ?_
  rw [rounds_succ]
  go_wp2
  go_end0
  exact ⟨rfl, rfl⟩
set_option maxRecDepth 100000 in
set_option maxHeartbeats 1000000 in
theorem pdqNone_any (A : Option Addr) (c : Nat) (lim : Int) (fv : Value) (w : World) : Calls Tryz.prog 108 #[.slice A 0 c, .int .i64 0, .int .i64 0, .int .i64 lim, fv] w fun e w' => e = .returned (.tuple #[]) ∧ w = w' := by
  go_enter Tryz.func108, Tryz.ntmps108
  go_wp2
  refine wp_loop_rounds 1 ?_
  rw [rounds_succ]
  go_wp2_with (go_at_call 139; refine (insNone_any A c fv _).mono ?_; rintro e w' ⟨rfl, rfl⟩)
  (try simp only [Exit.inBlock, Exit.then]); refine bodyPost_ret (results_none rfl _ _ _) rfl ?_
  exact ⟨rfl, rfl⟩
theorem sortNone_any (A : Option Addr) (c : Nat) (fv : Value) (w : World) : Calls Tryz.prog 75 #[.slice A 0 c, fv] w fun e w' => e = .returned (.tuple #[]) ∧ w = w' := by
  have hl : Calls Tryz.prog 109 #[.int .u64 0] w fun e w' => e = .returned (.int .i64 ((Lib.bitLen 0 : Nat) : Int)) ∧ w = w' := (Tryz.bits_Len 0 w (by omega) (by omega)).mono fun e w' h => ⟨h.1, h.2.symm⟩
  generalize ((Lib.bitLen 0 : Nat) : Int) = r at hl
  go_enter Tryz.func75, Tryz.ntmps75
  go_wp2_with (first | (go_at_call 109; go_must (refine hl.mono ?_; rintro e w' ⟨rfl, rfl⟩)) | (go_at_call 108; go_must (refine (pdqNone_any A c r fv _).mono ?_; rintro e w' ⟨rfl, rfl⟩)))
  go_end0
  exact ⟨rfl, rfl⟩
set_option maxHeartbeats 1000000 in
theorem sortVal_any (L : Nat) (ps : List VS) (s : Value) (w : World) (h : MRow w L s ps) (hL : L ≤ w.heap.size) (h9 : ps.length ≤ 1000000) :
    Calls Tryz.prog 75 #[s, .func (.func 46) #[] #[]] w (SortPost w L s ps) := by
  obtain ⟨A, c, rfl, bn, mn⟩ := h.form
  by_cases h0 : ps.length = 0
  · obtain rfl := List.eq_nil_of_length_eq_zero h0
    refine (sortNone_any A c _ w).mono ?_
    rintro e w' ⟨rfl, rfl⟩
    exact ⟨rfl, [], h, rfl, World.grownBy.refl _ _⟩
  · obtain ⟨g, rfl, hLg, hgl, _⟩ := h.at_ rfl (k := 0) (by omega)
    have hl : (attachK ps h.kid).length = ps.length := by
      have := congrArg List.length (pairsK_attach ps h.kid)
      simpa [pairsK] using this
    have hH := holdsK_row h rfl
    have hcon := AnyQ.slices_SortFunc Tryz.sortVal 2 Tryz.isAgg39 Tryz.sizeOf39 encKV (fun _ => rfl) (fun x v hv => by
        obtain ⟨A, n, c, e, _⟩ := x.2.form
        simp [encKV] at hv
        rcases hv with rfl | rfl
        · rfl
        · rw [e]; rfl) cmpKV (swoKV w L) 46 #[] g 0 c (attachK ps h.kid).toArray w (enters_of Tryz.func46 (by kernel_rfl) rfl)
      (fun m os dk hdk x y => by
        have key : ∀ z : KV w L, KB (sortWorldK encKV 2 w g 0 m dk os) (sortWorldK encKV 2 w g 0 m dk os).heap.size z.1.2 z.1.1.ks := fun z => z.2.keep (fun b hb => by
            have := size_sortWorldK_c encKV 2 w g 0 m dk os; omega) (fun p hp => by
            unfold sortWorldK
            rw [cell?_grow _ _ _ (by unfold putRowK; rw [Sort.size_putRow]; exact Nat.lt_of_lt_of_le hp hL), cell?_putRowK_other _ _ _ _ _ _ _ (by omega)]
            rfl)
        refine (cmp_any x.1.1 y.1.1 x.1.2 y.1.2 _ (key x) (key y)).mono ?_
        rintro e w' ⟨rfl, hg⟩
        obtain ⟨q, os', e⟩ := hg.form
        exact ⟨rfl, q, os', e⟩) hH hgl (by simp [hl]; omega)
    have hcon' := hcon
    rw [show (attachK ps h.kid).toArray.size = ps.length by simp [hl]] at hcon'
    change Calls Tryz.prog 75 _ _ _ at hcon'
    refine hcon'.mono ?_
    rintro e w' ⟨rfl, d', q, os, hp, hs, rfl⟩
    obtain ⟨d2, rfl⟩ : ∃ d2 : List (KV w L), d' = d2.toArray := ⟨d'.toList, by simp⟩
    have hl2 : d2.length = (attachK ps h.kid).length := by simpa using hp.1
    have hperm : d2.Perm (attachK ps h.kid) := by
      have := hp.2.2
      simp only [List.extract_toArray, List.extract_eq_take_drop, List.drop_zero, Nat.sub_zero] at this
      rwa [List.take_of_length_le (by omega), List.take_of_length_le (by omega)] at this
    have hperm2 : (pairsK d2).Perm ps := by
      have := hperm.map (fun x : KV w L => x.1)
      rw [← pairsK_attach ps h.kid]; exact this
    rw [sortWorld_eq (attachK ps h.kid) d2 os hH hl2]
    have ho : ((w.drewN q).setCells g 0 (pCells (pairsK d2))).ownsRow L 39 2 (.slice (some ⟨g, 0, none⟩) ps.length c) ps.length (pCells (pairsK d2)) := by
      have := setCells_own (pCells (pairsK d2)) 0 (w.drewN q) _ (show (w.drewN q).ownsRow L 39 2 (.slice (some ⟨g, 0, none⟩) ps.length c) ps.length (pCells ps) from h.own) (by rw [pCells_length, hperm2.length_eq]; omega)
      simpa using this
    have hgb : w.grownBy ((w.drewN q).setCells g 0 (pCells (pairsK d2))) (some g) := setCells_gb _ _ _ ⟨rfl, rfl, rfl, Nat.le_refl _, fun _ _ _ => rfl⟩
    have hgb2 : w.grownBy (grow ((w.drewN q).setCells g 0 (pCells (pairsK d2))) os) (some g) := gb_trans hgb (gb_grow _ _ _)
    refine ⟨rfl, pairsK d2, h.turn hgb2 hL ?_ (fun p hp => .inl (hperm2.subset hp)), ?_, hgb2⟩
    · rw [hperm2.length_eq]
      exact ho.kept (gb_grow _ os none) (.inr (by simp [Value.ownBlock]))
    · refine sortV_eq (hperm2.map _) (pair_sorted ?_)
      rw [List.pairwise_iff_getElem]
      intro i j hi hj hij
      have h1 : i < d2.length := by simpa [pairsK] using hi
      have h2 : j < d2.length := by simpa [pairsK] using hj
      have h3 := hs i j (Nat.zero_le _) hij (by omega)
      have e1 : d2.toArray[i]! = d2[i] := by simp [h1]
      have e2 : d2.toArray[j]! = d2[j] := by simp [h2]
      rw [e1, e2] at h3
      have h3 : ¬ cmpV d2[j].1.1 d2[i].1.1 < 0 := of_decide_eq_false h3
      have := cmp_anti d2[i].1.1 d2[j].1.1
      simp only [pairsK, List.getElem_map]
      omega
end Go.Proofs.YtbmheekaclmibaaGreat
