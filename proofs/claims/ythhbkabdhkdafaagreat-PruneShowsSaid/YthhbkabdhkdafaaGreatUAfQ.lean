/- Part of a proof of pruneShows_holds. -/
import Derived.Test.YthhbkabdhkdafaaGreatUAeQ
import Derived.Shelf.GgClosure.Gives
set_option linter.unusedSimpArgs false
set_option linter.unusedVariables false
set_option maxRecDepth 100000
set_option maxHeartbeats 16000000
namespace Go.Proofs.YthhbkabdhkdafaaGreat
section
open Go.RowKit
def Bw (w w' : World) : Prop := Below w.heap.size w w'
theorem Bw.b {w w' : World} (h : Bw w w') : Below w.heap.size w w' := h
theorem Gr.bw {w w' : World} (h : Gr w w') : Bw w w' := h.b
theorem Bw.refl (w : World) : Bw w w := Below.refl _ _
theorem Bw.trans {a b c : World} (h : Bw a b) (k : Bw b c) : Bw a c := Below.trans h (Below.mono k h.size)
theorem Bw.alloc {a w : World} (h : Bw a w) (o : Obj) : Bw a (w.alloc o) := Below.alloc h h.size o
theorem Bw.drewN {a w : World} (h : Bw a w) (n : Nat) : Bw a (w.drewN n) := ⟨h.os, h.tape, h.output, h.size, h.block⟩
theorem Bw.drew {a w : World} (h : Bw a w) : Bw a w.drew := h.drewN 1
theorem Bw.setCell {a w : World} (h : Bw a w) {p : Addr} (hp : a.heap.size ≤ p.block) (u : Value) : Bw a (w.setCell p u) := Below.setCell h hp u
theorem Bw.grown {a w : World} (h : a.grownBy w none) : Bw a w := ⟨h.os, h.tape, h.output, h.size, fun k hk => h.block k hk (by simp)⟩
theorem Bw.gr {a w : World} (h : Bw a w) : a.grownBy w none := ⟨h.os, h.tape, h.output, h.size, fun k hk _ => h.block k hk⟩
section
variable {w w' : World}
theorem KAt.bw {v : Value} {l : List V} (h : KB w w.heap.size v l) (g : Bw w w') : KB w' w'.heap.size v l := (h.under g).more g.size
theorem PAt.bw {v : Value} {l : List T} (h : PB w w.heap.size v l) (g : Bw w w') : PB w' w'.heap.size v l := (h.under g).more g.size
theorem IAt.bw {v : Value} {l : List Int} (h : IB w w.heap.size v l) (g : Bw w w') : IB w' w'.heap.size v l := (h.under g).more g.size
theorem TAt.bw {rv pv : Value} {t : T} (h : TB w w.heap.size rv pv t) (g : Bw w w') : TB w' w'.heap.size rv pv t := ⟨h.1.bw g, h.2.bw g⟩
end
def BoolPost (w : World) (b : Bool) (e : Ending) (w' : World) : Prop := e = .returned (.bool b) ∧ Bw w w'
def NumPost (w : World) (r : Int) (e : Ending) (w' : World) : Prop := e = .returned (.int .i64 r) ∧ Bw w w'
theorem IntPost.num {w : World} {r : Int} {e : Ending} {w' : World} (h : IntPost w r e w') : NumPost w r e w' := ⟨h.1, h.2.bw⟩
def idxP {α : Type} (p : α → Bool) (l : List α) : Int := if l.any p then (l.findIdx p : Int) else -1
theorem idxP_hit {α : Type} {p : α → Bool} {l : List α} {k : Nat} (h : k < l.length) (h1 : p l[k] = true) (h2 : ∀ j (hj : j < k), p (l[j]'(by omega)) = false) : idxP p l = k := by
 unfold idxP
 rw [if_pos (List.any_eq_true.2 ⟨_, List.getElem_mem h, h1⟩)]
 congr 1
 exact (List.findIdx_eq h).2 ⟨h1, h2⟩
theorem idxP_miss {α : Type} {p : α → Bool} {l : List α} (h : ∀ j (hj : j < l.length), p l[j] = false) : idxP p l = -1 := by
 unfold idxP
 rw [if_neg]
 intro h1
 obtain ⟨x, hx, h2⟩ := List.any_eq_true.1 h1
 obtain ⟨j, hj, rfl⟩ := List.getElem_of_mem hx
 rw [h j hj] at h2; cases h2
theorem idxP_nonneg {α : Type} (p : α → Bool) (l : List α) : decide (0 ≤ idxP p l) = l.any p := by
 unfold idxP
 by_cases h : l.any p = true
 · rw [if_pos h, h]; simp
 · rw [if_neg h]; simp at h ⊢; exact h

theorem idxVal_any (l : List V) (p : V → Bool) (g : Nat) (cb : Array Value) (eg : ∀ args w, (callFunc g args).run Tryz.prog w = .ok (.enter g args) w) (s : Value) (w : World) (h : KB w w.heap.size s l)
   (hc : ∀ v ∈ l, ∀ (s' : Value) (W : World), Bw w W → KB W W.heap.size s' v.ks → Calls Tryz.prog g (#[.agg #[.int .i64 v.n, s']] ++ cb) W (BoolPost W (p v))) :
   Calls Tryz.prog 243 #[s, .func (.func g) #[] cb] w (NumPost w (idxP p l)) := by
 obtain ⟨A, n, c, rfl, ln, bn, mn⟩ := h.form
 unfold maxLen at mn
 have HC := Lib.hid hc
 have H := Lib.hid h
 have LN := Lib.hid ln
 clear hc h ln
 go_enter Tryz.func243, Tryz.ntmps243
 go_wp2
 go_loopw [5, 8] (fun _ i wr => ∃ k : Nat, k ≤ n ∧ i = .int .i64 k ∧ Hid (Bw w wr ∧ ∀ j (hj : j < l.length), j < k → p l[j] = false)) (fun _ i _ => n - (intOf i).toNat)
 case atStart => exact ⟨0, by omega, rfl, Lib.hid ⟨Bw.refl _, fun j _ h => absurd h (by omega)⟩⟩
 case round =>
   obtain ⟨k, hk, rfl, HR⟩ := hrel
   obtain ⟨hg, hno⟩ := HR.out
   by_cases hlt : k < n
   · have e1 : k < l.length := by rw [LN.out]; exact hlt
     obtain ⟨ad, sA, sn, sc, rfl, hb, q0, q1, sl, hs⟩ := (H.out.bw hg).at_ e1
     have CM : Hid (Calls Tryz.prog g (#[.agg #[.int .i64 l[k].n, .slice sA sn sc]] ++ cb) wr (BoolPost wr (p l[k]))) := Lib.hid (HC.out _ (List.getElem_mem e1) _ _ hg hs)
     have HG := Lib.hid hg
     have HNO := Lib.hid hno
     clear hg hno HR
     rcases hp : p l[k] with _ | _
     · rw [hp] at CM
       have HP := Lib.hid hp
       clear hp
       clear hs sl
       generalize l[k].n = x at *
       go_wp2_with (go_at_fn g; go_must (refine CM.out.mono ?_; rintro e w6 ⟨rfl, hg6⟩; (have HG6 := Lib.hid hg6); clear hg6))
       go_roundw
       case rel =>
         refine ⟨k + 1, by omega, by go_num, Lib.hid ⟨HG.out.trans HG6.out, fun j hj hjk => ?_⟩⟩
         by_cases e : j = k
         · subst e; exact HP.out
         · exact HNO.out j hj (by omega)
       case measure => simp [intOf]; omega
     · rw [hp] at CM
       have HP := Lib.hid hp
       clear hp
       clear hs sl
       generalize l[k].n = x at *
       go_wp2_with (go_at_fn g; go_must (refine CM.out.mono ?_; rintro e w6 ⟨rfl, hg6⟩; (have HG6 := Lib.hid hg6); clear hg6))
       go_ret
       exact ⟨ret_int (idxP_hit e1 HP.out (fun j hj => HNO.out j (by omega) hj)).symm, HG.out.trans HG6.out⟩
   · obtain rfl : k = n := by omega
     have HG := Lib.hid hg
     have HNO := Lib.hid hno
     clear hg hno HR
     go_wp2
     go_ret
     exact ⟨ret_int (idxP_miss (fun j hj => HNO.out j hj (by have := LN.out; omega))).symm, HG.out⟩
theorem contVal_any (l : List V) (p : V → Bool) (g : Nat) (cb : Array Value) (eg : ∀ args w, (callFunc g args).run Tryz.prog w = .ok (.enter g args) w) (s : Value) (w : World) (h : KB w w.heap.size s l)
   (hc : ∀ v ∈ l, ∀ (s' : Value) (W : World), Bw w W → KB W W.heap.size s' v.ks → Calls Tryz.prog g (#[.agg #[.int .i64 v.n, s']] ++ cb) W (BoolPost W (p v))) :
   Calls Tryz.prog 174 #[s, .func (.func g) #[] cb] w (BoolPost w (l.any p)) := by
 have CI := Lib.hid (idxVal_any l p g cb eg s w h hc)
 rw [← idxP_nonneg]
 obtain ⟨A, n, c, rfl, _, _, _⟩ := h.form
 clear hc h
 generalize idxP p l = r at *
 go_enter Tryz.func174, Tryz.ntmps174
 go_wp2_with (go_at_call 243; go_must (refine CI.out.mono ?_; rintro e w6 ⟨rfl, hg6⟩))
 go_ret
 exact ⟨rfl, hg6⟩

theorem idxTyp_any (l : List T) (p : T → Bool) (g : Nat) (cb : Array Value) (eg : ∀ args w, (callFunc g args).run Tryz.prog w = .ok (.enter g args) w) (s : Value) (w : World) (h : PB w w.heap.size s l)
   (hc : ∀ v ∈ l, ∀ (r' p' : Value) (W : World), Bw w W → TB W W.heap.size r' p' v → Calls Tryz.prog g (#[.agg #[.int .i64 v.kind, .int .i64 v.size, r', p']] ++ cb) W (BoolPost W (p v))) :
   Calls Tryz.prog 294 #[s, .func (.func g) #[] cb] w (NumPost w (idxP p l)) := by
 obtain ⟨A, n, c, rfl, ln, bn, mn⟩ := h.form
 unfold maxLen at mn
 have HC := Lib.hid hc
 have H := Lib.hid h
 have LN := Lib.hid ln
 clear hc h ln
 go_enter Tryz.func294, Tryz.ntmps294
 go_wp2
 go_loopw [5, 8] (fun _ i wr => ∃ k : Nat, k ≤ n ∧ i = .int .i64 k ∧ Hid (Bw w wr ∧ ∀ j (hj : j < l.length), j < k → p l[j] = false)) (fun _ i _ => n - (intOf i).toNat)
 case atStart => exact ⟨0, by omega, rfl, Lib.hid ⟨Bw.refl _, fun j _ h => absurd h (by omega)⟩⟩
 case round =>
   obtain ⟨k, hk, rfl, HR⟩ := hrel
   obtain ⟨hg, hno⟩ := HR.out
   by_cases hlt : k < n
   · have e1 : k < l.length := by rw [LN.out]; exact hlt
     obtain ⟨ad, sA, sn, sc, tA, tn, tc, rfl, hb, q0, q1, q2, q3, hs⟩ := (H.out.bw hg).at_ e1
     have CM : Hid (Calls Tryz.prog g (#[.agg #[.int .i64 l[k].kind, .int .i64 l[k].size, .slice sA sn sc, .slice tA tn tc]] ++ cb) wr (BoolPost wr (p l[k]))) := Lib.hid (HC.out _ (List.getElem_mem e1) _ _ _ hg hs)
     have HG := Lib.hid hg
     have HNO := Lib.hid hno
     clear hg hno HR
     rcases hp : p l[k] with _ | _
     · rw [hp] at CM
       have HP := Lib.hid hp
       clear hp
       clear hs
       generalize l[k].kind = x at *
       generalize l[k].size = y at *
       go_wp2_with (go_at_fn g; go_must (refine CM.out.mono ?_; rintro e w6 ⟨rfl, hg6⟩; (have HG6 := Lib.hid hg6); clear hg6))
       go_roundw
       case rel =>
         refine ⟨k + 1, by omega, by go_num, Lib.hid ⟨HG.out.trans HG6.out, fun j hj hjk => ?_⟩⟩
         by_cases e : j = k
         · subst e; exact HP.out
         · exact HNO.out j hj (by omega)
       case measure => simp [intOf]; omega
     · rw [hp] at CM
       have HP := Lib.hid hp
       clear hp
       clear hs
       generalize l[k].kind = x at *
       generalize l[k].size = y at *
       go_wp2_with (go_at_fn g; go_must (refine CM.out.mono ?_; rintro e w6 ⟨rfl, hg6⟩; (have HG6 := Lib.hid hg6); clear hg6))
       go_ret
       exact ⟨ret_int (idxP_hit e1 HP.out (fun j hj => HNO.out j (by omega) hj)).symm, HG.out.trans HG6.out⟩
   · obtain rfl : k = n := by omega
     have HG := Lib.hid hg
     have HNO := Lib.hid hno
     clear hg hno HR
     go_wp2
     go_ret
     exact ⟨ret_int (idxP_miss (fun j hj => HNO.out j hj (by have := LN.out; omega))).symm, HG.out⟩
theorem contTyp_any (l : List T) (p : T → Bool) (g : Nat) (cb : Array Value) (eg : ∀ args w, (callFunc g args).run Tryz.prog w = .ok (.enter g args) w) (s : Value) (w : World) (h : PB w w.heap.size s l)
   (hc : ∀ v ∈ l, ∀ (r' p' : Value) (W : World), Bw w W → TB W W.heap.size r' p' v → Calls Tryz.prog g (#[.agg #[.int .i64 v.kind, .int .i64 v.size, r', p']] ++ cb) W (BoolPost W (p v))) :
   Calls Tryz.prog 237 #[s, .func (.func g) #[] cb] w (BoolPost w (l.any p)) := by
 have CI := Lib.hid (idxTyp_any l p g cb eg s w h hc)
 rw [← idxP_nonneg]
 obtain ⟨A, n, c, rfl, _, _, _⟩ := h.form
 clear hc h
 generalize idxP p l = r at *
 go_enter Tryz.func237, Tryz.ntmps237
 go_wp2_with (go_at_call 294; go_must (refine CI.out.mono ?_; rintro e w6 ⟨rfl, hg6⟩))
 go_ret
 exact ⟨rfl, hg6⟩

theorem idxInt_any (l : List Int) (p : Int → Bool) (g : Nat) (cb : Array Value) (eg : ∀ args w, (callFunc g args).run Tryz.prog w = .ok (.enter g args) w) (s : Value) (w : World) (h : IB w w.heap.size s l)
   (hc : ∀ v ∈ l, ∀ (u : Nat) (W : World), Bw w W → True → Calls Tryz.prog g (#[.int .i64 v] ++ cb) W (BoolPost W (p v))) :
   Calls Tryz.prog 220 #[s, .func (.func g) #[] cb] w (NumPost w (idxP p l)) := by
 obtain ⟨A, n, c, rfl, ln, bn, mn⟩ := h.form
 unfold maxLen at mn
 have HC := Lib.hid hc
 have H := Lib.hid h
 have LN := Lib.hid ln
 clear hc h ln
 go_enter Tryz.func220, Tryz.ntmps220
 go_wp2
 go_loopw [5, 8] (fun _ i wr => ∃ k : Nat, k ≤ n ∧ i = .int .i64 k ∧ Hid (Bw w wr ∧ ∀ j (hj : j < l.length), j < k → p l[j] = false)) (fun _ i _ => n - (intOf i).toNat)
 case atStart => exact ⟨0, by omega, rfl, Lib.hid ⟨Bw.refl _, fun j _ h => absurd h (by omega)⟩⟩
 case round =>
   obtain ⟨k, hk, rfl, HR⟩ := hrel
   obtain ⟨hg, hno⟩ := HR.out
   by_cases hlt : k < n
   · have e1 : k < l.length := by rw [LN.out]; exact hlt
     obtain ⟨ad, rfl, hb, q0⟩ := (H.out.bw hg).at_ e1
     have CM : Hid (Calls Tryz.prog g (#[.int .i64 l[k]] ++ cb) wr (BoolPost wr (p l[k]))) := Lib.hid (HC.out _ (List.getElem_mem e1) 0 _ hg trivial)
     have HG := Lib.hid hg
     have HNO := Lib.hid hno
     clear hg hno HR
     rcases hp : p l[k] with _ | _
     · rw [hp] at CM
       have HP := Lib.hid hp
       clear hp
       generalize l[k] = x at q0 CM
       go_wp2_with (go_at_fn g; go_must (refine CM.out.mono ?_; rintro e w6 ⟨rfl, hg6⟩; (have HG6 := Lib.hid hg6); clear hg6))
       go_roundw
       case rel =>
         refine ⟨k + 1, by omega, by go_num, Lib.hid ⟨HG.out.trans HG6.out, fun j hj hjk => ?_⟩⟩
         by_cases e : j = k
         · subst e; exact HP.out
         · exact HNO.out j hj (by omega)
       case measure => simp [intOf]; omega
     · rw [hp] at CM
       have HP := Lib.hid hp
       clear hp
       generalize l[k] = x at q0 CM
       go_wp2_with (go_at_fn g; go_must (refine CM.out.mono ?_; rintro e w6 ⟨rfl, hg6⟩; (have HG6 := Lib.hid hg6); clear hg6))
       go_ret
       exact ⟨ret_int (idxP_hit e1 HP.out (fun j hj => HNO.out j (by omega) hj)).symm, HG.out.trans HG6.out⟩
   · obtain rfl : k = n := by omega
     have HG := Lib.hid hg
     have HNO := Lib.hid hno
     clear hg hno HR
     go_wp2
     go_ret
     exact ⟨ret_int (idxP_miss (fun j hj => HNO.out j hj (by have := LN.out; omega))).symm, HG.out⟩
theorem contInt_any (l : List Int) (p : Int → Bool) (g : Nat) (cb : Array Value) (eg : ∀ args w, (callFunc g args).run Tryz.prog w = .ok (.enter g args) w) (s : Value) (w : World) (h : IB w w.heap.size s l)
   (hc : ∀ v ∈ l, ∀ (u : Nat) (W : World), Bw w W → True → Calls Tryz.prog g (#[.int .i64 v] ++ cb) W (BoolPost W (p v))) :
   Calls Tryz.prog 149 #[s, .func (.func g) #[] cb] w (BoolPost w (l.any p)) := by
 have CI := Lib.hid (idxInt_any l p g cb eg s w h hc)
 rw [← idxP_nonneg]
 obtain ⟨A, n, c, rfl, _, _, _⟩ := h.form
 clear hc h
 generalize idxP p l = r at *
 go_enter Tryz.func149, Tryz.ntmps149
 go_wp2_with (go_at_call 220; go_must (refine CI.out.mono ?_; rintro e w6 ⟨rfl, hg6⟩))
 go_ret
 exact ⟨rfl, hg6⟩
def cntI (v : V) (most : Int) : Int := min (v.size : Int) (most + 1)
theorem cnt_stop {v : V} {most r : Int} {k : Nat} (h : r = min (1 + (sizeL (v.ks.take k) : Int)) (most + 1)) (h1 : most < r) : r = cntI v most := by
 have := sizeL_take_le v.ks k
 have := v.size_eq
 unfold cntI; omega
theorem cnt_end {v : V} {most r : Int} {k : Nat} (h : r = min (1 + (sizeL (v.ks.take k) : Int)) (most + 1)) (h1 : v.ks.length = k) : r = cntI v most := by
 rw [List.take_of_length_le (by omega)] at h
 have := v.size_eq
 unfold cntI; omega
theorem cnt_next {v : V} {most r : Int} {k : Nat} (hk : k < v.ks.length) (h : r = min (1 + (sizeL (v.ks.take k) : Int)) (most + 1)) (h1 : r ≤ most) : r + cntI v.ks[k] (most - r) = min (1 + (sizeL (v.ks.take (k + 1)) : Int)) (most + 1) := by
 rw [sizeL_snoc hk]
 unfold cntI; omega

theorem ocnt_step (v : V) (ih : ∀ k ∈ v.ks, ∀ (s : Value) (W : World) (most : Int), 0 ≤ most → most ≤ 1000 → KB W W.heap.size s k.ks → Calls Tryz.prog 168 #[aggV k s, .int .i64 most] W (NumPost W (cntI k most)))
   (s : Value) (w : World) (most : Int) (h0 : 0 ≤ most) (h9 : most ≤ 1000) (h : KB w w.heap.size s v.ks) : Calls Tryz.prog 168 #[.agg #[.int .i64 v.n, s], .int .i64 most] w (NumPost w (cntI v most)) := by
 obtain ⟨A, n, c, rfl, ln, bn, mn⟩ := h.form
 unfold maxLen at mn
 have IH := Lib.hid ih
 have H := Lib.hid h
 have LN := Lib.hid ln
 clear ih h ln
 generalize v.n = vn at *
 go_enter Tryz.func168, Tryz.ntmps168
 go_wp2
 go_loopw [5, 11] (fun s5 i wr => ∃ (k : Nat) (r : Int), k ≤ n ∧ i = .int .i64 k ∧ s5 = .int .i64 r ∧ 1 ≤ r ∧ r ≤ most + 1 ∧ Hid (Bw w wr ∧ r = min (1 + (sizeL (v.ks.take k) : Int)) (most + 1))) (fun _ i _ => n - (intOf i).toNat)
 case atStart => exact ⟨0, 1, by omega, rfl, rfl, by omega, by omega, Lib.hid ⟨(Bw.refl _).alloc _, by simp [sizeL]; omega⟩⟩
 case round =>
   obtain ⟨k, r, hk, rfl, rfl, hr1, hr2, HR⟩ := hrel
   obtain ⟨hg, hr⟩ := HR.out

   have HQ := Lib.hid hr
   clear hr
   by_cases hlt : k < n
   · have e1 : k < v.ks.length := by rw [LN.out]; exact hlt
     obtain ⟨ad, sA, sn, sc, rfl, hb, q0, q1, sl, hs⟩ := (H.out.bw hg).at_ e1
     have HG := Lib.hid hg
     clear hg HR
     by_cases hm : most < r
     · have d1 : decide (most < r) = true := by simpa using hm
       have d2 : decide (r ≤ most) = false := by simpa using hm
       have HF : Hid (r = cntI v most) := Lib.hid (cnt_stop HQ.out hm)
       clear hs sl
       generalize v.ks[k].n = x at *
       go_wp2
       go_ret
       exact ⟨ret_int HF.out, HG.out.alloc _⟩
     · have d1 : decide (most < r) = false := by simpa using hm
       have d2 : decide (r ≤ most) = true := by simp; omega
       have HF : Hid (r + cntI v.ks[k] (most - r) = min (1 + (sizeL (v.ks.take (k + 1)) : Int)) (most + 1)) := Lib.hid (cnt_next e1 HQ.out (by omega))
       have CM : Hid (∀ o, Calls Tryz.prog 168 #[.agg #[.int .i64 v.ks[k].n, .slice sA sn sc], .int .i64 (most - r)] (wr.alloc o) (NumPost (wr.alloc o) (cntI v.ks[k] (most - r)))) := Lib.hid (fun o => IH.out _ (List.getElem_mem e1) _ _ _ (by omega) (by omega) (hs.bw ((Bw.refl _).alloc _)))
       have hq1 : 1 ≤ cntI v.ks[k] (most - r) := by have := v.ks[k].size_pos; unfold cntI; omega
       have hq2 : cntI v.ks[k] (most - r) ≤ most - r + 1 := by unfold cntI; omega
       clear hs sl
       generalize cntI v.ks[k] (most - r) = q at *
       generalize v.ks[k].n = x at *
       go_wp2_with (go_at_call 168; go_must (refine (CM.out _).mono ?_; rintro e w6 ⟨rfl, hg6⟩; (have HG6 := Lib.hid hg6); clear hg6))
       go_roundw
       case rel => exact ⟨k + 1, r + q, by omega, by go_num, by go_num, by omega, by omega, Lib.hid ⟨HG.out.trans (((Bw.refl _).alloc _).trans HG6.out), HF.out⟩⟩
       case measure => simp [intOf]; omega
   · obtain rfl : k = n := by omega
     have HF : Hid (r = cntI v most) := Lib.hid (cnt_end HQ.out LN.out)
     have HG := Lib.hid hg
     clear hg HR
     go_wp2
     go_ret
     exact ⟨ret_int HF.out, HG.out⟩
theorem ocnt_any (v : V) : ∀ (s : Value) (w : World) (most : Int), 0 ≤ most → most ≤ 1000 → KB w w.heap.size s v.ks → Calls Tryz.prog 168 #[aggV v s, .int .i64 most] w (NumPost w (cntI v most)) := by
 induction v using V.ind with
 | h n ks ih => exact fun s w most h0 h9 h => ocnt_step (.mk n ks) ih s w most h0 h9 h

theorem r6sz_step (v : V) (ih : ∀ k ∈ v.ks, ∀ (s : Value) (W : World) (most : Int), 0 ≤ most → most ≤ 1000 → KB W W.heap.size s k.ks → Calls Tryz.prog 74 #[aggV k s, .int .i64 most] W (NumPost W (cntI k most)))
   (s : Value) (w : World) (most : Int) (h0 : 0 ≤ most) (h9 : most ≤ 1000) (h : KB w w.heap.size s v.ks) : Calls Tryz.prog 74 #[.agg #[.int .i64 v.n, s], .int .i64 most] w (NumPost w (cntI v most)) := by
 obtain ⟨A, n, c, rfl, ln, bn, mn⟩ := h.form
 unfold maxLen at mn
 have IH := Lib.hid ih
 have H := Lib.hid h
 have LN := Lib.hid ln
 clear ih h ln
 generalize v.n = vn at *
 go_enter Tryz.func74, Tryz.ntmps74
 go_wp2
 go_loopw [5, 6] (fun s5 i wr => ∃ (k : Nat) (r : Int), k ≤ n ∧ i = .int .i64 k ∧ s5 = .int .i64 r ∧ 1 ≤ r ∧ r ≤ most + 1 ∧ Hid (Bw w wr ∧ r = min (1 + (sizeL (v.ks.take k) : Int)) (most + 1) ∧ Blk wr w.heap.size 31 #[.int .i64 vn, .slice A n c])) (fun _ i _ => n - (intOf i).toNat)
 case atStart => exact ⟨0, 1, by omega, rfl, rfl, by omega, by omega, Lib.hid ⟨(Bw.refl _).alloc _, by simp [sizeL]; omega, Blk.new _ _ _⟩⟩
 case round =>
   obtain ⟨k, r, hk, rfl, rfl, hr1, hr2, HR⟩ := hrel
   obtain ⟨hg, hr, hbk⟩ := HR.out
   have z0 := hbk.cell 0
   have z1 := hbk.cell 1
   have HBK := Lib.hid hbk
   clear hbk
   have HQ := Lib.hid hr
   clear hr
   by_cases hlt : k < n
   · have e1 : k < v.ks.length := by rw [LN.out]; exact hlt
     obtain ⟨ad, sA, sn, sc, rfl, hb, q0, q1, sl, hs⟩ := (H.out.bw hg).at_ e1
     have HG := Lib.hid hg
     clear hg HR
     by_cases hm : most < r
     · have d1 : decide (most < r) = true := by simpa using hm
       have d2 : decide (r ≤ most) = false := by simpa using hm
       have HF : Hid (r = cntI v most) := Lib.hid (cnt_stop HQ.out hm)
       clear hs sl
       generalize v.ks[k].n = x at *
       go_wp2
       go_ret
       exact ⟨ret_int HF.out, HG.out⟩
     · have d1 : decide (most < r) = false := by simpa using hm
       have d2 : decide (r ≤ most) = true := by simp; omega
       have HF : Hid (r + cntI v.ks[k] (most - r) = min (1 + (sizeL (v.ks.take (k + 1)) : Int)) (most + 1)) := Lib.hid (cnt_next e1 HQ.out (by omega))
       have CM : Hid (Calls Tryz.prog 74 #[.agg #[.int .i64 v.ks[k].n, .slice sA sn sc], .int .i64 (most - r)] wr (NumPost wr (cntI v.ks[k] (most - r)))) := Lib.hid (IH.out _ (List.getElem_mem e1) _ _ _ (by omega) (by omega) (hs.bw (Bw.refl _)))
       have hq1 : 1 ≤ cntI v.ks[k] (most - r) := by have := v.ks[k].size_pos; unfold cntI; omega
       have hq2 : cntI v.ks[k] (most - r) ≤ most - r + 1 := by unfold cntI; omega
       clear hs sl
       generalize cntI v.ks[k] (most - r) = q at *
       generalize v.ks[k].n = x at *
       go_wp2_with (go_at_call 74; go_must (refine (CM.out).mono ?_; rintro e w6 ⟨rfl, hg6⟩; (have HG6 := Lib.hid hg6); clear hg6))
       go_roundw
       case rel => exact ⟨k + 1, r + q, by omega, by go_num, by go_num, by omega, by omega, Lib.hid ⟨HG.out.trans HG6.out, HF.out, HBK.out.below HG6.out HBK.out.lt⟩⟩
       case measure => simp [intOf]; omega
   · obtain rfl : k = n := by omega
     have HF : Hid (r = cntI v most) := Lib.hid (cnt_end HQ.out LN.out)
     have HG := Lib.hid hg
     clear hg HR
     go_wp2
     go_ret
     exact ⟨ret_int HF.out, HG.out⟩
theorem r6sz_any (v : V) : ∀ (s : Value) (w : World) (most : Int), 0 ≤ most → most ≤ 1000 → KB w w.heap.size s v.ks → Calls Tryz.prog 74 #[aggV v s, .int .i64 most] w (NumPost w (cntI v most)) := by
 induction v using V.ind with
 | h n ks ih => exact fun s w most h0 h9 h => r6sz_step (.mk n ks) ih s w most h0 h9 h
theorem osize_any (v : V) (s : Value) (w : World) (h : KB w w.heap.size s v.ks) : Calls Tryz.prog 102 #[.agg #[.int .i64 v.n, s]] w (NumPost w (min (v.size : Int) 129)) := by
 obtain ⟨A, n, c, rfl, _, _, _⟩ := h.form
 have HC : Hid (∀ o, Calls Tryz.prog 168 #[.agg #[.int .i64 v.n, .slice A n c], .int .i64 128] (w.alloc o) (NumPost (w.alloc o) (cntI v 128))) := Lib.hid (fun o => ocnt_any v _ (w.alloc o) 128 (by omega) (by omega) (h.bw ((Bw.refl _).alloc _)))
 have HE : Hid (min (cntI v 128) 129 = min (v.size : Int) 129) := Lib.hid (by unfold cntI; omega)
 have h1 : cntI v 128 ≤ 129 := by unfold cntI; omega
 have h2 : 1 ≤ cntI v 128 := by have := v.size_pos; unfold cntI; omega
 clear h
 generalize cntI v 128 = q at *
 generalize v.n = x at *
 go_enter Tryz.func102, Tryz.ntmps102
 go_wp2_with (go_at_call 168; go_must (refine (HC.out _).mono ?_; rintro e w6 ⟨rfl, hg6⟩; (have HG6 := Lib.hid hg6); clear hg6))
 go_ret
 exact ⟨ret_int (by rw [← HE.out]), ((Bw.refl _).alloc _).trans HG6.out⟩
end
end Go.Proofs.YthhbkabdhkdafaaGreat
