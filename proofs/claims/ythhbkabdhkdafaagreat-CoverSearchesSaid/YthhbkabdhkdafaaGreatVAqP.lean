/- Part of a proof of coverSearches_holds. -/
import Derived.Test.YthhbkabdhkdafaaGreatVAkP
import Derived.Lib.SliceRun
set_option linter.unusedSimpArgs false
set_option linter.unusedVariables false
set_option maxRecDepth 100000
set_option maxHeartbeats 16000000
namespace Go.Proofs.YthhbkabdhkdafaaGreat
section
open Go.RowKit
def DelPost (w : World) (L : Nat) (s : Value) (qs : List VS) (e : Ending) (w' : World) : Prop := ∃ s', e = .returned s' ∧ MRow w' L s' qs ∧ w.grownBy w' s.ownBlock ∧ s'.ownBlock = s.ownBlock
theorem gb_any {a b : World} (h : Bw a b) (row : Option Nat) : a.grownBy b row := ⟨h.os, h.tape, h.output, h.size, fun k hk _ => h.block k hk⟩
theorem gb_trans {a b c : World} {row : Option Nat} (h : a.grownBy b row) (k : b.grownBy c row) : a.grownBy c row :=
 ⟨k.os.trans h.os, k.tape.trans h.tape, k.output.trans h.output, Nat.le_trans h.size k.size, fun j hj hr => (k.block j (Nat.lt_of_lt_of_le hj h.size) hr).trans (h.block j hj hr)⟩
theorem idxP_neg {α : Type} {p : α → Bool} {l : List α} (h : idxP p l = -1) : l.filter (fun x => !p x) = l := by
 unfold idxP at h
 split at h
 · have : (0 : Int) ≤ ((l.findIdx p : Nat) : Int) := Int.natCast_nonneg _
   omega
 · rename_i h0
   rw [List.filter_eq_self]
   intro x hx
   simp only [Bool.not_eq_true, List.any_eq_false] at h0
   simpa using h0 x hx
theorem idxP_pos {α : Type} {p : α → Bool} {l : List α} (h : idxP p l ≠ -1) : ∃ k, ∃ hk : k < l.length, idxP p l = (k : Int) ∧ p l[k] = true ∧ (l.take k).filter (fun x => !p x) = l.take k := by
 unfold idxP at h ⊢
 split at h
 · rename_i h0
   rw [if_pos h0]
   have hl := List.findIdx_lt_length.2 (List.any_eq_true.1 h0)
   refine ⟨_, hl, rfl, List.findIdx_getElem, ?_⟩
   rw [List.filter_eq_self]
   intro x hx
   obtain ⟨j, hj, rfl⟩ := List.getElem_of_mem hx
   have hj2 : j < l.findIdx p := by simp at hj; omega
   have := List.not_of_lt_findIdx hj2
   simpa using this
 · omega
structure DelI (ps pr : List VS) (p : V → Bool) (i j : Nat) : Prop where
 len : pr.length = ps.length
 ij : i < j
 jn : j ≤ ps.length
 tk : pr.take i = (ps.take j).filter (fun x => !p x.1)
 dr : pr.drop j = ps.drop j
 sub : ∀ x ∈ pr, x ∈ ps
section
variable {ps pr : List VS} {p : V → Bool} {i j : Nat}
theorem DelI.get (h : DelI ps pr p i j) (hj : j < ps.length) : pr[j]'(by rw [h.len]; exact hj) = ps[j] := by
 have h1 := h.dr
 rw [List.drop_eq_getElem_cons (by rw [h.len]; exact hj), List.drop_eq_getElem_cons hj] at h1
 exact (List.cons.inj h1).1
theorem DelI.skip (h : DelI ps pr p i j) (hj : j < ps.length) (hp : p ps[j].1 = true) : DelI ps pr p i (j + 1) := by
 refine ⟨h.len, by have := h.ij; omega, hj, ?_, ?_, h.sub⟩
 · rw [List.take_succ_eq_append_getElem hj, List.filter_append, ← h.tk]
   simp [hp]
 · have h1 := congrArg (List.drop 1) h.dr
   rwa [List.drop_drop, List.drop_drop] at h1
theorem DelI.keep (h : DelI ps pr p i j) (hj : j < ps.length) (hp : p ps[j].1 = false) : DelI ps (pr.set i ps[j]) p (i + 1) (j + 1) := by
 have hi : i < pr.length := by rw [h.len]; have := h.ij; omega
 refine ⟨by rw [List.length_set]; exact h.len, by have := h.ij; omega, hj, ?_, ?_, fun x hx => ?_⟩
 · rw [List.take_succ_eq_append_getElem hj, List.filter_append, ← h.tk, List.take_succ_eq_append_getElem (by rw [List.length_set]; exact hi)]
   rw [List.take_set_of_le (by omega)]
   simp [hp]
 · rw [List.drop_set_of_lt (by have := h.ij; omega)]
   have h1 := congrArg (List.drop 1) h.dr
   rwa [List.drop_drop, List.drop_drop] at h1
 · rcases List.mem_or_eq_of_mem_set hx with hx | rfl
   · exact h.sub x hx
   · exact List.getElem_mem _
theorem DelI.start {k : Nat} (hk : k < ps.length) (h : (ps.take k).filter (fun x => !p x.1) = ps.take k) (hp : p ps[k].1 = true) : DelI ps ps p k (k + 1) :=
 ⟨rfl, by omega, hk, by rw [List.take_succ_eq_append_getElem hk, List.filter_append, h]; simp [hp], rfl, fun x hx => hx⟩
theorem DelI.done (h : DelI ps pr p i ps.length) : pr.take i = ps.filter (fun x => !p x.1) := by
 have := h.tk; rwa [List.take_of_length_le (Nat.le_refl _)] at this
end
theorem own_clear {w : World} {L g i n c : Nat} {ps : List VS} (h : MRow w L (.slice (some ⟨g, 0, none⟩) n c) ps) (hn : ps.length = n) (hL : L ≤ w.heap.size) (hi : i < n) (ty : TypeId) :
   (Builtin.clear_ #[29] ty #[.slice (some ⟨g, i * 2, none⟩) (n - i) (c - i)]).run Tryz.prog w = .ok (.tuple #[]) (w.setCells g (i * 2) (pCells (List.replicate (n - i) zVS))) ∧
   MRow (w.setCells g (i * 2) (pCells (List.replicate (n - i) zVS))) L (.slice (some ⟨g, 0, none⟩) i c) (ps.take i) ∧ w.grownBy (w.setCells g (i * 2) (pCells (List.replicate (n - i) zVS))) (some g) := by
 have h1 : ∀ v ∈ pCells (List.replicate (n - i) zVS), v.oneCell' = true := by
   intro v hv
   simp only [pCells, List.mem_flatMap] at hv
   obtain ⟨p, hp, hv⟩ := hv
   obtain rfl := (List.mem_replicate.1 hp).2
   simp [zVS] at hv
   rcases hv with rfl | rfl <;> rfl
 have hl : (pCells (List.replicate (n - i) zVS)).length = (n - i) * 2 := by rw [pCells_length]; simp
 have hat : ∀ j, i * 2 ≤ j → j < n * 2 → w.cell? ⟨g, j, none⟩ = (pCells ps)[j]? := fun j _ hj => by
   subst hn
   exact h.own.cellAt j hj
 have hst := run_storeCells_cells (P := Tryz.prog) g (i * 2) (pCells (List.replicate (n - i) zVS)) 0 w (fun j hj => by
   rw [hl] at hj
   rw [Nat.add_zero, hat (i * 2 + j) (by omega) (by omega), List.getElem?_eq_getElem (by rw [pCells_length, hn]; omega)]; rfl) (fun j hj => by subst hn; exact h.own.frozenAt _) h1
 rw [Nat.add_zero] at hst
 have hgr : ∀ (vs : List Value) (o : Nat) (W : World), w.grownBy W (some g) → w.grownBy (W.setCells g o vs) (some g) := by
   intro vs
   induction vs with
   | nil => intro o W hW; exact hW
   | cons v r ih => intro o W hW; exact ih (o + 1) _ (grownBy_setCell (p := ⟨g, o, none⟩) hW (.inl rfl) v)
 have hG := hgr (pCells (List.replicate (n - i) zVS)) (i * 2) w (World.grownBy.refl _ _)
 have hown : ∀ (vs : List Value) (o : Nat) (W : World) (xs : List Value), W.ownsRow L 31 2 (.slice (some ⟨g, 0, none⟩) n c) n xs → ∃ ys, (W.setCells g o vs).ownsRow L 31 2 (.slice (some ⟨g, 0, none⟩) n c) n ys ∧ ∀ j, j < o → ys[j]? = xs[j]? := by
   intro vs
   induction vs with
   | nil => intro o W xs hW; exact ⟨xs, hW, fun _ _ => rfl⟩
   | cons v r ih =>
     intro o W xs hW
     obtain ⟨ys, h2, h3⟩ := ih (o + 1) _ _ (hW.stored o v).1
     exact ⟨ys, h2, fun j hj => by rw [h3 j (by omega), List.getElem?_set_ne (by omega)]⟩
 have h0 := h.own
 rw [hn] at h0
 obtain ⟨ys, h2, h3⟩ := hown (pCells (List.replicate (n - i) zVS)) (i * 2) w _ h0
 refine ⟨?_, ?_, hG⟩
 · obtain ⟨m, hm⟩ : ∃ m, n - i = m + 1 := ⟨n - i - 1, by omega⟩
   rw [hm] at hst ⊢
   have hu : Tryz.prog.underlying 29 = some (.slice 31) := Tryz.underlying29
   simp [Builtin.clear_, run_underlying hu, zeroVal, zcells, hst]
 · refine MRow.turn (A := w) (ps := ps) h hG hL ?_ (fun p hp => .inl (List.mem_of_mem_take hp))
   have hli : (ps.take i).length = i := by simp; omega
   rw [hli]
   have e : ys.take (i * 2) = pCells (ps.take i) := by
     rw [← pCells_take]
     apply List.ext_getElem?
     intro j
     by_cases hj : j < i * 2
     · rw [List.getElem?_take_of_lt hj, List.getElem?_take_of_lt hj, h3 j hj]
     · rw [List.getElem?_eq_none (by simp; omega), List.getElem?_eq_none (by simp; omega)]
   rw [← e]
   refine ⟨by rw [List.length_take, h2.1]; omega, ?_⟩
   rcases h2.2 with ⟨e, _⟩ | ⟨g', cap, cur, e, h3, h4, h5, h6, h7, h8⟩
   · cases e
   · injection e with e1 e2 e3
     injection e1 with e1
     injection e1 with e1
     subst e1 e3
     refine .inr ⟨g, _, cur, rfl, h3, h4, by omega, h6, h7, ?_⟩
     rw [← h8, List.take_take]
     congr 1; omega

theorem cells_of_box {W w7 : World} {L n c i : Nat} {ad : Addr} {pr : List VS} {x : Int} {s : Value} (h : MRow W L (.slice (some ad) n c) pr) (hn : pr.length = n) (hi : i < n) (hL : L ≤ W.heap.size) (hg : Bw (W.alloc (.cells #[.int .i64 x, s] 31)) w7) :
   w7.cell? ⟨W.heap.size, 0, none⟩ = some (.int .i64 x) ∧ w7.cell? ⟨W.heap.size, 1, none⟩ = some s ∧ (∃ u, w7.cell? (ad.add (i * 2)) = some u) ∧ (∃ u, w7.cell? ⟨(ad.add (i * 2)).block, (ad.add (i * 2)).off + 1, none⟩ = some u) ∧
   w7.frozen? (ad.add (i * 2)) = false ∧ w7.frozen? ⟨(ad.add (i * 2)).block, (ad.add (i * 2)).off + 1, none⟩ = false ∧ ad.block < w7.heap.size ∧ W.heap.size < w7.heap.size ∧ (∃ u, ∀ v, (w7.setCell (ad.add (i * 2)) v).cell? ⟨(ad.add (i * 2)).block, (ad.add (i * 2)).off + 1, none⟩ = some u) := by
 have hb : Bw W w7 := ((Bw.refl _).alloc _).trans hg
 have k := (Blk.new W 31 #[.int .i64 x, s]).below hg.b (by simp)
 obtain ⟨-, h2, -, q0, q1, q2, q3⟩ := (h.bw hb hL).cells hn hi
 exact ⟨k.cell 0, k.cell 1, ⟨_, q0⟩, ⟨_, q1⟩, q2, q3, h2, k.lt, _, fun v => (World.cell?_setCell_other _ _ _ _ (fun e => by have := congrArg Addr.off e; simp at this)).trans q1⟩
theorem delVal_any (L : Nat) (ps : List VS) (p : V → Bool) (g : Nat) (cb : Array Value) (eg : ∀ args w, (callFunc g args).run Tryz.prog w = .ok (.enter g args) w) (s : Value) (w : World) (h : MRow w L s ps) (hL : L ≤ w.heap.size)
   (hc : ∀ v ∈ ps.map (·.1), ∀ (s' : Value) (W : World), w.grownBy W s.ownBlock → KB W W.heap.size s' v.ks → Calls Tryz.prog g (#[.agg #[.int .i64 v.n, s']] ++ cb) W (BoolPost W (p v))) :
   Calls Tryz.prog 181 #[s, .func (.func g) #[] cb] w (DelPost w L s (ps.filter fun x => !p x.1)) := by
 obtain ⟨A, c, rfl, bn, mn⟩ := h.form
 unfold maxLen at mn
 have CI := Lib.hid (idxVal_any (ps.map (·.1)) p g cb eg _ w (h.kb hL) (fun v hv s' W hg hk => hc v hv s' W (gb_any hg _) hk))
 have HC := Lib.hid hc
 have H := Lib.hid h
 have HL := Lib.hid hL
 clear hc h hL
 generalize hn : ps.length = n at *
 have HN := Lib.hid hn
 clear hn
 by_cases hi : idxP p (ps.map (·.1)) = -1
 · rw [hi] at CI
   have HF : Hid (ps.filter (fun x => !p x.1) = ps) := Lib.hid (by
     have := idxP_neg hi
     rw [List.filter_map] at this
     have e : (ps.filter (fun x => !p x.1)).length = ps.length := by
       have := congrArg List.length this
       simpa using this
     exact List.filter_eq_self.2 (by have := List.length_filter_eq_length_iff.1 e; exact this))
   rw [HF.out]
   clear hi
   go_enter Tryz.func181, Tryz.ntmps181
   go_wp2_with (go_at_call 243; go_must (refine CI.out.mono ?_; rintro e w6 ⟨rfl, hg6⟩; (have HG6 := Lib.hid hg6); clear hg6))
   go_ret
   exact ⟨_, rfl, H.out.bw HG6.out HL.out, gb_any HG6.out _, rfl⟩
 · obtain ⟨k0, hk0, e0, hp0, ht0⟩ := idxP_pos hi
   rw [e0] at CI
   have hk1 : k0 < n := by have := HN.out; simp at hk0; omega
   have HD : Hid (DelI ps ps p k0 (k0 + 1)) := Lib.hid (DelI.start (by have := HN.out; omega) (by
     rw [← List.map_take, List.filter_map] at ht0
     have e : ((ps.take k0).filter (fun x => !p x.1)).length = (ps.take k0).length := by
       have := congrArg List.length ht0
       rw [List.length_map, List.length_map] at this
       exact this
     exact List.filter_eq_self.2 (List.length_filter_eq_length_iff.1 e)) (by simpa using hp0))
   obtain ⟨gb, eA, -⟩ := H.out.at_ HN.out hk1
   have hk9 : ((k0 : Int) == -1) = false := by simp
   obtain ⟨ad, rfl⟩ : ∃ ad, A = some ad := ⟨_, eA⟩
   clear hi e0 hp0 ht0 hk0 eA
   go_enter Tryz.func181, Tryz.ntmps181
   go_wp2_with (go_at_call 243; go_must (refine CI.out.mono ?_; rintro e w6 ⟨rfl, hg6⟩; (have HG6 := Lib.hid hg6); clear hg6))
   go_loopw [5, 6] (fun s5 s6 wr => ∃ i j : Nat, i < j ∧ j ≤ n ∧ s5 = .int .i64 i ∧ s6 = .int .i64 j ∧ Hid (∃ pr, DelI ps pr p i j ∧ MRow wr L (.slice (some ad) n c) pr ∧ w.grownBy wr (some ad.block))) (fun _ s6 _ => n - (intOf s6).toNat)
   case atStart => exact ⟨k0, k0 + 1, by omega, by omega, rfl, by go_num, Lib.hid ⟨ps, HD.out, H.out.bw HG6.out HL.out, gb_any HG6.out _⟩⟩
   case round =>
     obtain ⟨i, j, hij, hjn, rfl, rfl, HR⟩ := hrel
     obtain ⟨pr, hd, hm, hg⟩ := HR.out
     have hLr : L ≤ wr.heap.size := Nat.le_trans HL.out hg.size
     have hpn : pr.length = n := hd.len.trans HN.out
     by_cases hlt : j < n
     · have hj1 : j < ps.length := by rw [HN.out]; exact hlt
       have hj2 : j < pr.length := by rw [hpn]; exact hlt
       obtain ⟨-, hbl, -, q0, q1, -, -⟩ := hm.cells hpn hlt
       have hi2 : i < n := by omega
       rw [hd.get hj1] at q0 q1
       have hxm : ps[j] ∈ pr := by rw [← hd.get hj1]; exact List.getElem_mem _
       have hkx : KAt wr (· < L) ps[j].2 ps[j].1.ks := hm.kid _ hxm
       have HX := Lib.hid hxm
       obtain ⟨sA, sn, sc, es, _, _, _⟩ := hkx.form
       rw [es] at hkx q1
       have CM : Hid (∀ o, Calls Tryz.prog g (#[.agg #[.int .i64 ps[j].1.n, .slice sA sn sc]] ++ cb) (wr.alloc o) (BoolPost (wr.alloc o) (p ps[j].1))) := Lib.hid (fun o => HC.out _ (List.mem_map_of_mem (List.getElem_mem hj1)) _ _ (gb_trans hg (gb_any ((Bw.refl _).alloc _) _)) (hkx.keep (fun b hb => by simp; omega) (fun q hq => World.cell?_alloc_lt wr _ q (by omega))))
       have HES := Lib.hid es
       have HM := Lib.hid hm
       have HG := Lib.hid hg
       have HD2 := Lib.hid hd
       have HPN := Lib.hid hpn
       clear hkx hm hg hd HR es hxm hpn
       rcases hp : p ps[j].1 with _ | _
       · rw [hp] at CM
         have HP := Lib.hid hp
         clear hp
         generalize hx : ps[j] = x at *
         have HXX := Lib.hid hx
         clear hx
         generalize hxn : x.1.n = xn at *
         have HXN := Lib.hid hxn
         clear hxn
         have CB := Lib.hid (fun w7 (hg7 : Bw (wr.alloc (.cells #[.int .i64 xn, .slice sA sn sc] 31)) w7) => cells_of_box (i := i) HM.out HPN.out hi2 hLr hg7)
         go_wp2_with (go_at_fn g; go_must (refine (CM.out _).mono ?_; rintro e w7 ⟨rfl, hg7⟩; obtain ⟨b0, b1, ⟨u0, k0'⟩, ⟨u1, k1'⟩, r0, r1, r2, r3, ⟨u2, r4⟩⟩ := CB.out w7 hg7; (have HG7 := Lib.hid hg7); clear hg7))
         go_roundw
         case rel =>
           have hb : Bw wr w7 := ((Bw.refl _).alloc _).trans HG7.out
           have h1 := (HM.out.bw hb hLr).put HPN.out (Nat.le_trans hLr hb.size) hi2 HX.out (W := (w7.setCell (ad.add (i * 2)) (.int .i64 xn)).setCell ⟨(ad.add (i * 2)).block, (ad.add (i * 2)).off + 1, none⟩ (.slice sA sn sc)) (by rw [HXN.out, ← HES.out])
           refine ⟨i + 1, j + 1, by omega, by omega, by go_num, by go_num, Lib.hid ⟨pr.set i x, ?_, h1.1, gb_trans HG.out (gb_trans (gb_any hb _) h1.2)⟩⟩
           have := HD2.out.keep hj1 (by rw [HXX.out]; exact HP.out)
           rwa [HXX.out] at this
         case measure => simp [intOf]; omega
       · rw [hp] at CM
         have HP := Lib.hid hp
         clear hp
         generalize ps[j].1.n = x at *
         go_wp2_with (go_at_fn g; go_must (refine (CM.out _).mono ?_; rintro e w7 ⟨rfl, hg7⟩; (have HG7 := Lib.hid hg7); clear hg7))
         go_roundw
         case rel =>
           have hb : Bw wr w7 := ((Bw.refl _).alloc _).trans HG7.out
           exact ⟨i, j + 1, by omega, by omega, rfl, by go_num, Lib.hid ⟨pr, HD2.out.skip hj1 HP.out, HM.out.bw hb hLr, gb_trans HG.out (gb_any hb _)⟩⟩
         case measure => simp [intOf]; omega
     · obtain rfl : j = n := by omega
       have hi2 : i < j := hij
       obtain ⟨-, -, -, -, -, -, -⟩ := hm.cells hpn hi2
       have ead : ad = ⟨ad.block, 0, none⟩ := (hm.cells hpn hi2).2.2.1
       have e1 : ad.add (i * 2) = ⟨ad.block, i * 2, none⟩ := by
         rw [ead]; unfold Addr.add
         by_cases h0 : i * 2 = 0 <;> simp [h0]
       have hm' : MRow wr L (.slice (some ⟨ad.block, 0, none⟩) j c) pr := by rw [← ead]; exact hm
       have hcl := fun ty => (own_clear hm' hpn hLr hi2 ty).1
       obtain ⟨hm2, hg2⟩ := (own_clear hm' hpn hLr hi2 0).2
       rw [← ead] at hm2
       rw [← e1] at hcl
       have hcut : ∀ W, (Instr.slice 29 (.slice (some ad) j c) (some (.int .i64 (i : Int))) none none).run Tryz.prog W = .ok (.slice (some (ad.add (i * 2))) (j - i) (c - i)) W := fun W => by
         rw [cutV_l (some ad) j c i (by omega) W]
         unfold sliced
         rw [if_neg (by omega)]; rfl
       have HM2 := Lib.hid hm2
       have HG2 := Lib.hid (gb_trans hg hg2)
       have HD3 := Lib.hid hd
       clear hm2 hg2 hm hm' hg hd HR ead e1 hpn
       generalize wr.setCells ad.block (i * 2) (pCells (List.replicate (j - i) zVS)) = w9 at *
       go_wp2
       go_ret
       refine ⟨_, rfl, ?_, HG2.out, rfl⟩
       have := HD3.out
       rw [← HN.out] at this
       rw [← this.done]
       exact HM2.out
def FlatT (t : T) : Prop := t.kind = 3 ∧ ∀ p ∈ t.parts, p.kind = 1 ∨ p.kind = 2
def BelSays (t : T) (ok : V → Bool) (f : V → V → Bool) : Prop := ∀ (a b : V), ok a = true → ok b = true → ∀ (rv pv s1 s2 : Value) (W : World), TB W W.heap.size rv pv t → KB W W.heap.size s1 a.ks → KB W W.heap.size s2 b.ks → Calls Tryz.prog 245 #[aggT t rv pv, aggV a s1, aggV b s2] W (BoolPost W (f a b))
theorem boxes3 (w : World) (a0 a1 a2 a3 b0 b1 d0 d1 : Value) : Bw w (((w.alloc (.cells #[a0, a1, a2, a3] 50)).alloc (.cells #[b0, b1] 31)).alloc (.cells #[d0, d1] 31)) ∧ Blk (((w.alloc (.cells #[a0, a1, a2, a3] 50)).alloc (.cells #[b0, b1] 31)).alloc (.cells #[d0, d1] 31)) w.heap.size 50 #[a0, a1, a2, a3] ∧
   Blk (((w.alloc (.cells #[a0, a1, a2, a3] 50)).alloc (.cells #[b0, b1] 31)).alloc (.cells #[d0, d1] 31)) (w.heap.size + 1) 31 #[b0, b1] ∧ Blk (((w.alloc (.cells #[a0, a1, a2, a3] 50)).alloc (.cells #[b0, b1] 31)).alloc (.cells #[d0, d1] 31)) (w.heap.size + 2) 31 #[d0, d1] := by
 obtain ⟨h1, h2, h3⟩ := boxes w a0 a1 a2 a3 b0 b1
 refine ⟨h1.alloc _, h2.alloc _, h3.alloc _, ?_⟩
 have := Blk.new ((w.alloc (.cells #[a0, a1, a2, a3] 50)).alloc (.cells #[b0, b1] 31)) 31 #[d0, d1]
 simpa only [World.size_alloc] using this
theorem obelow_k1 (t : T) (ok : V → Bool) (hk : t.kind = 1) : BelSays t ok (fun a b => decide (a.n ≤ b.n)) := by
 intro a b _ _ rv pv s1 s2 w hT h1 h2
 obtain ⟨A, n, c, rfl, _, _, _⟩ := h1.form
 obtain ⟨B, m, e, rfl, _, _, _⟩ := h2.form
 obtain ⟨A1, rn, c1, rfl, _, _⟩ := hT.1.form'
 obtain ⟨A2, pn, c2, rfl, _, _, _⟩ := hT.2.form
 show Calls _ _ _ _ (BoolPost w (decide (a.n ≤ b.n)))
 unfold aggT aggV
 rw [hk]
 have HB := Lib.hid (boxes3 w (.int .i64 1) (.int .i64 t.size) (.slice A1 rn c1) (.slice A2 pn c2) (.int .i64 a.n) (.slice A n c) (.int .i64 b.n) (.slice B m e)).1
 clear h1 h2 hT hk
 generalize a.n = x at *
 generalize b.n = y at *
 generalize t.size = z at *
 go_enter Tryz.func245, Tryz.ntmps245
 go_wp2
 go_ret
 exact ⟨rfl, HB.out⟩
theorem obelow_k2 (t : T) (ok : V → Bool) (hk : t.kind = 2) : BelSays t ok (fun a b => a.n == b.n) := by
 intro a b _ _ rv pv s1 s2 w hT h1 h2
 obtain ⟨A, n, c, rfl, _, _, _⟩ := h1.form
 obtain ⟨B, m, e, rfl, _, _, _⟩ := h2.form
 obtain ⟨A1, rn, c1, rfl, _, _⟩ := hT.1.form'
 obtain ⟨A2, pn, c2, rfl, _, _, _⟩ := hT.2.form
 show Calls _ _ _ _ (BoolPost w (a.n == b.n))
 unfold aggT aggV
 rw [hk]
 have HB := Lib.hid (boxes3 w (.int .i64 2) (.int .i64 t.size) (.slice A1 rn c1) (.slice A2 pn c2) (.int .i64 a.n) (.slice A n c) (.int .i64 b.n) (.slice B m e)).1
 clear h1 h2 hT hk
 generalize a.n = x at *
 generalize b.n = y at *
 generalize t.size = z at *
 go_enter Tryz.func245, Tryz.ntmps245
 go_wp2
 go_ret
 exact ⟨rfl, HB.out⟩
theorem belZ_step {f : T → V → V → Bool} {ps : List T} {xs ys : List V} {k : Nat} (h1 : k < ps.length) (h2 : k < xs.length) (h3 : k < ys.length) : belZ f (ps.drop k) (xs.drop k) (ys.drop k) = (f ps[k] xs[k] ys[k] && belZ f (ps.drop (k + 1)) (xs.drop (k + 1)) (ys.drop (k + 1))) := by
 rw [List.drop_eq_getElem_cons h1, List.drop_eq_getElem_cons h2, List.drop_eq_getElem_cons h3]
 rfl
theorem obelow_k3 (t : T) (ok : V → Bool) (ok' : T → V → Bool) (f : T → V → V → Bool) (hk : t.kind = 3)
   (hok : ∀ v, ok v = true → v.ks.length = t.parts.length ∧ ∀ k (h : k < t.parts.length) (h' : k < v.ks.length), ok' t.parts[k] v.ks[k] = true) (ih : ∀ p ∈ t.parts, BelSays p (ok' p) (f p)) : BelSays t ok (fun a b => belZ f t.parts a.ks b.ks) := by
 intro a b ha hb rv pv s1 s2 w hT h1 h2
 obtain ⟨la, oa⟩ := hok a ha
 obtain ⟨lb, ob⟩ := hok b hb
 obtain ⟨A, n, c, rfl, ln1, _, mn1⟩ := h1.form
 obtain ⟨B, m, e, rfl, ln2, _, mn2⟩ := h2.form
 obtain ⟨A1, rn, c1, rfl, _, _⟩ := hT.1.form'
 obtain ⟨A2, pn, c2, rfl, ln3, _, mn3⟩ := hT.2.form
 unfold maxLen at mn1 mn2 mn3
 obtain rfl : n = pn := by omega
 obtain rfl : m = n := by omega
 have HIH := Lib.hid ih
 have HP := Lib.hid hT.2
 have HK1 := Lib.hid h1
 have HK2 := Lib.hid h2
 have LN1 := Lib.hid ln1
 have LN2 := Lib.hid ln2
 have LN3 := Lib.hid ln3
 have HOA := Lib.hid oa
 have HOB := Lib.hid ob
 have HB := Lib.hid (boxes3 w (.int .i64 3) (.int .i64 t.size) (.slice A1 rn c1) (.slice A2 m c2) (.int .i64 a.n) (.slice A m c) (.int .i64 b.n) (.slice B m e))
 show Calls _ _ _ _ (BoolPost w (belZ f t.parts a.ks b.ks))
 unfold aggT aggV
 rw [hk]
 have HZ : Hid (belZ f t.parts a.ks b.ks = belZ f (t.parts.drop 0) (a.ks.drop 0) (b.ks.drop 0)) := Lib.hid rfl
 clear h1 h2 hT ln1 ln2 ln3 hk ih la lb oa ob hok ha hb
 generalize hz : belZ f t.parts a.ks b.ks = q at *
 clear hz
 generalize a.n = x at *
 generalize b.n = y at *
 generalize t.size = z at *
 go_enter Tryz.func245, Tryz.ntmps245
 go_wp2
 go_loopw [30] (fun i wr => ∃ k : Nat, k ≤ m ∧ i = .int .i64 k ∧ Hid (Bw (((w.alloc (.cells #[.int .i64 3, .int .i64 z, .slice A1 rn c1, .slice A2 m c2] 50)).alloc (.cells #[.int .i64 x, .slice A m c] 31)).alloc (.cells #[.int .i64 y, .slice B m e] 31)) wr ∧ q = belZ f (t.parts.drop k) (a.ks.drop k) (b.ks.drop k))) (fun i _ => m - (intOf i).toNat)
 case atStart => exact ⟨0, by omega, rfl, Lib.hid ⟨Bw.refl _, HZ.out⟩⟩
 case round =>
   obtain ⟨k, hk, rfl, HR⟩ := hrel
   obtain ⟨hg, hq⟩ := HR.out
   obtain ⟨hw, b1, b2, b3⟩ := HB.out
   have hgw := hw.trans hg
   have k2' := b2.below hg.b b2.lt
   have k3' := b3.below hg.b b3.lt
   have HW := Lib.hid hgw
   have HG := Lib.hid hg
   by_cases hlt : k < m
   · have e1 : k < a.ks.length := by rw [LN1.out]; exact hlt
     have e2 : k < b.ks.length := by rw [LN2.out]; exact hlt
     have e3 : k < t.parts.length := by rw [LN3.out]; exact hlt
     obtain ⟨ad, sA, sn, sc, rfl, hb, q0, q1, _, hs⟩ := (HK1.out.bw hgw).at_ e1
     obtain ⟨ae, sB, sm, se, rfl, hb3, r0, r1, _, hs2⟩ := (HK2.out.bw hgw).at_ e2
     obtain ⟨ad2, A3, n3, c3, A4, n4, c4, rfl, hb2, y0, y1, y2, y3, hT2⟩ := (HP.out.bw hgw).at_ e3
     have CM : Hid (∀ W, Bw wr W → Calls Tryz.prog 245 #[.agg #[.int .i64 t.parts[k].kind, .int .i64 t.parts[k].size, .slice A3 n3 c3, .slice A4 n4 c4], .agg #[.int .i64 a.ks[k].n, .slice sA sn sc], .agg #[.int .i64 b.ks[k].n, .slice sB sm se]] W (BoolPost W (f t.parts[k] a.ks[k] b.ks[k]))) := Lib.hid (fun W g => HIH.out _ (List.getElem_mem e3) _ _ (HOA.out k e3 e1) (HOB.out k e3 e2) _ _ _ _ _ (TAt.bw hT2 g) (hs.bw g) (hs2.bw g))
     have HZ2 : Hid (q = (f t.parts[k] a.ks[k] b.ks[k] && belZ f (t.parts.drop (k + 1)) (a.ks.drop (k + 1)) (b.ks.drop (k + 1)))) := Lib.hid (by rw [hq]; exact belZ_step e3 e1 e2)
     have p2 := k2'.cell 1
     have p3 := k3'.cell 1
     have z2 := k2'.lt
     have z3 := k3'.lt
     clear hs hs2 hT2 hq b1 b2 b3 hgw hw HR k2' k3'
     generalize f t.parts[k] a.ks[k] b.ks[k] = r at *
     generalize a.ks[k].n = xk at *
     generalize b.ks[k].n = yk at *
     generalize t.parts[k].kind = pk at *
     generalize t.parts[k].size = pz at *
     clear hg
     go_wp2_with fail
     refine wp_world (fun W => Hid (Bw wr W ∧ Blk W wr.heap.size 50 #[.int .i64 pk, .int .i64 pz, .slice A3 n3 c3, .slice A4 n4 c4])) (Lib.hid ⟨(Bw.refl _).alloc _, Blk.new _ _ _⟩) ?_
     intro W HW2
     obtain ⟨hg, k3⟩ := HW2.out
     have hs1 := hg.size
     have z4 := k3.lt
     have KS : Hid (∀ w', Bw W w' → w'.cell? ⟨w.heap.size + 1, 1, none⟩ = some (.slice (some ad) m c) ∧ w'.cell? ⟨w.heap.size + 2, 1, none⟩ = some (.slice (some ae) m e) ∧ w'.cell? ⟨wr.heap.size, 0, none⟩ = some (.int .i64 pk) ∧ w'.cell? ⟨wr.heap.size, 1, none⟩ = some (.int .i64 pz) ∧ w'.cell? ⟨wr.heap.size, 2, none⟩ = some (.slice A3 n3 c3) ∧ w'.cell? ⟨wr.heap.size, 3, none⟩ = some (.slice A4 n4 c4) ∧
         w'.cell? (ad.add (k * 2)) = some (.int .i64 xk) ∧ w'.cell? ⟨(ad.add (k * 2)).block, (ad.add (k * 2)).off + 1, none⟩ = some (.slice sA sn sc) ∧ w'.cell? (ae.add (k * 2)) = some (.int .i64 yk) ∧ w'.cell? ⟨(ae.add (k * 2)).block, (ae.add (k * 2)).off + 1, none⟩ = some (.slice sB sm se) ∧ Bw W w') := Lib.hid (fun w' g =>
       ⟨((hg.trans g).b.cell (p := ⟨w.heap.size + 1, 1, none⟩) z2).trans p2, ((hg.trans g).b.cell (p := ⟨w.heap.size + 2, 1, none⟩) z3).trans p3, (g.b.cell (p := ⟨wr.heap.size, 0, none⟩) z4).trans (k3.cell 0), (g.b.cell (p := ⟨wr.heap.size, 1, none⟩) z4).trans (k3.cell 1), (g.b.cell (p := ⟨wr.heap.size, 2, none⟩) z4).trans (k3.cell 2), (g.b.cell (p := ⟨wr.heap.size, 3, none⟩) z4).trans (k3.cell 3),
        ((hg.trans g).b.cell (by rw [add_block]; exact hb)).trans q0, ((hg.trans g).b.cell (by simp only [add_block]; exact hb)).trans q1, ((hg.trans g).b.cell (by rw [add_block]; exact hb3)).trans r0, ((hg.trans g).b.cell (by simp only [add_block]; exact hb3)).trans r1, g⟩)
     have CM2 : Hid (∀ W', Bw W W' → Calls Tryz.prog 245 #[.agg #[.int .i64 pk, .int .i64 pz, .slice A3 n3 c3, .slice A4 n4 c4], .agg #[.int .i64 xk, .slice sA sn sc], .agg #[.int .i64 yk, .slice sB sm se]] W' (BoolPost W' r)) := Lib.hid (fun W' g => CM.out _ (hg.trans g))
     have HG2 := Lib.hid hg
     clear hg k3 HW2 p2 p3 q0 q1 r0 r1 y0 y1 y2 y3 CM
     generalize hzz : wr.heap.size = yy at *
     have HZZ := Lib.hid hzz
     clear hzz
     go_region_held3 (fun w' => w'.cell? ⟨w.heap.size + 1, 1, none⟩ = some (.slice (some ad) m c) ∧ w'.cell? ⟨w.heap.size + 2, 1, none⟩ = some (.slice (some ae) m e) ∧ w'.cell? ⟨yy, 0, none⟩ = some (.int .i64 pk) ∧ w'.cell? ⟨yy, 1, none⟩ = some (.int .i64 pz) ∧ w'.cell? ⟨yy, 2, none⟩ = some (.slice A3 n3 c3) ∧ w'.cell? ⟨yy, 3, none⟩ = some (.slice A4 n4 c4) ∧
         w'.cell? (ad.add (k * 2)) = some (.int .i64 xk) ∧ w'.cell? ⟨(ad.add (k * 2)).block, (ad.add (k * 2)).off + 1, none⟩ = some (.slice sA sn sc) ∧ w'.cell? (ae.add (k * 2)) = some (.int .i64 yk) ∧ w'.cell? ⟨(ae.add (k * 2)).block, (ae.add (k * 2)).off + 1, none⟩ = some (.slice sB sm se) ∧ Bw W w') (first | (refine KS.out _ ?_; first | exact (Bw.refl _).drew | exact (Bw.refl _).drew.trans hg6)) (first | (go_at_call 245; (with_reducible refine (CM2.out _ (Bw.refl _).drew).mono ?_); rintro e w' ⟨rfl, hg6⟩))
     have HG6 : Hid (Bw wr w') := Lib.hid (HG2.out.trans ((Bw.refl _).drew.trans hg6))
     clear hg6
     rcases r with _ | _
     · have HF2 : Hid (q = false) := Lib.hid (by rw [HZ2.out]; rfl)
       go_wp2
       go_ret
       exact ⟨ret_bool (by rw [HF2.out]), HW.out.trans HG6.out⟩
     · have HF2 : Hid (q = belZ f (t.parts.drop (k + 1)) (a.ks.drop (k + 1)) (b.ks.drop (k + 1))) := Lib.hid (by rw [HZ2.out]; rfl)
       go_wp2
       go_roundw
       case rel => exact ⟨k + 1, by omega, by go_num, Lib.hid ⟨HG.out.trans HG6.out, HF2.out⟩⟩
       case measure => simp [intOf]; omega
   · obtain rfl : k = m := by omega
     have HF2 : Hid (q = true) := Lib.hid (by rw [hq, List.drop_eq_nil_of_le (by rw [LN3.out]; omega)]; rfl)
     go_wp2
     go_ret
     exact ⟨ret_bool (by rw [HF2.out]), HW.out⟩
theorem BelSays.of_eq {t : T} {ok : V → Bool} {f g : V → V → Bool} (h : BelSays t ok f) (e : ∀ a b, f a b = g a b) : BelSays t ok g := by
 have : f = g := funext fun a => funext fun b => e a b
 rwa [← this]
theorem oneZ_get {f : T → V → Bool} : ∀ {ps : List T} {vs : List V}, oneZ f ps vs = true → ∀ k (h : k < ps.length) (h' : k < vs.length), f ps[k] vs[k] = true
 | [], _, _, k, h, _ => by simp at h
 | _ :: _, [], _, k, _, h => by simp at h
 | p :: ps, v :: vs, h, k, h1, h2 => by
   simp only [oneZ, Bool.and_eq_true] at h
   cases k with
   | zero => exact h.1
   | succ k => exact oneZ_get h.2 k (by simpa using h1) (by simpa using h2)
theorem obelow_flat (d : Nat) (t : T) [hF : Nonempty (FlatT t)] (hr : rightP (d + 2) t = true) : BelSays t (oneP (d + 2) t) (belowP (d + 2) t) := by
 obtain ⟨⟨k3, hp⟩⟩ := hF
 have k1 : ¬ t.kind = 1 := by omega
 have k2 : ¬ t.kind = 2 := by omega
 refine (obelow_k3 t _ (oneP (d + 1)) (belowP (d + 1)) k3 (fun v hv => ?_) (fun p h => ?_)).of_eq fun a b => by simp only [belowP.eq_2 (d := d + 1)]; rw [if_neg k1, if_neg k2, if_pos k3]
 · rw [oneP.eq_2 (d := d + 1)] at hv
   rw [if_neg k1, if_neg k2, if_pos k3] at hv
   simp only [Bool.and_eq_true, beq_iff_eq] at hv
   exact ⟨hv.1.2, oneZ_get hv.2⟩
 · rcases hp p h with h1 | h2
   · exact (obelow_k1 p _ h1).of_eq fun a b => by simp only [belowP]; rw [if_pos h1]
   · exact (obelow_k2 p _ h2).of_eq fun a b => by simp only [belowP]; rw [if_neg (show ¬ p.kind = 1 by omega), if_pos h2]
theorem oBelow_any (d : Nat) (t : T) [Nonempty (FlatT t)] (ht : rightP (d + 2) t = true) (a b : V) (ha : oneP (d + 2) t a = true) (hb : oneP (d + 2) t b = true) (rv pv s1 s2 : Value) (w : World) (hT : TB w w.heap.size rv pv t) (h1 : KB w w.heap.size s1 a.ks) (h2 : KB w w.heap.size s2 b.ks) :
   Calls Tryz.prog 180 #[aggT t rv pv, aggV a s1, aggV b s2] w (BoolPost w (belowP (d + 2) t a b)) := by
 obtain ⟨A, n, c, rfl, _, _, _⟩ := h1.form
 obtain ⟨B, m, e, rfl, _, _, _⟩ := h2.form
 obtain ⟨A1, rn, c1, rfl, _, _⟩ := hT.1.form'
 obtain ⟨A2, pn, c2, rfl, _, _, _⟩ := hT.2.form
 have CM : Hid (∀ W, Bw w W → Calls Tryz.prog 245 #[.agg #[.int .i64 t.kind, .int .i64 t.size, .slice A1 rn c1, .slice A2 pn c2], .agg #[.int .i64 a.n, .slice A n c], .agg #[.int .i64 b.n, .slice B m e]] W (BoolPost W (belowP (d + 2) t a b))) := Lib.hid (fun W g => obelow_flat d t ht a b ha hb _ _ _ _ W (TAt.bw hT g) (h1.bw g) (h2.bw g))
 have HB := Lib.hid (boxes3 w (.int .i64 t.kind) (.int .i64 t.size) (.slice A1 rn c1) (.slice A2 pn c2) (.int .i64 a.n) (.slice A n c) (.int .i64 b.n) (.slice B m e)).1
 unfold aggT aggV
 clear ht ha hb hT h1 h2
 generalize belowP (d + 2) t a b = q at *
 generalize a.n = x at *
 generalize b.n = y at *
 generalize t.size = z at *
 generalize t.kind = k at *
 go_enter Tryz.func180, Tryz.ntmps180
 go_wp2_with (go_at_call 245; go_must (refine (CM.out _ HB.out).mono ?_; rintro e w6 ⟨rfl, hg6⟩; have HG6 := Lib.hid hg6; clear hg6))
 go_ret
 exact ⟨rfl, HB.out.trans HG6.out⟩
def BelSaysR (t : T) (ok : V → Bool) (f : V → V → Bool) : Prop := ∀ (a b : V), ok a = true → ok b = true → ∀ (rv pv s1 s2 : Value) (W : World), TB W W.heap.size rv pv t → KB W W.heap.size s1 a.ks → KB W W.heap.size s2 b.ks → Calls Tryz.prog 43 #[aggT t rv pv, aggV a s1, aggV b s2] W (BoolPost W (f a b))
theorem r6bel_k1 (t : T) (ok : V → Bool) (hk : t.kind = 1) : BelSaysR t ok (fun a b => decide (a.n ≤ b.n)) := by
 intro a b _ _ rv pv s1 s2 w hT h1 h2
 obtain ⟨A, n, c, rfl, _, _, _⟩ := h1.form
 obtain ⟨B, m, e, rfl, _, _, _⟩ := h2.form
 obtain ⟨A1, rn, c1, rfl, _, _⟩ := hT.1.form'
 obtain ⟨A2, pn, c2, rfl, _, _, _⟩ := hT.2.form
 show Calls _ _ _ _ (BoolPost w (decide (a.n ≤ b.n)))
 unfold aggT aggV
 rw [hk]
 have HB := Lib.hid (boxes3 w (.int .i64 1) (.int .i64 t.size) (.slice A1 rn c1) (.slice A2 pn c2) (.int .i64 a.n) (.slice A n c) (.int .i64 b.n) (.slice B m e)).1
 clear h1 h2 hT hk
 generalize a.n = x at *
 generalize b.n = y at *
 generalize t.size = z at *
 go_enter Tryz.func43, Tryz.ntmps43
 go_wp2
 go_ret
 exact ⟨rfl, HB.out⟩
theorem r6bel_k2 (t : T) (ok : V → Bool) (hk : t.kind = 2) : BelSaysR t ok (fun a b => a.n == b.n) := by
 intro a b _ _ rv pv s1 s2 w hT h1 h2
 obtain ⟨A, n, c, rfl, _, _, _⟩ := h1.form
 obtain ⟨B, m, e, rfl, _, _, _⟩ := h2.form
 obtain ⟨A1, rn, c1, rfl, _, _⟩ := hT.1.form'
 obtain ⟨A2, pn, c2, rfl, _, _, _⟩ := hT.2.form
 show Calls _ _ _ _ (BoolPost w (a.n == b.n))
 unfold aggT aggV
 rw [hk]
 have HB := Lib.hid (boxes3 w (.int .i64 2) (.int .i64 t.size) (.slice A1 rn c1) (.slice A2 pn c2) (.int .i64 a.n) (.slice A n c) (.int .i64 b.n) (.slice B m e)).1
 clear h1 h2 hT hk
 generalize a.n = x at *
 generalize b.n = y at *
 generalize t.size = z at *
 go_enter Tryz.func43, Tryz.ntmps43
 go_wp2
 go_ret
 exact ⟨rfl, HB.out⟩
theorem r6bel_k3 (t : T) (ok : V → Bool) (ok' : T → V → Bool) (f : T → V → V → Bool) (hk : t.kind = 3)
   (hok : ∀ v, ok v = true → v.ks.length = t.parts.length ∧ ∀ k (h : k < t.parts.length) (h' : k < v.ks.length), ok' t.parts[k] v.ks[k] = true) (ih : ∀ p ∈ t.parts, BelSaysR p (ok' p) (f p)) : BelSaysR t ok (fun a b => belZ f t.parts a.ks b.ks) := by
 intro a b ha hb rv pv s1 s2 w hT h1 h2
 obtain ⟨la, oa⟩ := hok a ha
 obtain ⟨lb, ob⟩ := hok b hb
 obtain ⟨A, n, c, rfl, ln1, _, mn1⟩ := h1.form
 obtain ⟨B, m, e, rfl, ln2, _, mn2⟩ := h2.form
 obtain ⟨A1, rn, c1, rfl, _, _⟩ := hT.1.form'
 obtain ⟨A2, pn, c2, rfl, ln3, _, mn3⟩ := hT.2.form
 unfold maxLen at mn1 mn2 mn3
 obtain rfl : n = pn := by omega
 obtain rfl : m = n := by omega
 have HIH := Lib.hid ih
 have HP := Lib.hid hT.2
 have HK1 := Lib.hid h1
 have HK2 := Lib.hid h2
 have LN1 := Lib.hid ln1
 have LN2 := Lib.hid ln2
 have LN3 := Lib.hid ln3
 have HOA := Lib.hid oa
 have HOB := Lib.hid ob
 have HB := Lib.hid (boxes3 w (.int .i64 3) (.int .i64 t.size) (.slice A1 rn c1) (.slice A2 m c2) (.int .i64 a.n) (.slice A m c) (.int .i64 b.n) (.slice B m e))
 show Calls _ _ _ _ (BoolPost w (belZ f t.parts a.ks b.ks))
 unfold aggT aggV
 rw [hk]
 have HZ : Hid (belZ f t.parts a.ks b.ks = belZ f (t.parts.drop 0) (a.ks.drop 0) (b.ks.drop 0)) := Lib.hid rfl
 clear h1 h2 hT ln1 ln2 ln3 hk ih la lb oa ob hok ha hb
 generalize hz : belZ f t.parts a.ks b.ks = q at *
 clear hz
 generalize a.n = x at *
 generalize b.n = y at *
 generalize t.size = z at *
 go_enter Tryz.func43, Tryz.ntmps43
 go_wp2
 go_loopw [7] (fun i wr => ∃ k : Nat, k ≤ m ∧ i = .int .i64 k ∧ Hid (Bw (((w.alloc (.cells #[.int .i64 3, .int .i64 z, .slice A1 rn c1, .slice A2 m c2] 50)).alloc (.cells #[.int .i64 x, .slice A m c] 31)).alloc (.cells #[.int .i64 y, .slice B m e] 31)) wr ∧ q = belZ f (t.parts.drop k) (a.ks.drop k) (b.ks.drop k))) (fun i _ => m - (intOf i).toNat)
 case atStart => exact ⟨0, by omega, rfl, Lib.hid ⟨Bw.refl _, HZ.out⟩⟩
 case round =>
   obtain ⟨k, hk, rfl, HR⟩ := hrel
   obtain ⟨hg, hq⟩ := HR.out
   obtain ⟨hw, b1, b2, b3⟩ := HB.out
   have hgw := hw.trans hg
   have k1' := b1.below hg.b b1.lt
   have k2' := b2.below hg.b b2.lt
   have k3' := b3.below hg.b b3.lt
   have HW := Lib.hid hgw
   have HG := Lib.hid hg
   by_cases hlt : k < m
   · have e1 : k < a.ks.length := by rw [LN1.out]; exact hlt
     have e2 : k < b.ks.length := by rw [LN2.out]; exact hlt
     have e3 : k < t.parts.length := by rw [LN3.out]; exact hlt
     obtain ⟨ad, sA, sn, sc, rfl, hb, q0, q1, _, hs⟩ := (HK1.out.bw hgw).at_ e1
     obtain ⟨ae, sB, sm, se, rfl, hb3, r0, r1, _, hs2⟩ := (HK2.out.bw hgw).at_ e2
     obtain ⟨ad2, A3, n3, c3, A4, n4, c4, rfl, hb2, y0, y1, y2, y3, hT2⟩ := (HP.out.bw hgw).at_ e3
     have CM : Hid (∀ W, Bw wr W → Calls Tryz.prog 43 #[.agg #[.int .i64 t.parts[k].kind, .int .i64 t.parts[k].size, .slice A3 n3 c3, .slice A4 n4 c4], .agg #[.int .i64 a.ks[k].n, .slice sA sn sc], .agg #[.int .i64 b.ks[k].n, .slice sB sm se]] W (BoolPost W (f t.parts[k] a.ks[k] b.ks[k]))) := Lib.hid (fun W g => HIH.out _ (List.getElem_mem e3) _ _ (HOA.out k e3 e1) (HOB.out k e3 e2) _ _ _ _ _ (TAt.bw hT2 g) (hs.bw g) (hs2.bw g))
     have HZ2 : Hid (q = (f t.parts[k] a.ks[k] b.ks[k] && belZ f (t.parts.drop (k + 1)) (a.ks.drop (k + 1)) (b.ks.drop (k + 1)))) := Lib.hid (by rw [hq]; exact belZ_step e3 e1 e2)
     have p1 := k1'.cell 3
     have z1 := k1'.lt
     have p2 := k2'.cell 1
     have p3 := k3'.cell 1
     have z2 := k2'.lt
     have z3 := k3'.lt
     clear hs hs2 hT2 hq b1 b2 b3 hgw hw HR k1' k2' k3'
     generalize f t.parts[k] a.ks[k] b.ks[k] = r at *
     generalize a.ks[k].n = xk at *
     generalize b.ks[k].n = yk at *
     generalize t.parts[k].kind = pk at *
     generalize t.parts[k].size = pz at *
     clear hg
     have KS : Hid (∀ w', Bw wr w' → w'.cell? ⟨w.heap.size, 3, none⟩ = some (.slice (some ad2) m c2) ∧ w'.cell? ⟨w.heap.size + 1, 1, none⟩ = some (.slice (some ad) m c) ∧ w'.cell? ⟨w.heap.size + 2, 1, none⟩ = some (.slice (some ae) m e) ∧ w'.cell? (ad2.add (k * 4)) = some (.int .i64 pk) ∧ w'.cell? ⟨(ad2.add (k * 4)).block, (ad2.add (k * 4)).off + 1, none⟩ = some (.int .i64 pz) ∧ w'.cell? ⟨(ad2.add (k * 4)).block, (ad2.add (k * 4)).off + 2, none⟩ = some (.slice A3 n3 c3) ∧ w'.cell? ⟨(ad2.add (k * 4)).block, (ad2.add (k * 4)).off + 3, none⟩ = some (.slice A4 n4 c4) ∧ w'.cell? (ad.add (k * 2)) = some (.int .i64 xk) ∧ w'.cell? ⟨(ad.add (k * 2)).block, (ad.add (k * 2)).off + 1, none⟩ = some (.slice sA sn sc) ∧ w'.cell? (ae.add (k * 2)) = some (.int .i64 yk) ∧ w'.cell? ⟨(ae.add (k * 2)).block, (ae.add (k * 2)).off + 1, none⟩ = some (.slice sB sm se) ∧ Bw wr w') := Lib.hid (fun w' g =>
       ⟨(g.b.cell (p := ⟨w.heap.size, 3, none⟩) z1).trans p1, (g.b.cell (p := ⟨w.heap.size + 1, 1, none⟩) z2).trans p2, (g.b.cell (p := ⟨w.heap.size + 2, 1, none⟩) z3).trans p3, (g.b.cell (by rw [add_block]; exact hb2)).trans y0, (g.b.cell (by simp only [add_block]; exact hb2)).trans y1, (g.b.cell (by simp only [add_block]; exact hb2)).trans y2, (g.b.cell (by simp only [add_block]; exact hb2)).trans y3,
        (g.b.cell (by rw [add_block]; exact hb)).trans q0, (g.b.cell (by simp only [add_block]; exact hb)).trans q1, (g.b.cell (by rw [add_block]; exact hb3)).trans r0, (g.b.cell (by simp only [add_block]; exact hb3)).trans r1, g⟩)
     clear q0 q1 r0 r1 y0 y1 y2 y3
     go_wp2_with fail
     go_region_held3 (fun w' => w'.cell? ⟨w.heap.size, 3, none⟩ = some (.slice (some ad2) m c2) ∧ w'.cell? ⟨w.heap.size + 1, 1, none⟩ = some (.slice (some ad) m c) ∧ w'.cell? ⟨w.heap.size + 2, 1, none⟩ = some (.slice (some ae) m e) ∧ w'.cell? (ad2.add (k * 4)) = some (.int .i64 pk) ∧ w'.cell? ⟨(ad2.add (k * 4)).block, (ad2.add (k * 4)).off + 1, none⟩ = some (.int .i64 pz) ∧ w'.cell? ⟨(ad2.add (k * 4)).block, (ad2.add (k * 4)).off + 2, none⟩ = some (.slice A3 n3 c3) ∧ w'.cell? ⟨(ad2.add (k * 4)).block, (ad2.add (k * 4)).off + 3, none⟩ = some (.slice A4 n4 c4) ∧ w'.cell? (ad.add (k * 2)) = some (.int .i64 xk) ∧ w'.cell? ⟨(ad.add (k * 2)).block, (ad.add (k * 2)).off + 1, none⟩ = some (.slice sA sn sc) ∧ w'.cell? (ae.add (k * 2)) = some (.int .i64 yk) ∧ w'.cell? ⟨(ae.add (k * 2)).block, (ae.add (k * 2)).off + 1, none⟩ = some (.slice sB sm se) ∧ Bw wr w') (first | (refine KS.out _ ?_; first | exact (Bw.refl _).drew | exact (Bw.refl _).drew.trans hg6)) (first | (go_at_call 43; (with_reducible refine (CM.out _ (Bw.refl _).drew).mono ?_); rintro e w' ⟨rfl, hg6⟩))
     have HG6 : Hid (Bw wr w') := Lib.hid ((Bw.refl _).drew.trans hg6)
     clear hg6
     rcases r with _ | _
     · have HF2 : Hid (q = false) := Lib.hid (by rw [HZ2.out]; rfl)
       go_wp2
       go_ret
       exact ⟨ret_bool (by rw [HF2.out]), HW.out.trans HG6.out⟩
     · have HF2 : Hid (q = belZ f (t.parts.drop (k + 1)) (a.ks.drop (k + 1)) (b.ks.drop (k + 1))) := Lib.hid (by rw [HZ2.out]; rfl)
       go_wp2
       go_roundw
       case rel => exact ⟨k + 1, by omega, by go_num, Lib.hid ⟨HG.out.trans HG6.out, HF2.out⟩⟩
       case measure => simp [intOf]; omega
   · obtain rfl : k = m := by omega
     have p1 := k1'.cell 3
     have z1 := k1'.lt
     have HF2 : Hid (q = true) := Lib.hid (by rw [hq, List.drop_eq_nil_of_le (by rw [LN3.out]; omega)]; rfl)
     go_wp2
     go_ret
     exact ⟨ret_bool (by rw [HF2.out]), HW.out⟩
theorem BelSaysR.of_eq {t : T} {ok : V → Bool} {f g : V → V → Bool} (h : BelSaysR t ok f) (e : ∀ a b, f a b = g a b) : BelSaysR t ok g := by
 have : f = g := funext fun a => funext fun b => e a b
 rwa [← this]
end
end Go.Proofs.YthhbkabdhkdafaaGreat
