/- Part of a proof of pruneShows_holds. -/
import Derived.Test.YthhbkabdhkdafaaGreatUAkQ
import Derived.Test.YthhbkabdhkdafaaGreatSortLayQ
import Derived.Lib.SliceRun
import Derived.Lib.RowBridge
set_option linter.unusedSimpArgs false
set_option linter.unusedVariables false
set_option maxRecDepth 100000
set_option maxHeartbeats 16000000
namespace Go.Proofs.YthhbkabdhkdafaaGreat
section
variable {m : Mdl}
end
section
variable {m : Mdl}
theorem cfgV_size (s : Int) (cs : List Int) : (cfgV s cs).size = 2 + cs.length := by
 have : ∀ l : List Int, sizeL (l.map fun c => V.mk c []) = l.length := by
   intro l
   induction l with
   | nil => rfl
   | cons x r ih => simp [sizeL, V.size, ih]; omega
 simp [cfgV, V.size, sizeL, this]; omega
theorem cfg_parts {v : V} (h : oneP 8 m.t v = true) : ∃ s cs, v = cfgV s cs ∧ 0 ≤ s ∧ s < m.ss.length ∧ cs.length = m.ps.length ∧ ∀ c ∈ cs, 0 ≤ c ∧ c ≤ 1048576 := one_flat.1 h
theorem validM (h : MdlOk m) {v : V} (hv : oneP 8 m.t v = true) : validP m.t v = true := by
 unfold validP
 obtain ⟨s, cs, rfl, _, _, hl, _⟩ := cfg_parts hv
 have := h.k1.2
 rw [h.right, hv, decide_eq_true (by rw [cfgV_size]; omega)]
 rfl
theorem one_size (h : MdlOk m) {v : V} (hv : oneP 8 m.t v = true) : v.size ≤ 8 := by
 obtain ⟨s, cs, rfl, _, _, hl, _⟩ := cfg_parts hv
 have := h.k1.2
 rw [cfgV_size]; omega
theorem limB_len {l : List V} (h : (limB l).2 = 0) : l.length ≤ 256 ∧ limB l = (l, 0) := by
 unfold limB at h ⊢
 split at h
 · cases h
 · rename_i h1; exact ⟨by omega, by rw [if_neg h1]⟩
end
section
open Go.RowKit
def DelPost (w : World) (L : Nat) (s : Value) (qs : List VS) (e : Ending) (w' : World) : Prop := ∃ s', e = .returned s' ∧ MRow w' L s' qs ∧ w.grownBy w' s.ownBlock ∧ s'.ownBlock = s.ownBlock
theorem gb_any {a b : World} (h : Bw a b) (row : Option Nat) : a.grownBy b row := ⟨h.os, h.tape, h.output, h.size, fun k hk _ => h.block k hk⟩
theorem gb_trans {a b c : World} {row : Option Nat} (h : a.grownBy b row) (k : b.grownBy c row) : a.grownBy c row :=
 ⟨k.os.trans h.os, k.tape.trans h.tape, k.output.trans h.output, Nat.le_trans h.size k.size, fun j hj hr => (k.block j (Nat.lt_of_lt_of_le hj h.size) hr).trans (h.block j hj hr)⟩
theorem idxP_neg {α : Type} {p : α → Bool} {l : List α} (h : idxP p l = -1) : l.filter (fun x => !p x) = l := by
 unfold idxP at h
 split at h
 · have : (0 : Int) ≤ ((l.findIdx p : Nat) : Int) := Int.natCast_nonneg _
   omega
 · rename_i h0
   rw [List.filter_eq_self]
   intro x hx
   simp only [Bool.not_eq_true, List.any_eq_false] at h0
   simpa using h0 x hx
theorem idxP_pos {α : Type} {p : α → Bool} {l : List α} (h : idxP p l ≠ -1) : ∃ k, ∃ hk : k < l.length, idxP p l = (k : Int) ∧ p l[k] = true ∧ (l.take k).filter (fun x => !p x) = l.take k := by
 unfold idxP at h ⊢
 split at h
 · rename_i h0
   rw [if_pos h0]
   have hl := List.findIdx_lt_length.2 (List.any_eq_true.1 h0)
   refine ⟨_, hl, rfl, List.findIdx_getElem, ?_⟩
   rw [List.filter_eq_self]
   intro x hx
   obtain ⟨j, hj, rfl⟩ := List.getElem_of_mem hx
   have hj2 : j < l.findIdx p := by simp at hj; omega
   have := List.not_of_lt_findIdx hj2
   simpa using this
 · omega
structure DelI (ps pr : List VS) (p : V → Bool) (i j : Nat) : Prop where
 len : pr.length = ps.length
 ij : i < j
 jn : j ≤ ps.length
 tk : pr.take i = (ps.take j).filter (fun x => !p x.1)
 dr : pr.drop j = ps.drop j
 sub : ∀ x ∈ pr, x ∈ ps
section
variable {ps pr : List VS} {p : V → Bool} {i j : Nat}
theorem DelI.get (h : DelI ps pr p i j) (hj : j < ps.length) : pr[j]'(by rw [h.len]; exact hj) = ps[j] := by
 have h1 := h.dr
 rw [List.drop_eq_getElem_cons (by rw [h.len]; exact hj), List.drop_eq_getElem_cons hj] at h1
 exact (List.cons.inj h1).1
theorem DelI.skip (h : DelI ps pr p i j) (hj : j < ps.length) (hp : p ps[j].1 = true) : DelI ps pr p i (j + 1) := by
 refine ⟨h.len, by have := h.ij; omega, hj, ?_, ?_, h.sub⟩
 · rw [List.take_succ_eq_append_getElem hj, List.filter_append, ← h.tk]
   simp [hp]
 · have h1 := congrArg (List.drop 1) h.dr
   rwa [List.drop_drop, List.drop_drop] at h1
theorem DelI.keep (h : DelI ps pr p i j) (hj : j < ps.length) (hp : p ps[j].1 = false) : DelI ps (pr.set i ps[j]) p (i + 1) (j + 1) := by
 have hi : i < pr.length := by rw [h.len]; have := h.ij; omega
 refine ⟨by rw [List.length_set]; exact h.len, by have := h.ij; omega, hj, ?_, ?_, fun x hx => ?_⟩
 · rw [List.take_succ_eq_append_getElem hj, List.filter_append, ← h.tk, List.take_succ_eq_append_getElem (by rw [List.length_set]; exact hi)]
   rw [List.take_set_of_le (by omega)]
   simp [hp]
 · rw [List.drop_set_of_lt (by have := h.ij; omega)]
   have h1 := congrArg (List.drop 1) h.dr
   rwa [List.drop_drop, List.drop_drop] at h1
 · rcases List.mem_or_eq_of_mem_set hx with hx | rfl
   · exact h.sub x hx
   · exact List.getElem_mem _
theorem DelI.start {k : Nat} (hk : k < ps.length) (h : (ps.take k).filter (fun x => !p x.1) = ps.take k) (hp : p ps[k].1 = true) : DelI ps ps p k (k + 1) :=
 ⟨rfl, by omega, hk, by rw [List.take_succ_eq_append_getElem hk, List.filter_append, h]; simp [hp], rfl, fun x hx => hx⟩
theorem DelI.done (h : DelI ps pr p i ps.length) : pr.take i = ps.filter (fun x => !p x.1) := by
 have := h.tk; rwa [List.take_of_length_le (Nat.le_refl _)] at this
end
theorem own_clear {w : World} {L g i n c : Nat} {ps : List VS} (h : MRow w L (.slice (some ⟨g, 0, none⟩) n c) ps) (hn : ps.length = n) (hL : L ≤ w.heap.size) (hi : i < n) (ty : TypeId) :
   (Builtin.clear_ #[29] ty #[.slice (some ⟨g, i * 2, none⟩) (n - i) (c - i)]).run Tryz.prog w = .ok (.tuple #[]) (w.setCells g (i * 2) (pCells (List.replicate (n - i) zVS))) ∧
   MRow (w.setCells g (i * 2) (pCells (List.replicate (n - i) zVS))) L (.slice (some ⟨g, 0, none⟩) i c) (ps.take i) ∧ w.grownBy (w.setCells g (i * 2) (pCells (List.replicate (n - i) zVS))) (some g) := by
 have h1 : ∀ v ∈ pCells (List.replicate (n - i) zVS), v.oneCell' = true := by
   intro v hv
   simp only [pCells, List.mem_flatMap] at hv
   obtain ⟨p, hp, hv⟩ := hv
   obtain rfl := (List.mem_replicate.1 hp).2
   simp [zVS] at hv
   rcases hv with rfl | rfl <;> rfl
 have hl : (pCells (List.replicate (n - i) zVS)).length = (n - i) * 2 := by rw [pCells_length]; simp
 have hat : ∀ j, i * 2 ≤ j → j < n * 2 → w.cell? ⟨g, j, none⟩ = (pCells ps)[j]? := fun j _ hj => by
   subst hn
   exact h.own.cellAt j hj
 have hst := run_storeCells_cells (P := Tryz.prog) g (i * 2) (pCells (List.replicate (n - i) zVS)) 0 w (fun j hj => by
   rw [hl] at hj
   rw [Nat.add_zero, hat (i * 2 + j) (by omega) (by omega), List.getElem?_eq_getElem (by rw [pCells_length, hn]; omega)]; rfl) (fun j hj => by subst hn; exact h.own.frozenAt _) h1
 rw [Nat.add_zero] at hst
 have hgr : ∀ (vs : List Value) (o : Nat) (W : World), w.grownBy W (some g) → w.grownBy (W.setCells g o vs) (some g) := by
   intro vs
   induction vs with
   | nil => intro o W hW; exact hW
   | cons v r ih => intro o W hW; exact ih (o + 1) _ (grownBy_setCell (p := ⟨g, o, none⟩) hW (.inl rfl) v)
 have hG := hgr (pCells (List.replicate (n - i) zVS)) (i * 2) w (World.grownBy.refl _ _)
 have hown : ∀ (vs : List Value) (o : Nat) (W : World) (xs : List Value), W.ownsRow L 31 2 (.slice (some ⟨g, 0, none⟩) n c) n xs → ∃ ys, (W.setCells g o vs).ownsRow L 31 2 (.slice (some ⟨g, 0, none⟩) n c) n ys ∧ ∀ j, j < o → ys[j]? = xs[j]? := by
   intro vs
   induction vs with
   | nil => intro o W xs hW; exact ⟨xs, hW, fun _ _ => rfl⟩
   | cons v r ih =>
     intro o W xs hW
     obtain ⟨ys, h2, h3⟩ := ih (o + 1) _ _ (hW.stored o v).1
     exact ⟨ys, h2, fun j hj => by rw [h3 j (by omega), List.getElem?_set_ne (by omega)]⟩
 have h0 := h.own
 rw [hn] at h0
 obtain ⟨ys, h2, h3⟩ := hown (pCells (List.replicate (n - i) zVS)) (i * 2) w _ h0
 refine ⟨?_, ?_, hG⟩
 · obtain ⟨m, hm⟩ : ∃ m, n - i = m + 1 := ⟨n - i - 1, by omega⟩
   rw [hm] at hst ⊢
   have hu : Tryz.prog.underlying 29 = some (.slice 31) := Tryz.underlying29
   simp [Builtin.clear_, run_underlying hu, zeroVal, zcells, hst]
 · refine MRow.turn (A := w) (ps := ps) h hG hL ?_ (fun p hp => .inl (List.mem_of_mem_take hp))
   have hli : (ps.take i).length = i := by simp; omega
   rw [hli]
   have e : ys.take (i * 2) = pCells (ps.take i) := by
     rw [← pCells_take]
     apply List.ext_getElem?
     intro j
     by_cases hj : j < i * 2
     · rw [List.getElem?_take_of_lt hj, List.getElem?_take_of_lt hj, h3 j hj]
     · rw [List.getElem?_eq_none (by simp; omega), List.getElem?_eq_none (by simp; omega)]
   rw [← e]
   refine ⟨by rw [List.length_take, h2.1]; omega, ?_⟩
   rcases h2.2 with ⟨e, _⟩ | ⟨g', cap, cur, e, h3, h4, h5, h6, h7, h8⟩
   · cases e
   · injection e with e1 e2 e3
     injection e1 with e1
     injection e1 with e1
     subst e1 e3
     refine .inr ⟨g, _, cur, rfl, h3, h4, by omega, h6, h7, ?_⟩
     rw [← h8, List.take_take]
     congr 1; omega

theorem cells_of_box {W w7 : World} {L n c i : Nat} {ad : Addr} {pr : List VS} {x : Int} {s : Value} (h : MRow W L (.slice (some ad) n c) pr) (hn : pr.length = n) (hi : i < n) (hL : L ≤ W.heap.size) (hg : Bw (W.alloc (.cells #[.int .i64 x, s] 31)) w7) :
   w7.cell? ⟨W.heap.size, 0, none⟩ = some (.int .i64 x) ∧ w7.cell? ⟨W.heap.size, 1, none⟩ = some s ∧ (∃ u, w7.cell? (ad.add (i * 2)) = some u) ∧ (∃ u, w7.cell? ⟨(ad.add (i * 2)).block, (ad.add (i * 2)).off + 1, none⟩ = some u) ∧
   w7.frozen? (ad.add (i * 2)) = false ∧ w7.frozen? ⟨(ad.add (i * 2)).block, (ad.add (i * 2)).off + 1, none⟩ = false ∧ ad.block < w7.heap.size ∧ W.heap.size < w7.heap.size ∧ (∃ u, ∀ v, (w7.setCell (ad.add (i * 2)) v).cell? ⟨(ad.add (i * 2)).block, (ad.add (i * 2)).off + 1, none⟩ = some u) := by
 have hb : Bw W w7 := ((Bw.refl _).alloc _).trans hg
 have k := (Blk.new W 31 #[.int .i64 x, s]).below hg.b (by simp)
 obtain ⟨-, h2, -, q0, q1, q2, q3⟩ := (h.bw hb hL).cells hn hi
 exact ⟨k.cell 0, k.cell 1, ⟨_, q0⟩, ⟨_, q1⟩, q2, q3, h2, k.lt, _, fun v => (World.cell?_setCell_other _ _ _ _ (fun e => by have := congrArg Addr.off e; simp at this)).trans q1⟩
theorem delVal_any (L : Nat) (ps : List VS) (p : V → Bool) (g : Nat) (cb : Array Value) (eg : ∀ args w, (callFunc g args).run Tryz.prog w = .ok (.enter g args) w) (s : Value) (w : World) (h : MRow w L s ps) (hL : L ≤ w.heap.size)
   (hc : ∀ v ∈ ps.map (·.1), ∀ (s' : Value) (W : World), w.grownBy W s.ownBlock → KB W W.heap.size s' v.ks → Calls Tryz.prog g (#[.agg #[.int .i64 v.n, s']] ++ cb) W (BoolPost W (p v))) :
   Calls Tryz.prog 181 #[s, .func (.func g) #[] cb] w (DelPost w L s (ps.filter fun x => !p x.1)) := by
 obtain ⟨A, c, rfl, bn, mn⟩ := h.form
 unfold maxLen at mn
 have CI := Lib.hid (idxVal_any (ps.map (·.1)) p g cb eg _ w (h.kb hL) (fun v hv s' W hg hk => hc v hv s' W (gb_any hg _) hk))
 have HC := Lib.hid hc
 have H := Lib.hid h
 have HL := Lib.hid hL
 clear hc h hL
 generalize hn : ps.length = n at *
 have HN := Lib.hid hn
 clear hn
 by_cases hi : idxP p (ps.map (·.1)) = -1
 · rw [hi] at CI
   have HF : Hid (ps.filter (fun x => !p x.1) = ps) := Lib.hid (by
     have := idxP_neg hi
     rw [List.filter_map] at this
     have e : (ps.filter (fun x => !p x.1)).length = ps.length := by
       have := congrArg List.length this
       simpa using this
     exact List.filter_eq_self.2 (by have := List.length_filter_eq_length_iff.1 e; exact this))
   rw [HF.out]
   clear hi
   go_enter Tryz.func181, Tryz.ntmps181
   go_wp2_with (go_at_call 243; go_must (refine CI.out.mono ?_; rintro e w6 ⟨rfl, hg6⟩; (have HG6 := Lib.hid hg6); clear hg6))
   go_ret
   exact ⟨_, rfl, H.out.bw HG6.out HL.out, gb_any HG6.out _, rfl⟩
 · obtain ⟨k0, hk0, e0, hp0, ht0⟩ := idxP_pos hi
   rw [e0] at CI
   have hk1 : k0 < n := by have := HN.out; simp at hk0; omega
   have HD : Hid (DelI ps ps p k0 (k0 + 1)) := Lib.hid (DelI.start (by have := HN.out; omega) (by
     rw [← List.map_take, List.filter_map] at ht0
     have e : ((ps.take k0).filter (fun x => !p x.1)).length = (ps.take k0).length := by
       have := congrArg List.length ht0
       rw [List.length_map, List.length_map] at this
       exact this
     exact List.filter_eq_self.2 (List.length_filter_eq_length_iff.1 e)) (by simpa using hp0))
   obtain ⟨gb, eA, -⟩ := H.out.at_ HN.out hk1
   have hk9 : ((k0 : Int) == -1) = false := by simp
   obtain ⟨ad, rfl⟩ : ∃ ad, A = some ad := ⟨_, eA⟩
   clear hi e0 hp0 ht0 hk0 eA
   go_enter Tryz.func181, Tryz.ntmps181
   go_wp2_with (go_at_call 243; go_must (refine CI.out.mono ?_; rintro e w6 ⟨rfl, hg6⟩; (have HG6 := Lib.hid hg6); clear hg6))
   go_loopw [5, 6] (fun s5 s6 wr => ∃ i j : Nat, i < j ∧ j ≤ n ∧ s5 = .int .i64 i ∧ s6 = .int .i64 j ∧ Hid (∃ pr, DelI ps pr p i j ∧ MRow wr L (.slice (some ad) n c) pr ∧ w.grownBy wr (some ad.block))) (fun _ s6 _ => n - (intOf s6).toNat)
   case atStart => exact ⟨k0, k0 + 1, by omega, by omega, rfl, by go_num, Lib.hid ⟨ps, HD.out, H.out.bw HG6.out HL.out, gb_any HG6.out _⟩⟩
   case round =>
     obtain ⟨i, j, hij, hjn, rfl, rfl, HR⟩ := hrel
     obtain ⟨pr, hd, hm, hg⟩ := HR.out
     have hLr : L ≤ wr.heap.size := Nat.le_trans HL.out hg.size
     have hpn : pr.length = n := hd.len.trans HN.out
     by_cases hlt : j < n
     · have hj1 : j < ps.length := by rw [HN.out]; exact hlt
       have hj2 : j < pr.length := by rw [hpn]; exact hlt
       obtain ⟨-, hbl, -, q0, q1, -, -⟩ := hm.cells hpn hlt
       have hi2 : i < n := by omega
       rw [hd.get hj1] at q0 q1
       have hxm : ps[j] ∈ pr := by rw [← hd.get hj1]; exact List.getElem_mem _
       have hkx : KAt wr (· < L) ps[j].2 ps[j].1.ks := hm.kid _ hxm
       have HX := Lib.hid hxm
       obtain ⟨sA, sn, sc, es, _, _, _⟩ := hkx.form
       rw [es] at hkx q1
       have CM : Hid (∀ o, Calls Tryz.prog g (#[.agg #[.int .i64 ps[j].1.n, .slice sA sn sc]] ++ cb) (wr.alloc o) (BoolPost (wr.alloc o) (p ps[j].1))) := Lib.hid (fun o => HC.out _ (List.mem_map_of_mem (List.getElem_mem hj1)) _ _ (gb_trans hg (gb_any ((Bw.refl _).alloc _) _)) (hkx.keep (fun b hb => by simp; omega) (fun q hq => World.cell?_alloc_lt wr _ q (by omega))))
       have HES := Lib.hid es
       have HM := Lib.hid hm
       have HG := Lib.hid hg
       have HD2 := Lib.hid hd
       have HPN := Lib.hid hpn
       clear hkx hm hg hd HR es hxm hpn
       rcases hp : p ps[j].1 with _ | _
       · rw [hp] at CM
         have HP := Lib.hid hp
         clear hp
         generalize hx : ps[j] = x at *
         have HXX := Lib.hid hx
         clear hx
         generalize hxn : x.1.n = xn at *
         have HXN := Lib.hid hxn
         clear hxn
         have CB := Lib.hid (fun w7 (hg7 : Bw (wr.alloc (.cells #[.int .i64 xn, .slice sA sn sc] 31)) w7) => cells_of_box (i := i) HM.out HPN.out hi2 hLr hg7)
         go_wp2_with (go_at_fn g; go_must (refine (CM.out _).mono ?_; rintro e w7 ⟨rfl, hg7⟩; obtain ⟨b0, b1, ⟨u0, k0'⟩, ⟨u1, k1'⟩, r0, r1, r2, r3, ⟨u2, r4⟩⟩ := CB.out w7 hg7; (have HG7 := Lib.hid hg7); clear hg7))
         go_roundw
         case rel =>
           have hb : Bw wr w7 := ((Bw.refl _).alloc _).trans HG7.out
           have h1 := (HM.out.bw hb hLr).put HPN.out (Nat.le_trans hLr hb.size) hi2 HX.out (W := (w7.setCell (ad.add (i * 2)) (.int .i64 xn)).setCell ⟨(ad.add (i * 2)).block, (ad.add (i * 2)).off + 1, none⟩ (.slice sA sn sc)) (by rw [HXN.out, ← HES.out])
           refine ⟨i + 1, j + 1, by omega, by omega, by go_num, by go_num, Lib.hid ⟨pr.set i x, ?_, h1.1, gb_trans HG.out (gb_trans (gb_any hb _) h1.2)⟩⟩
           have := HD2.out.keep hj1 (by rw [HXX.out]; exact HP.out)
           rwa [HXX.out] at this
         case measure => simp [intOf]; omega
       · rw [hp] at CM
         have HP := Lib.hid hp
         clear hp
         generalize ps[j].1.n = x at *
         go_wp2_with (go_at_fn g; go_must (refine (CM.out _).mono ?_; rintro e w7 ⟨rfl, hg7⟩; (have HG7 := Lib.hid hg7); clear hg7))
         go_roundw
         case rel =>
           have hb : Bw wr w7 := ((Bw.refl _).alloc _).trans HG7.out
           exact ⟨i, j + 1, by omega, by omega, rfl, by go_num, Lib.hid ⟨pr, HD2.out.skip hj1 HP.out, HM.out.bw hb hLr, gb_trans HG.out (gb_any hb _)⟩⟩
         case measure => simp [intOf]; omega
     · obtain rfl : j = n := by omega
       have hi2 : i < j := hij
       obtain ⟨-, -, -, -, -, -, -⟩ := hm.cells hpn hi2
       have ead : ad = ⟨ad.block, 0, none⟩ := (hm.cells hpn hi2).2.2.1
       have e1 : ad.add (i * 2) = ⟨ad.block, i * 2, none⟩ := by
         rw [ead]; unfold Addr.add
         by_cases h0 : i * 2 = 0 <;> simp [h0]
       have hm' : MRow wr L (.slice (some ⟨ad.block, 0, none⟩) j c) pr := by rw [← ead]; exact hm
       have hcl := fun ty => (own_clear hm' hpn hLr hi2 ty).1
       obtain ⟨hm2, hg2⟩ := (own_clear hm' hpn hLr hi2 0).2
       rw [← ead] at hm2
       rw [← e1] at hcl
       have hcut : ∀ W, (Instr.slice 29 (.slice (some ad) j c) (some (.int .i64 (i : Int))) none none).run Tryz.prog W = .ok (.slice (some (ad.add (i * 2))) (j - i) (c - i)) W := fun W => by
         rw [cutV_l (some ad) j c i (by omega) W]
         unfold sliced
         rw [if_neg (by omega)]; rfl
       have HM2 := Lib.hid hm2
       have HG2 := Lib.hid (gb_trans hg hg2)
       have HD3 := Lib.hid hd
       clear hm2 hg2 hm hm' hg hd HR ead e1 hpn
       generalize wr.setCells ad.block (i * 2) (pCells (List.replicate (j - i) zVS)) = w9 at *
       go_wp2
       go_ret
       refine ⟨_, rfl, ?_, HG2.out, rfl⟩
       have := HD3.out
       rw [← HN.out] at this
       rw [← this.done]
       exact HM2.out
end
section
open Go.RowKit Go.Sort
def KV (w : World) (L : Nat) : Type := { x : VS // KAt w (· < L) x.2 x.1.ks }
instance (w : World) (L : Nat) : Inhabited (KV w L) := ⟨⟨(.mk 0 [], .slice none 0 0), KAt.nil _ _ (Nat.zero_le _)⟩⟩
def encKV {w : World} {L : Nat} (x : KV w L) : List Value := [.int .i64 x.1.1.n, x.1.2]
def cmpKV {w : World} {L : Nat} (x y : KV w L) : Int := cmpV x.1.1 y.1.1
theorem swoKV (w : World) (L : Nat) : SWO (ltOf (cmpKV (w := w) (L := L))) where
 irrefl x := by simp [ltOf, cmpKV, cmp_self]
 trans x y z h1 h2 := by
   have h1 : cmpV x.1.1 y.1.1 < 0 := of_decide_eq_true h1
   have h2 : cmpV y.1.1 z.1.1 < 0 := of_decide_eq_true h2
   refine decide_eq_true (p := cmpV x.1.1 z.1.1 < 0) ?_
   have r1 := cmp_range x.1.1 y.1.1
   have r2 := cmp_range y.1.1 z.1.1
   have := cmp_trans x.1.1 y.1.1 z.1.1 (by omega) (by omega)
   omega
 ntrans x y z h1 h2 := by
   have h1 : ¬ cmpV x.1.1 y.1.1 < 0 := of_decide_eq_false h1
   have h2 : ¬ cmpV y.1.1 z.1.1 < 0 := of_decide_eq_false h2
   refine decide_eq_false (p := cmpV x.1.1 z.1.1 < 0) ?_
   have a1 := cmp_anti x.1.1 y.1.1
   have a2 := cmp_anti y.1.1 z.1.1
   have a3 := cmp_anti x.1.1 z.1.1
   have := cmp_le_trans (a := z.1.1) (b := y.1.1) (c := x.1.1) (by omega) (by omega)
   omega
def pairsK {w : World} {L : Nat} (d : List (KV w L)) : List VS := d.map (·.1)
theorem flatK_cells {w : World} {L : Nat} (d : List (KV w L)) : (flatK encKV 2 d.toArray).toList = pCells (pairsK d) := by
 apply List.ext_getElem
 · rw [pCells_length]; simp [pairsK]
 · intro i h1 h2
   have h3 : i < d.length * 2 := by rw [pCells_length] at h2; simpa [pairsK] using h2
   have h4 := pCells_get (ps := pairsK d) (k := i / 2) (by simp [pairsK]; omega)
   have e : (flatK encKV 2 d.toArray).toList[i] = (encKV (d[i / 2]'(by omega)))[i % 2]! := by
     have := get_flatK encKV 2 d.toArray i (by simpa using h3)
     rw [getElem!_pos _ i (by simpa using h3)] at this
     rw [Array.getElem_toList, this]
     simp [show i / 2 < d.length by omega]
   rw [e]
   have hm := Nat.div_add_mod i 2
   rcases Nat.mod_two_eq_zero_or_one i with h0 | h0
   · have e1 : i / 2 * 2 = i := by omega
     rw [e1, List.getElem?_eq_getElem h2] at h4
     rw [Option.some.inj h4.1, h0]
     simp [encKV, pairsK]
   · have e1 : i / 2 * 2 + 1 = i := by omega
     rw [e1, List.getElem?_eq_getElem h2] at h4
     rw [Option.some.inj h4.2, h0]
     simp [encKV, pairsK]
def attachK {w : World} {L : Nat} : (ps : List VS) → (∀ p ∈ ps, KAt w (· < L) p.2 p.1.ks) → List (KV w L)
 | [], _ => []
 | p :: r, h => ⟨p, h p (by simp)⟩ :: attachK r fun q hq => h q (by simp [hq])
theorem pairsK_attach {w : World} {L : Nat} : ∀ (ps : List VS) (h : ∀ p ∈ ps, KAt w (· < L) p.2 p.1.ks), pairsK (attachK ps h) = ps
 | [], _ => rfl
 | p :: r, h => congrArg (p :: ·) (pairsK_attach r _)
theorem holdsK_row {w : World} {L g n c : Nat} {ps : List VS} (h : MRow w L (.slice (some ⟨g, 0, none⟩) n c) ps) (hn : ps.length = n) : HoldsK encKV 2 w g 0 (attachK ps h.kid).toArray := by
 subst hn
 intro j hj
 have hl : (attachK ps h.kid).length = ps.length := by
   have := congrArg List.length (pairsK_attach ps h.kid)
   simpa [pairsK] using this
 have hj2 : j < ps.length * 2 := by simpa [hl] using hj
 refine ⟨?_, h.own.frozenAt _⟩
 rw [Nat.zero_add, h.own.cellAt j hj2]
 have e := flatK_cells (attachK ps h.kid)
 rw [pairsK_attach] at e
 rw [← e, Array.getElem?_toList, Array.getElem?_eq_getElem hj, getElem!_pos _ j hj]
 rfl
theorem setCells_own {L g n c : Nat} {e : TypeId} : ∀ (vs : List Value) (o : Nat) (W : World) (xs : List Value), W.ownsRow L e 2 (.slice (some ⟨g, 0, none⟩) n c) n xs → o + vs.length = n * 2 → (W.setCells g o vs).ownsRow L e 2 (.slice (some ⟨g, 0, none⟩) n c) n (xs.take o ++ vs)
 | [], o, W, xs, h, hl => by
   have h1 := h.1
   rw [List.append_nil, List.take_of_length_le (by simp at hl; omega)]; exact h
 | v :: r, o, W, xs, h, hl => by
   have h2 := setCells_own r (o + 1) _ _ (h.stored o v).1 (by simp at hl; omega)
   have h1 := h.1
   have e : (xs.set o v).take (o + 1) ++ r = xs.take o ++ v :: r := by
     rw [List.take_succ_eq_append_getElem (by simp at hl ⊢; omega), List.take_set_of_le (Nat.le_refl _)]
     simp
   rw [e] at h2
   exact h2
theorem setCells_gb {g : Nat} {w : World} : ∀ (vs : List Value) (o : Nat) (W : World), w.grownBy W (some g) → w.grownBy (W.setCells g o vs) (some g)
 | [], _, _, h => h
 | v :: r, o, W, h => setCells_gb r (o + 1) _ (grownBy_setCell (p := ⟨g, o, none⟩) h (.inl rfl) v)
theorem gb_grow (w : World) (os : Array Obj) (row : Option Nat) : w.grownBy (grow w os) row :=
 ⟨rfl, rfl, rfl, by simp, fun k hk _ => heap_grow_old w os hk⟩
theorem sortWorld_eq {w : World} {L g q : Nat} (d0 d : List (KV w L)) (os : Array Obj) (hH : HoldsK encKV 2 w g 0 d0.toArray) (hl : d.length = d0.length) :
   sortWorldK encKV 2 w g 0 q d.toArray os = grow ((w.drewN q).setCells g 0 (pCells (pairsK d))) os := by
 unfold sortWorldK putRowK
 have := Go.Lib.putRow_eq_setCells id w g 0 (flatK encKV 2 d0.toArray) (flatK encKV 2 d.toArray).toList q hH (by simp [hl])
 rw [Array.toArray_toList, List.map_id, flatK_cells] at this
 rw [this]
def SortPostP (w : World) (L : Nat) (s : Value) (ps : List VS) (e : Ending) (w' : World) : Prop := e = .returned (.tuple #[]) ∧ ∃ qs, MRow w' L s qs ∧ qs.map (·.1) = sortV (ps.map (·.1)) ∧ w.grownBy w' s.ownBlock ∧ ∀ q ∈ qs, q ∈ ps
theorem insNone_any (A : Option Addr) (c : Nat) (fv : Value) (w : World) : Calls Tryz.prog 301 #[.slice A 0 c, .int .i64 0, .int .i64 0, fv] w fun e w' => e = .returned (.tuple #[]) ∧ w = w' := by
 go_enter Tryz.func301, Tryz.ntmps301
 go_wp2
 refine wp_loop_rounds 1 ?_
 rw [rounds_succ]
 go_wp2
 go_end0
 exact ⟨rfl, rfl⟩
theorem pdqNone_any (A : Option Addr) (c : Nat) (lim : Int) (fv : Value) (w : World) : Calls Tryz.prog 246 #[.slice A 0 c, .int .i64 0, .int .i64 0, .int .i64 lim, fv] w fun e w' => e = .returned (.tuple #[]) ∧ w = w' := by
 go_enter Tryz.func246, Tryz.ntmps246
 go_wp2
 refine wp_loop_rounds 1 ?_
 rw [rounds_succ]
 go_wp2_with (go_at_call 301; refine (insNone_any A c fv _).mono ?_; rintro e w' ⟨rfl, rfl⟩)
 (try simp only [Exit.inBlock, Exit.then]); refine bodyPost_ret (results_none rfl _ _ _) rfl ?_
 exact ⟨rfl, rfl⟩
theorem sortNone_any (A : Option Addr) (c : Nat) (fv : Value) (w : World) : Calls Tryz.prog 183 #[.slice A 0 c, fv] w fun e w' => e = .returned (.tuple #[]) ∧ w = w' := by
 have hl : Calls Tryz.prog 218 #[.int .u64 0] w fun e w' => e = .returned (.int .i64 ((Lib.bitLen 0 : Nat) : Int)) ∧ w = w' := (Tryz.bits_Len 0 w (by omega) (by omega)).mono fun e w' h => ⟨h.1, h.2.symm⟩
 generalize ((Lib.bitLen 0 : Nat) : Int) = r at hl
 go_enter Tryz.func183, Tryz.ntmps183
 go_wp2_with (first | (go_at_call 218; go_must (refine hl.mono ?_; rintro e w' ⟨rfl, rfl⟩)) | (go_at_call 246; go_must (refine (pdqNone_any A c r fv _).mono ?_; rintro e w' ⟨rfl, rfl⟩)))
 go_end0
 exact ⟨rfl, rfl⟩
theorem sortValP_any (L : Nat) (ps : List VS) (s : Value) (w : World) (h : MRow w L s ps) (hL : L ≤ w.heap.size) (h9 : ps.length ≤ 1000000) :
   Calls Tryz.prog 183 #[s, .func (.func 172) #[] #[]] w (SortPostP w L s ps) := by
 obtain ⟨A, c, rfl, bn, mn⟩ := h.form
 by_cases h0 : ps.length = 0
 · obtain rfl := List.eq_nil_of_length_eq_zero h0
   refine (sortNone_any A c _ w).mono ?_
   rintro e w' ⟨rfl, rfl⟩
   exact ⟨rfl, [], h, rfl, World.grownBy.refl _ _, fun q hq => hq⟩
 · obtain ⟨g, rfl, hLg, hgl, _⟩ := h.at_ rfl (k := 0) (by omega)
   have hl : (attachK ps h.kid).length = ps.length := by
     have := congrArg List.length (pairsK_attach ps h.kid)
     simpa [pairsK] using this
   have hH := holdsK_row h rfl
   have hcon := AnyQ.slices_SortFunc Tryz.sortVal 2 Tryz.isAgg31 Tryz.sizeOf31 encKV (fun _ => rfl) (fun x v hv => by
       obtain ⟨A, n, c, e, _⟩ := x.2.form
       simp [encKV] at hv
       rcases hv with rfl | rfl
       · rfl
       · rw [e]; rfl) cmpKV (swoKV w L) 172 #[] g 0 c (attachK ps h.kid).toArray w (enters_of Tryz.func172 (by kernel_rfl) rfl)
     (fun m os dk hdk x y => by
       have key : ∀ z : KV w L, KB (sortWorldK encKV 2 w g 0 m dk os) (sortWorldK encKV 2 w g 0 m dk os).heap.size z.1.2 z.1.1.ks := fun z => z.2.keep (fun b hb => by
           have := size_sortWorldK_c encKV 2 w g 0 m dk os; omega) (fun p hp => by
           unfold sortWorldK
           rw [cell?_grow _ _ _ (by unfold putRowK; rw [Sort.size_putRow]; exact Nat.lt_of_lt_of_le hp hL), cell?_putRowK_other _ _ _ _ _ _ _ (by omega)]
           rfl)
       refine (cmp_any x.1.1 y.1.1 x.1.2 y.1.2 _ (key x) (key y)).mono ?_
       rintro e w' ⟨rfl, hg⟩
       obtain ⟨q, os', e⟩ := hg.form
       exact ⟨rfl, q, os', e⟩) hH hgl (by simp [hl]; omega)
   have hcon' := hcon
   rw [show (attachK ps h.kid).toArray.size = ps.length by simp [hl]] at hcon'
   change Calls Tryz.prog 183 _ _ _ at hcon'
   refine hcon'.mono ?_
   rintro e w' ⟨rfl, d', q, os, hp, hs, rfl⟩
   obtain ⟨d2, rfl⟩ : ∃ d2 : List (KV w L), d' = d2.toArray := ⟨d'.toList, by simp⟩
   have hl2 : d2.length = (attachK ps h.kid).length := by simpa using hp.1
   have hperm : d2.Perm (attachK ps h.kid) := by
     have := hp.2.2
     simp only [List.extract_toArray, List.extract_eq_take_drop, List.drop_zero, Nat.sub_zero] at this
     rwa [List.take_of_length_le (by omega), List.take_of_length_le (by omega)] at this
   have hperm2 : (pairsK d2).Perm ps := by
     have := hperm.map (fun x : KV w L => x.1)
     rw [← pairsK_attach ps h.kid]; exact this
   rw [sortWorld_eq (attachK ps h.kid) d2 os hH hl2]
   have ho : ((w.drewN q).setCells g 0 (pCells (pairsK d2))).ownsRow L 31 2 (.slice (some ⟨g, 0, none⟩) ps.length c) ps.length (pCells (pairsK d2)) := by
     have := setCells_own (pCells (pairsK d2)) 0 (w.drewN q) _ (show (w.drewN q).ownsRow L 31 2 (.slice (some ⟨g, 0, none⟩) ps.length c) ps.length (pCells ps) from h.own) (by rw [pCells_length, hperm2.length_eq]; omega)
     simpa using this
   have hgb : w.grownBy ((w.drewN q).setCells g 0 (pCells (pairsK d2))) (some g) := setCells_gb _ _ _ ⟨rfl, rfl, rfl, Nat.le_refl _, fun _ _ _ => rfl⟩
   have hgb2 : w.grownBy (grow ((w.drewN q).setCells g 0 (pCells (pairsK d2))) os) (some g) := grownBy_trans hgb (gb_grow _ _ _)
   refine ⟨rfl, pairsK d2, h.turn hgb2 hL ?_ (fun p hp => .inl (hperm2.subset hp)), ?_, hgb2, fun q hq => hperm2.subset hq⟩
   · rw [hperm2.length_eq]
     exact ho.kept (gb_grow _ os none) (.inr (by simp [Value.ownBlock]))
   · refine sortV_eq (hperm2.map _) (pair_sorted ?_)
     rw [List.pairwise_iff_getElem]
     intro i j hi hj hij
     have h1 : i < d2.length := by simpa [pairsK] using hi
     have h2 : j < d2.length := by simpa [pairsK] using hj
     have h3 := hs i j (Nat.zero_le _) hij (by omega)
     have e1 : d2.toArray[i]! = d2[i] := by simp [h1]
     have e2 : d2.toArray[j]! = d2[j] := by simp [h2]
     rw [e1, e2] at h3
     have h3 : ¬ cmpV d2[j].1.1 d2[i].1.1 < 0 := of_decide_eq_false h3
     have := cmp_anti d2[i].1.1 d2[j].1.1
     simp only [pairsK, List.getElem_map]
     omega
end
end Go.Proofs.YthhbkabdhkdafaaGreat
