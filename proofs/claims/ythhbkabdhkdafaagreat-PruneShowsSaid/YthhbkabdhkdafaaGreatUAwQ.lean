/- Part of a proof of pruneShows_holds. -/
import Derived.Test.YthhbkabdhkdafaaGreatUApQ
import Derived.Test.YthhbkabdhkdafaaGreatUAmQ
import Derived.Test.YthhbkabdhkdafaaGreatUArQ
set_option linter.unusedSimpArgs false
set_option linter.unusedVariables false
set_option maxRecDepth 100000
set_option maxHeartbeats 16000000
namespace Go.Proofs.YthhbkabdhkdafaaGreat
section
variable {m : Mdl}
/-! ### the law's own search -/
end
section
open Go.RowKit
theorem bmin1_any (t : T) [Nonempty (FlatT t)] (ht : rightP 8 t = true) (x v : V) (hx : oneP 8 t x = true) (hv : oneP 8 t v = true) (g1 g2 : Nat) (rv pv s s2 : Value) (W : World) (hg : Blk W g1 50 #[.int .i64 t.kind, .int .i64 t.size, rv, pv]) (hg2 : Blk W g2 31 #[.int .i64 v.n, s2]) (hT : TB W W.heap.size rv pv t) (h : KB W W.heap.size s x.ks) (h2 : KB W W.heap.size s2 v.ks) :
   Calls Tryz.prog 179 (#[.agg #[.int .i64 x.n, s]] ++ #[.pointer (some ⟨g1, 0, none⟩), .pointer (some ⟨g2, 0, none⟩)]) W (BoolPost W (belowP 8 t x v)) := by
 obtain ⟨A, n, c, rfl, _, _, _⟩ := h.form
 obtain ⟨B, m, e, rfl, _, _, _⟩ := h2.form
 obtain ⟨A1, rn, c1, rfl, _, _⟩ := hT.1.form'
 obtain ⟨A2, pn, c2, rfl, _, _, _⟩ := hT.2.form
 have OV : Hid (∀ W', Bw W W' → Calls Tryz.prog 180 #[.agg #[.int .i64 t.kind, .int .i64 t.size, .slice A1 rn c1, .slice A2 pn c2], .agg #[.int .i64 x.n, .slice A n c], .agg #[.int .i64 v.n, .slice B m e]] W' (BoolPost W' (belowP 8 t x v))) := Lib.hid (fun W' g => oBelow_any 6 t ht x v hx hv _ _ _ _ W' (TAt.bw hT g) (h.bw g) (h2.bw g))
 have q0 := hg.cell 0
 have q1 := hg.cell 1
 have q2 := hg.cell 2
 have q3 := hg.cell 3
 have q4 := hg.lt
 have p0 := hg2.cell 0
 have p1 := hg2.cell 1
 have p2 := hg2.lt
 clear hg hg2 hT h h2 ht hx hv
 generalize belowP 8 t x v = q at *
 generalize v.n = y at *
 generalize x.n = xn at *
 generalize t.kind = k at *
 generalize t.size = z at *
 go_enter Tryz.func179, Tryz.ntmps179
 go_wp2_with (go_at_call 180; go_must (refine (OV.out _ ((Bw.refl _).alloc _)).mono ?_; rintro e w6 ⟨rfl, hg6⟩; have HG6 := Lib.hid hg6; clear hg6))
 go_ret
 exact ⟨rfl, ((Bw.refl _).alloc _).trans HG6.out⟩
theorem bmin2_any (t : T) [Nonempty (FlatT t)] (ht : rightP 8 t = true) (x v : V) (hx : oneP 8 t x = true) (hv : oneP 8 t v = true) (g1 g2 : Nat) (rv pv s s2 : Value) (W : World) (hg : Blk W g1 50 #[.int .i64 t.kind, .int .i64 t.size, rv, pv]) (hg2 : Blk W g2 31 #[.int .i64 v.n, s2]) (hT : TB W W.heap.size rv pv t) (h : KB W W.heap.size s x.ks) (h2 : KB W W.heap.size s2 v.ks) :
   Calls Tryz.prog 182 (#[.agg #[.int .i64 x.n, s]] ++ #[.pointer (some ⟨g1, 0, none⟩), .pointer (some ⟨g2, 0, none⟩)]) W (BoolPost W (belowP 8 t v x)) := by
 obtain ⟨A, n, c, rfl, _, _, _⟩ := h.form
 obtain ⟨B, m, e, rfl, _, _, _⟩ := h2.form
 obtain ⟨A1, rn, c1, rfl, _, _⟩ := hT.1.form'
 obtain ⟨A2, pn, c2, rfl, _, _, _⟩ := hT.2.form
 have OV : Hid (∀ W', Bw W W' → Calls Tryz.prog 180 #[.agg #[.int .i64 t.kind, .int .i64 t.size, .slice A1 rn c1, .slice A2 pn c2], .agg #[.int .i64 v.n, .slice B m e], .agg #[.int .i64 x.n, .slice A n c]] W' (BoolPost W' (belowP 8 t v x))) := Lib.hid (fun W' g => oBelow_any 6 t ht v x hv hx _ _ _ _ W' (TAt.bw hT g) (h2.bw g) (h.bw g))
 have q0 := hg.cell 0
 have q1 := hg.cell 1
 have q2 := hg.cell 2
 have q3 := hg.cell 3
 have q4 := hg.lt
 have p0 := hg2.cell 0
 have p1 := hg2.cell 1
 have p2 := hg2.lt
 clear hg hg2 hT h h2 ht hx hv
 generalize belowP 8 t v x = q at *
 generalize v.n = y at *
 generalize x.n = xn at *
 generalize t.kind = k at *
 generalize t.size = z at *
 go_enter Tryz.func182, Tryz.ntmps182
 go_wp2_with (go_at_call 180; go_must (refine (OV.out _ ((Bw.refl _).alloc _)).mono ?_; rintro e w6 ⟨rfl, hg6⟩; have HG6 := Lib.hid hg6; clear hg6))
 go_ret
 exact ⟨rfl, ((Bw.refl _).alloc _).trans HG6.out⟩

theorem bw_gb {a b c : World} {row : Option Nat} (h : Bw a b) (hg : b.grownBy c row) (hr : ∀ r, row = some r → a.heap.size ≤ r) : Bw a c := Below.grown h hg h.size hr
def MinPost (w : World) (l : List V) (e : Ending) (w' : World) : Prop := ∃ s qs, e = .returned s ∧ MRow w' w.heap.size s qs ∧ qs.map (·.1) = l ∧ Bw w w'
def MinPostS (S : Nat → Prop) (w : World) (l : List V) (e : Ending) (w' : World) : Prop := ∃ s qs, e = .returned s ∧ MRow w' w.heap.size s qs ∧ (∀ p ∈ qs, KAt w S p.2 p.1.ks) ∧ qs.map (·.1) = l ∧ Bw w w'
theorem foldl_snoc {α β : Type} (f : β → α → β) (b : β) (l : List α) (k : Nat) (h : k < l.length) : (l.take (k + 1)).foldl f b = f ((l.take k).foldl f b) l[k] := by
 rw [List.take_succ_eq_append_getElem h, List.foldl_append]; rfl
theorem minStep_pairs {f : V → V → Bool} {v : V} {ps : List VS} (h : (ps.map (·.1)).any (fun x => f x v) = false) (s : Value) : ((ps.filter fun x => !f v x.1) ++ [(v, s)]).map (·.1) = minStep f (ps.map (·.1)) v := by
 unfold minStep
 rw [if_neg (by rw [h]; simp), List.map_append, List.filter_map]
 rfl
theorem box_later {W w6 w7 : World} {L : Nat} {v : Value} {ps : List VS} {x : Int} {s : Value} (h : MRow W L v ps) (hg : Bw (W.alloc (.cells #[.int .i64 x, s] 31)) w6) (hg7 : w6.grownBy w7 v.ownBlock) :
   w7.cell? ⟨W.heap.size, 0, none⟩ = some (.int .i64 x) ∧ w7.cell? ⟨W.heap.size, 1, none⟩ = some s ∧ W.heap.size < w7.heap.size := by
 have k := ((Blk.new W 31 #[.int .i64 x, s]).below hg.b (by simp)).grown hg7 (fun e => by have := (h.own.lt _ e.symm).2; omega)
 exact ⟨k.cell 0, k.cell 1, k.lt⟩
theorem bminimalS_any (S : Nat → Prop) (t : T) [Nonempty (FlatT t)] (ht : rightP 8 t = true) (l : List V) (hl : ∀ x ∈ l, oneP 8 t x = true) (h9 : l.length ≤ 1000000) (rv pv s : Value) (w : World) (hT : TB w w.heap.size rv pv t) (hS : ∀ x, S x → x < w.heap.size) (hkS : KAt w S s l) :
   Calls Tryz.prog 116 #[.agg #[.int .i64 t.kind, .int .i64 t.size, rv, pv], s] w (MinPostS S w (minimalP (belowP 8 t) l)) := by
 have h : KB w w.heap.size s l := hkS.keep hS (fun _ _ => rfl)
 obtain ⟨A, n, c, rfl, ln, bn, mn⟩ := h.form
 unfold maxLen at mn
 obtain ⟨A1, rn, c1, rfl, _, _⟩ := hT.1.form'
 obtain ⟨A2, pn, c2, rfl, _, _, _⟩ := hT.2.form
 rw [ln] at h9
 have HK := Lib.hid h
 have HKS := Lib.hid hkS
 have HT := Lib.hid hT
 have HL := Lib.hid hl
 have HR := Lib.hid ht
 have LN := Lib.hid ln
 clear h hl ln ht hT hkS hS
 unfold minimalP minL
 obtain ⟨i0, hi, hz0, hz1, hz2⟩ := info_parts infoVal
 generalize hkd : t.kind = kd at *
 generalize hsz : t.size = sz at *
 have HKD := Lib.hid hkd
 have HSZ := Lib.hid hsz
 clear hkd hsz
 go_enter Tryz.func116, Tryz.ntmps116
 go_wp2
 have hb0 := Blk.new w 50 #[.int .i64 kd, .int .i64 sz, .slice A1 rn c1, .slice A2 pn c2]
 go_loopw [5, 10] (fun s5 i wr => ∃ k : Nat, k ≤ n ∧ i = .int .i64 k ∧ Hid (∃ ps, MRow wr w.heap.size s5 ps ∧ (∀ p ∈ ps, KAt w S p.2 p.1.ks) ∧ ps.map (·.1) = (l.take k).foldl (minStep (belowP 8 t)) [] ∧ Bw w wr ∧ Blk wr w.heap.size 50 #[.int .i64 kd, .int .i64 sz, .slice A1 rn c1, .slice A2 pn c2])) (fun _ i _ => n - (intOf i).toNat)
 case atStart => exact ⟨0, by omega, by go_num, Lib.hid ⟨[], MRow.nil _ _, fun p hp => absurd hp (by simp), rfl, (Bw.refl _).alloc _, hb0⟩⟩
 case round =>
   clear hb0
   obtain ⟨k, hk, rfl, HRR⟩ := hrel
   obtain ⟨ps, hm, hks, he, hw, hb⟩ := HRR.out
   have HKP := Lib.hid hks
   obtain ⟨VA, vc, rfl, _, _⟩ := hm.form
   have hLw : w.heap.size ≤ wr.heap.size := hw.size
   by_cases hlt : k < n
   · have e1 : k < l.length := by rw [LN.out]; exact hlt
     obtain ⟨ad, sA, sn, sc, rfl, hbl, q0, q1, sl, hs⟩ := (HK.out.under hw.b).at_ e1
     have hsS : KAt w S (.slice sA sn sc) l[k].ks := by
       obtain ⟨ad', sA', sn', sc', ea, _, _, q1', _, hs'⟩ := HKS.out.at_ e1
       obtain rfl := Option.some.inj ea
       have h1 := (hw.b.cell (p := ⟨(ad.add (k * 2)).block, (ad.add (k * 2)).off + 1, none⟩) (by show (ad.add (k * 2)).block < _; rw [add_block]; exact hbl)).trans q1'
       rw [q1] at h1
       rw [Option.some.inj h1]
       exact hs'
     have HSS := Lib.hid hsS
     have hv1 : oneP 8 t l[k] = true := HL.out _ (List.getElem_mem e1)
     have hpl : ps.length ≤ k := by
       have h1 := congrArg List.length he
       have h2 := fold_length (f := belowP 8 t) (l.take k) []
       simp at h1 h2
       omega
     have hpo : ∀ x ∈ ps.map (·.1), oneP 8 t x = true := by
       intro x hx
       rw [he] at hx
       have := (fold_spec (below_ord HR.out) (l.take k) [] (fun x hx => by simp at hx) (fun x hx => HL.out x (List.mem_of_mem_take hx)) .nil).2.1 x hx
       rcases this with h | h
       · simp at h
       · exact HL.out x (List.mem_of_mem_take h)
     have HSTEP := Lib.hid (foldl_snoc (minStep (belowP 8 t)) [] l k e1)
     -- the world with the value's box
     have CF : Hid (Calls Tryz.prog 174 #[.slice VA ps.length vc, .func (.func 179) #[] #[.pointer (some ⟨w.heap.size, 0, none⟩), .pointer (some ⟨wr.heap.size, 0, none⟩)]] (wr.alloc (.cells #[.int .i64 l[k].n, .slice sA sn sc] 31)) (BoolPost (wr.alloc (.cells #[.int .i64 l[k].n, .slice sA sn sc] 31)) ((ps.map (·.1)).any fun x => belowP 8 t x l[k]))) := Lib.hid (by
       have hbx := Blk.new wr 31 #[.int .i64 l[k].n, .slice sA sn sc]
       have hba := hb.alloc (.cells #[.int .i64 l[k].n, .slice sA sn sc] 31)
       have hwa : Bw w (wr.alloc (.cells #[.int .i64 l[k].n, .slice sA sn sc] 31)) := hw.alloc _
       exact contVal_any (ps.map (·.1)) _ 179 _ (enters_of Tryz.func179 (by kernel_rfl) rfl) _ _ ((hm.kb hLw).bw ((Bw.refl _).alloc _)) (fun x hx s' W hg hkx => by
         have := bmin1_any t HR.out x l[k] (hpo x hx) hv1 w.heap.size wr.heap.size (.slice A1 rn c1) (.slice A2 pn c2) s' (.slice sA sn sc) W (by rw [HKD.out, HSZ.out]; exact hba.below hg.b hba.lt) (hbx.below hg.b hbx.lt) (TAt.bw HT.out (hwa.trans hg)) hkx ((hs.under (Below.mono (((Bw.refl wr).alloc _).trans hg).b hLw)).more (hwa.trans hg).size)
         exact this))
     have CD : Hid (∀ w6, Bw (wr.alloc (.cells #[.int .i64 l[k].n, .slice sA sn sc] 31)) w6 → Calls Tryz.prog 181 #[.slice VA ps.length vc, .func (.func 182) #[] #[.pointer (some ⟨w.heap.size, 0, none⟩), .pointer (some ⟨wr.heap.size, 0, none⟩)]] w6 (DelPost w6 w.heap.size (.slice VA ps.length vc) (ps.filter fun x => !belowP 8 t l[k] x.1))) := Lib.hid (fun w6 g6 => by
       have hg6 : Bw wr w6 := ((Bw.refl wr).alloc _).trans g6
       have hbx := (Blk.new wr 31 #[.int .i64 l[k].n, .slice sA sn sc]).below g6.b (by simp)
       have hba := hb.below hg6.b hb.lt
       refine delVal_any w.heap.size ps (fun x => belowP 8 t l[k] x) 182 _ (enters_of Tryz.func182 (by kernel_rfl) rfl) _ w6 (hm.bw hg6 hLw) (Nat.le_trans hLw hg6.size) (fun x hx s' W hg hkx => ?_)
       have hW : Bw w W := bw_gb (hw.trans hg6) hg (fun r e => (hm.own.lt r e).1)
       exact bmin2_any t HR.out x l[k] (hpo x hx) hv1 w.heap.size wr.heap.size (.slice A1 rn c1) (.slice A2 pn c2) s' (.slice sA sn sc) W (by
           rw [HKD.out, HSZ.out]
           exact hba.grown hg (fun e => own_blk_ne hm.own hb (by decide) e.symm)) (hbx.grown hg (fun e => by have := (hm.own.lt _ e.symm).2; omega)) (TAt.bw HT.out hW) hkx ((hs.under (Below.mono ((Bw.refl wr).b) hLw) |>.keep (fun b hb => by have := hW.size; have h2 : b < w.heap.size := hb; omega) (fun q hq => by
             have h1 : W.cell? q = w.cell? q := hW.b.cell hq
             have h2 : wr.cell? q = w.cell? q := hw.b.cell hq
             rw [h1, h2]))))
     have HS := Lib.hid (hs.under (Below.refl w.heap.size wr))
     have HM := Lib.hid hm
     have HE := Lib.hid he
     have HW := Lib.hid hw
     have HB := Lib.hid hb
     have HPL := Lib.hid hpl
     clear hm he hw hb hs hpo hv1 HRR sl hpl hks hsS
     rcases hp : (ps.map (·.1)).any fun x => belowP 8 t x l[k] with _ | _
     · rw [hp] at CF
       have HP := Lib.hid hp
       clear hp
       generalize hqs : (ps.filter fun x => !belowP 8 t l[k] x.1) = qs at *
       have HQS := Lib.hid hqs
       have HQL : qs.length ≤ k := by rw [← hqs]; exact Nat.le_trans (List.length_filter_le _ _) HPL.out
       clear hqs
       generalize hx : l[k] = x at *
       have HX := Lib.hid hx
       clear hx
       obtain ⟨xn, hxn⟩ : ∃ xn, x.n = xn := ⟨_, rfl⟩
       rw [hxn] at CF CD q0
       have HXN := Lib.hid hxn
       clear hxn
       go_wp2_with (first
         | (go_at_call 174; go_must (refine CF.out.mono ?_; rintro e w6 ⟨rfl, hg6⟩; (have HG6 := Lib.hid hg6); clear hg6))
         | (go_at_call 181; go_must (refine (CD.out _ HG6.out).mono ?_; rintro e w7 ⟨s7, rfl, hm7, hg7, ho7⟩; obtain ⟨VA7, vc7, rfl, _, _⟩ := hm7.form; (have HM7 := Lib.hid hm7); (have HG7 := Lib.hid hg7); (have HO7 := Lib.hid ho7); (obtain ⟨b0, b1, hz7⟩ := box_later HM.out HG6.out hg7); clear hm7 hg7 ho7))
         | (at_builtin; go_must (refine wpList_append_any _ rfl _ _ 29 rfl w.heap.size 31 i0 _ 2 32 Tryz.underlying29 hi hz0 hz1 hz2 rfl (by decide) (.slice VA7 qs.length vc7) qs.length (pCells qs) rfl (HM7.out.own.alloc _) (w7.heap.size + 1) (some ⟨w7.heap.size, 0, none⟩) 1 1 [.int .i64 xn, .slice sA sn sc] rfl (reads_new2 w7 31 _ _) (one2 _ _ _ _) (by unfold maxLen; omega) (by omega) (by simp; omega) ?_; intro v8 w8 hown8 hgr8 hl8; obtain ⟨A8, c8, rfl⟩ := own_form hown8; (have HO8 := Lib.hid hown8); (have HG8 := Lib.hid hgr8); (have HL8 := Lib.hid hl8); clear hown8 hgr8 hl8)))
       go_roundw
       case rel =>
         have g6 : Bw wr w6 := ((Bw.refl wr).alloc _).trans HG6.out
         have g7 : Bw w w7 := bw_gb (HW.out.trans g6) HG7.out (fun r e => (HM.out.own.lt r e).1)
         have hL7 : w.heap.size ≤ w7.heap.size := g7.size
         have hm7 := HM7.out.bw ((Bw.refl w7).alloc (.cells #[.int .i64 xn, .slice sA sn sc] 31)) hL7
         have hb8 : Blk w8 w.heap.size 50 #[.int .i64 kd, .int .i64 sz, .slice A1 rn c1, .slice A2 pn c2] := by
           have h1 := (HB.out.below g6.b HB.out.lt).grown HG7.out (fun e => own_blk_ne HM.out.own HB.out (by decide) e.symm)
           exact (h1.alloc (.cells #[.int .i64 xn, .slice sA sn sc] 31)).grown HG8.out (fun e => own_blk_ne HM7.out.own h1 (by decide) e.symm)
         have hs8 : KAt (w7.alloc (.cells #[.int .i64 xn, .slice sA sn sc] 31)) (· < w.heap.size) (.slice sA sn sc) x.ks := HS.out.keep (fun b hb => hb) (fun q hq => by
           have h1 := (g7.alloc (.cells #[.int .i64 xn, .slice sA sn sc] 31)).b.cell (p := q) hq
           have h2 := HW.out.b.cell (p := q) hq
           rw [h1, h2])
         refine ⟨k + 1, by omega, by go_num, Lib.hid ⟨qs ++ [(x, .slice sA sn sc)], ?_, fun p hp => ?_, ?_, ?_, hb8⟩⟩
         · exact hm7.push (x := (x, .slice sA sn sc)) (by simp; omega) hs8 (by rw [HXN.out]; exact HO8.out) HG8.out
         · rcases List.mem_append.1 hp with hp | hp
           · rw [← HQS.out] at hp
             exact HKP.out p (List.mem_filter.1 hp).1
           · obtain rfl := List.mem_singleton.1 hp
             exact HSS.out
         · rw [HSTEP.out, ← HE.out, ← HQS.out]
           exact minStep_pairs HP.out _
         · exact bw_gb (g7.alloc _) HG8.out (fun r e => (hm7.own.lt r e).1)
       case measure => simp [intOf]; omega
     · rw [hp] at CF
       have HP := Lib.hid hp
       clear hp
       generalize l[k].n = xn at *
       go_wp2_with (go_at_call 174; go_must (refine CF.out.mono ?_; rintro e w6 ⟨rfl, hg6⟩; (have HG6 := Lib.hid hg6); clear hg6))
       go_roundw
       case rel =>
         have hg : Bw wr w6 := ((Bw.refl wr).alloc _).trans HG6.out
         refine ⟨k + 1, by omega, by go_num, Lib.hid ⟨ps, HM.out.bw hg hLw, HKP.out, ?_, HW.out.trans hg, HB.out.below hg.b HB.out.lt⟩⟩
         rw [HSTEP.out, ← HE.out]
         unfold minStep
         rw [if_pos HP.out]
       case measure => simp [intOf]; omega
   · obtain rfl : k = n := by omega
     have HM := Lib.hid hm
     have HE := Lib.hid he
     have HW := Lib.hid hw
     have HPL : ps.length ≤ 1000000 := by
       have h1 := congrArg List.length he
       have h2 := fold_length (f := belowP 8 t) (l.take k) []
       simp at h1 h2
       omega
     have CS : Hid (Calls Tryz.prog 183 #[.slice VA ps.length vc, .func (.func 172) #[] #[]] wr (SortPostP wr w.heap.size (.slice VA ps.length vc) ps)) := Lib.hid (sortValP_any w.heap.size ps _ wr hm hLw HPL)
     clear hm he hw hb HRR HPL hks
     go_wp2_with (go_at_call 183; go_must (refine CS.out.mono ?_; rintro e w6 ⟨rfl, qs, hm6, he6, hg6, hq6⟩; (have HM6 := Lib.hid hm6); (have HQ6 := Lib.hid hq6); (have HE6 := Lib.hid he6); (have HG6 := Lib.hid hg6); clear hm6 he6 hg6 hq6))
     go_ret
     refine ⟨_, qs, rfl, HM6.out, fun p hp => HKP.out p (HQ6.out p hp), ?_, bw_gb HW.out HG6.out (fun r e => (HM.out.own.lt r e).1)⟩
     rw [HE6.out, HE.out, List.take_of_length_le (by have := LN.out; omega)]
theorem bminimal_any (t : T) [Nonempty (FlatT t)] (ht : rightP 8 t = true) (l : List V) (hl : ∀ x ∈ l, oneP 8 t x = true) (h9 : l.length ≤ 1000000) (rv pv s : Value) (w : World) (hT : TB w w.heap.size rv pv t) (h : KB w w.heap.size s l) :
   Calls Tryz.prog 116 #[.agg #[.int .i64 t.kind, .int .i64 t.size, rv, pv], s] w (MinPost w (minimalP (belowP 8 t) l)) :=
 (bminimalS_any (· < w.heap.size) t ht l hl h9 rv pv s w hT (fun _ h => h) h).mono fun e w' ⟨s, qs, h1, h2, _, h3, h4⟩ => ⟨s, qs, h1, h2, h3, h4⟩
def ValsErr (w : World) (l : List V) (er : Int) (e : Ending) (w' : World) : Prop := ∃ s, e = .returned (.tuple #[s, .int .i64 er]) ∧ KAt w' (fun b => w.heap.size ≤ b ∧ b < w'.heap.size) s l ∧ Bw w w'
def limP (l : List V) : List V × Int := if 256 < l.length then ([], 1) else (l, 0)
theorem sizeL_le {l : List V} {m : Nat} (h : ∀ v ∈ l, v.size ≤ m) : sizeL l ≤ m * l.length := by
 induction l with
 | nil => simp [sizeL]
 | cons x r ih =>
   have h1 := h x (by simp)
   have h2 := ih fun v hv => h v (by simp [hv])
   simp only [sizeL, List.length_cons, Nat.mul_add]
   omega
theorem limP_big {l : List V} (h : 256 < l.length) : limP l = ([], 1) := if_pos h
theorem limP_ok {l : List V} (h : ¬ 256 < l.length) : limP l = (l, 0) := if_neg h
theorem blimited_any (l : List V) (hl : ∀ v ∈ l, v.size ≤ 128) (s : Value) (w : World) (h : KB w w.heap.size s l) :
   Calls Tryz.prog 115 #[s] w (ValsErr w (limP l).1 (limP l).2) := by
 obtain ⟨A, n, c, rfl, ln, bn, mn⟩ := h.form
 unfold maxLen at mn
 by_cases h1 : 256 < l.length
 · rw [limP_big h1]
   rw [ln] at h1
   clear h hl ln
   go_enter Tryz.func115, Tryz.ntmps115
   go_wp2
   go_ret2
   exact ⟨_, rfl, KAt.nil _ _ (Nat.zero_le _), Bw.refl _⟩
 · rw [limP_ok h1]
   have hz := sizeL_le hl
   have CP := Lib.hid (ocopies_any l (by have := Nat.mul_le_mul_left 128 (show l.length ≤ 256 by omega); omega) _ w h)
   unfold ValsPost at CP
   rw [ln] at h1
   clear h hl ln hz
   go_enter Tryz.func115, Tryz.ntmps115
   go_wp2_with (go_at_call 178; go_must (refine CP.out.mono ?_; rintro e w6 ⟨s6, rfl, hk6, hg6⟩; obtain ⟨A6, n6, c6, rfl, _, _, _⟩ := hk6.form; (have HK6 := Lib.hid hk6); (have HG6 := Lib.hid hg6); clear hk6 hg6))
   go_ret2
   exact ⟨_, rfl, HK6.out, HG6.out⟩
theorem tbox {w : World} {kd z : Int} {r p : Value} : ∀ W, Bw (w.alloc (.cells #[.int .i64 kd, .int .i64 z, r, p] 50)) W → w.heap.size < W.heap.size ∧ Bw w W ∧ W.cell? ⟨w.heap.size, 0, none⟩ = some (.int .i64 kd) ∧ W.cell? ⟨w.heap.size, 1, none⟩ = some (.int .i64 z) ∧ W.cell? ⟨w.heap.size, 2, none⟩ = some r ∧ W.cell? ⟨w.heap.size, 3, none⟩ = some p := by
 intro W g
 have b := (Blk.new w 50 #[.int .i64 kd, .int .i64 z, r, p]).below g.b (by simp)
 exact ⟨b.lt, ((Bw.refl w).alloc _).trans g, b.cell 0, b.cell 1, b.cell 2, b.cell 3⟩
def minimiseP (t : T) (l : List V) : List V × Int := if rightP 8 t then (if l.all (validP t) then limP (minimalP (belowP 8 t) l) else ([], 5)) else ([], 6)
theorem validP_size {t : T} {v : V} (h : validP t v = true) : v.size ≤ 128 := by
 unfold validP at h; simp only [Bool.and_eq_true, decide_eq_true_eq] at h; exact h.1.2
theorem bMinimise_any (t : T) [Nonempty (FlatT t)] (l : List V) (h9 : l.length ≤ 1000000) (rv pv s : Value) (w : World) (hT : TB w w.heap.size rv pv t) (h : KB w w.heap.size s l) :
   Calls Tryz.prog 66 #[.agg #[.int .i64 t.kind, .int .i64 t.size, rv, pv], s] w (ValsErr w (minimiseP t l).1 (minimiseP t l).2) := by
 obtain ⟨A, n, c, rfl, ln, bn, mn⟩ := h.form
 obtain ⟨A1, rn, c1, rfl, _, _⟩ := hT.1.form'
 obtain ⟨A2, pn, c2, rfl, _, _, _⟩ := hT.2.form
 have CK : Hid (∀ W, Bw w W → Calls Tryz.prog 101 #[.agg #[.int .i64 t.kind, .int .i64 t.size, .slice A1 rn c1, .slice A2 pn c2]] W (NumPost W (if rightP 8 t then 0 else 6))) := Lib.hid (fun W g => ocheck_any t _ _ W (TAt.bw hT g) _ rfl)
 have CV : Hid (∀ W, Bw w W → Calls Tryz.prog 114 #[.agg #[.int .i64 t.kind, .int .i64 t.size, .slice A1 rn c1, .slice A2 pn c2], .slice A n c] W (BoolPost W (l.all (validP t)))) := Lib.hid (fun W g => bvalid_any t l _ _ _ W (TAt.bw hT g) (h.bw g))
 have CM : Hid (rightP 8 t = true → (∀ x ∈ l, oneP 8 t x = true) → ∀ W, Bw w W → Calls Tryz.prog 116 #[.agg #[.int .i64 t.kind, .int .i64 t.size, .slice A1 rn c1, .slice A2 pn c2], .slice A n c] W (MinPost W (minimalP (belowP 8 t) l))) := Lib.hid (fun hr ho W g => bminimal_any t hr l ho h9 _ _ _ W (TAt.bw hT g) (h.bw g))
 have TX := Lib.hid (tbox (w := w) (kd := t.kind) (z := t.size) (r := .slice A1 rn c1) (p := .slice A2 pn c2))
 unfold minimiseP
 have HV : Hid (l.all (validP t) = true → rightP 8 t = true → (∀ x ∈ l, oneP 8 t x = true) ∧ ∀ x ∈ minimalP (belowP 8 t) l, x.size ≤ 128) := Lib.hid (fun h1 hr => by
   have h2 := List.all_eq_true.1 h1
   have h3 : ∀ x ∈ l, oneP 8 t x = true := fun x hx => validP_one (h2 x hx)
   exact ⟨h3, fun x hx => validP_size (h2 x ((minP_spec (below_ord hr) h3).2.1 x hx))⟩)
 clear hT h ln
 have HB1 : Hid (Bw w (w.alloc (.cells #[.int .i64 t.kind, .int .i64 t.size, .slice A1 rn c1, .slice A2 pn c2] 50))) := Lib.hid ((Bw.refl _).alloc _)
 generalize hmin : minimalP (belowP 8 t) l = ml at *
 clear hmin
 generalize t.kind = kd at *
 generalize t.size = z at *
 rcases hr : rightP 8 t with _ | _
 · rw [hr] at CK
   simp only [Bool.false_eq_true, if_false] at CK ⊢
   clear hr CV CM HV
   go_enter Tryz.func66, Tryz.ntmps66
   go_wp2_with (go_at_call 101; go_must (refine (CK.out _ HB1.out).mono ?_; rintro e w6 ⟨rfl, hg6⟩; (have HG6 := Lib.hid hg6); clear hg6))
   go_ret2
   exact ⟨_, rfl, KAt.nil _ _ (Nat.zero_le _), HB1.out.trans HG6.out⟩
 · rw [hr] at CK CM HV
   simp only [if_true] at CK ⊢
   clear hr
   rcases hv : l.all (validP t) with _ | _
   · rw [hv] at CV
     simp only [Bool.false_eq_true, if_false]
     clear hv CM HV
     go_enter Tryz.func66, Tryz.ntmps66
     go_wp2_with (first | (go_at_call 101; go_must (refine (CK.out _ HB1.out).mono ?_; rintro e w6 ⟨rfl, hg6⟩; (have HG6 := Lib.hid hg6); (obtain ⟨y0, _, y1, y2, y3, y4⟩ := TX.out _ hg6); clear hg6)) | (go_at_call 114; go_must (refine (CV.out _ (HB1.out.trans HG6.out)).mono ?_; rintro e w7 ⟨rfl, hg7⟩; (have HG7 := Lib.hid (HG6.out.trans hg7)); clear hg7)))
     go_ret2
     exact ⟨_, rfl, KAt.nil _ _ (Nat.zero_le _), HB1.out.trans HG7.out⟩
   · rw [hv] at CV HV
     simp only [if_true]
     obtain ⟨h3, h4⟩ := HV.out rfl rfl
     have CM2 := Lib.hid (CM.out rfl h3)
     have CL := Lib.hid (fun s W h => blimited_any ml h4 s W h)
     clear hv CM HV h3 h4
     generalize (limP ml).1 = l1 at *
     generalize (limP ml).2 = l2 at *
     go_enter Tryz.func66, Tryz.ntmps66
     go_wp2_with (first | (go_at_call 101; go_must (refine (CK.out _ HB1.out).mono ?_; rintro e w6 ⟨rfl, hg6⟩; (have HG6 := Lib.hid hg6); (obtain ⟨y0, _, y1, y2, y3, y4⟩ := TX.out _ hg6); clear hg6)) | (go_at_call 114; go_must (refine (CV.out _ (HB1.out.trans HG6.out)).mono ?_; rintro e w7 ⟨rfl, hg7⟩; (have HG7 := Lib.hid (HG6.out.trans hg7)); (obtain ⟨u0, _, u1, u2, u3, u4⟩ := TX.out _ HG7.out); clear hg7)) | (go_at_call 116; go_must (refine (CM2.out _ (HB1.out.trans HG7.out)).mono ?_; rintro e w8 ⟨s8, qs, rfl, hm8, he8, hg8⟩; obtain ⟨A8, c8, rfl, _, _⟩ := hm8.form; (have HG8 := Lib.hid hg8); (have HK8 : Hid (KB w8 w8.heap.size (.slice A8 qs.length c8) ml) := Lib.hid (by have := hm8.kb hg8.size; rwa [he8] at this)); clear hg8 hm8 he8)) | (go_at_call 115; go_must (refine (CL.out _ _ HK8.out).mono ?_; rintro e w9 ⟨s9, rfl, hk9, hg9⟩; obtain ⟨A9, n9, c9, rfl, _, _, _⟩ := hk9.form; (have HG9 := Lib.hid hg9); (have HK9 := Lib.hid hk9); clear hg9 hk9)))
     go_ret2
     have hg := HB1.out.trans (HG7.out.trans HG8.out)
     exact ⟨_, rfl, HK9.out.keep (fun b hb => ⟨Nat.le_trans hg.size hb.1, hb.2⟩) (fun _ _ => rfl), hg.trans HG9.out⟩
end
end Go.Proofs.YthhbkabdhkdafaaGreat
