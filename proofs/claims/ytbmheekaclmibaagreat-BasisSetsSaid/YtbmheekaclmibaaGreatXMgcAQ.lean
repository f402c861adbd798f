/- Part of a proof of basisSets_holds. -/
import Derived.Test.YtbmheekaclmibaaGreatXMeeDQ
import Derived.Test.YtbmheekaclmibaaGreatXMgbAQ
set_option maxRecDepth 100000
set_option maxHeartbeats 16000000
namespace Go.Proofs.YtbmheekaclmibaaGreat
open Go.RowKit
set_option linter.unusedSimpArgs false
set_option linter.unusedVariables false
def AboveOn (t : T) (pr : V → V → Bool) (f : V → V → List V × Bool) : Prop := ∀ (a b : V), pr a b = true → ∀ (S : Nat → Prop) (rv pv s1 s2 : Value) (W : World), (∀ x, S x → x < W.heap.size) → TB W W.heap.size rv pv t → KAt W S s1 a.ks → KAt W S s2 b.ks → Calls Tryz.prog 62 #[aggT t rv pv, aggV a s1, aggV b s2] W (AbvPost W S (f a b).1 (f a b).2)
theorem babove_k3p (t : T) (pr : V → V → Bool) (pr' : T → V → V → Bool) (f : T → V → V → List V × Bool) (hk : t.kind = 3) (hp8 : t.parts.length ≤ 8)
   (hok : ∀ a b, pr a b = true → a.ks.length = t.parts.length ∧ b.ks.length = t.parts.length ∧ ∀ k (h : k < t.parts.length) (h' : k < a.ks.length) (h'' : k < b.ks.length), pr' t.parts[k] a.ks[k] b.ks[k] = true) (hlen : ∀ p ∈ t.parts, ∀ a b, pr' p a b = true → (f p a b).1.length ≤ 1000000) (ih : ∀ p ∈ t.parts, AboveOn p (pr' p) (f p)) : AboveOn t pr (abv3 f t.parts) := by
 intro a b ha S rv pv s1 s2 w hS hT h1 h2
 obtain ⟨la, lb, oa⟩ := hok a b ha
 obtain ⟨A, n, c, rfl, ln1, _, mn1⟩ := h1.form
 obtain ⟨B, m, e, rfl, ln2, _, mn2⟩ := h2.form
 obtain ⟨A1, rn, c1, rfl, _, _⟩ := hT.1.form'
 obtain ⟨A2, pn, c2, rfl, ln3, _, mn3⟩ := hT.2.form
 unfold maxLen at mn1 mn2 mn3
 obtain rfl : n = pn := by omega
 obtain rfl : m = n := by omega
 have hm8 : m ≤ 8 := by omega
 have HIH := Lib.hid ih
 have HP := Lib.hid hT.2
 have HK1 := Lib.hid h1
 have HK2 := Lib.hid h2
 have LN1 := Lib.hid ln1
 have LN2 := Lib.hid ln2
 have LN3 := Lib.hid ln3
 have HOA := Lib.hid oa
 have HLN := Lib.hid hlen
 have HB := Lib.hid (boxes3 w (.int .i64 3) (.int .i64 t.size) (.slice A1 rn c1) (.slice A2 m c2) (.int .i64 a.n) (.slice A m c) (.int .i64 b.n) (.slice B m e))
 have CT : Hid (∀ (S' : Nat → Prop) ls s W, ls.length ≤ 8 → (∀ l ∈ ls, l.length ≤ 1000000) → (∀ x, S' x → x < W.heap.size) → LAt W S' s ls → Calls Tryz.prog 101 #[s] W (AbvPost W S' (tuplesP ls).1 (tuplesP ls).2)) := Lib.hid (fun S' ls s W h1 h2 h3 h => btuples_any ls (by omega) h2 S' s W h3 h)
 have HSS := Lib.hid hS
 show Calls _ _ _ _ (AbvPost w S (abv3 f t.parts a b).1 (abv3 f t.parts a b).2)
 unfold aggT aggV
 rw [hk]
 have HZ : Hid (abv3 f t.parts a b = abvEnd (abvAcc f [] false (t.parts.drop 0) (a.ks.drop 0) (b.ks.drop 0))) := Lib.hid rfl
 clear h1 h2 hT hS ln1 ln2 ln3 hk ih la lb oa hok ha hlen hp8
 generalize hz : abv3 f t.parts a b = q at *
 clear hz
 generalize a.n = x at *
 generalize b.n = y at *
 generalize t.size = z at *
 obtain ⟨i0, hi, hz0, hz1, hz2⟩ := info_parts infoVals
 have hW3 : (((w.alloc (.cells #[.int .i64 3, .int .i64 z, .slice A1 rn c1, .slice A2 m c2] 29)).alloc (.cells #[.int .i64 x, .slice A m c] 39)).alloc (.cells #[.int .i64 y, .slice B m e] 39)).heap.size = w.heap.size + 3 := by simp
 have HW3 := Lib.hid hW3
 clear hW3
 go_enter Tryz.func62, Tryz.ntmps62
 go_wp2_with fail
 go_loopw [9, 10, 55] (fun s9 s10 i wr => ∃ (k : Nat) (o : Bool), k ≤ m ∧ i = .int .i64 k ∧ s10 = .bool o ∧ Hid (∃ acc ss, LRow wr (fun x => S x ∨ w.heap.size ≤ x) (w.heap.size + 3) s9 acc ss ∧ (∀ l ∈ acc, l.length ≤ 1000000) ∧ acc.length ≤ k ∧ Bw (((w.alloc (.cells #[.int .i64 3, .int .i64 z, .slice A1 rn c1, .slice A2 m c2] 29)).alloc (.cells #[.int .i64 x, .slice A m c] 39)).alloc (.cells #[.int .i64 y, .slice B m e] 39)) wr ∧ q = abvEnd (abvAcc f acc o (t.parts.drop k) (a.ks.drop k) (b.ks.drop k)))) (fun _ _ i _ => m - (intOf i).toNat)
 case atStart => exact ⟨0, false, by omega, rfl, rfl, Lib.hid ⟨[], [], LRow.nil _ _ _, by simp, by simp, Bw.refl _, HZ.out⟩⟩
 case round =>
   obtain ⟨k, o, hk, rfl, rfl, HR⟩ := hrel
   obtain ⟨acc, ss, hrow, hal, hac, hg, hq⟩ := HR.out
   obtain ⟨VA, vc, rfl, vb1, vb2⟩ := hrow.form
   have HROW := Lib.hid hrow
   have HAL := Lib.hid hal
   have HAC := Lib.hid hac
   obtain ⟨hw, b1, b2, b3⟩ := HB.out
   have hgw := hw.trans hg
   have k2' := b2.below hg.b b2.lt
   have k3' := b3.below hg.b b3.lt
   have HW := Lib.hid hgw
   have HG := Lib.hid hg
   have hs3 : w.heap.size + 3 ≤ wr.heap.size := by have := hg.size; rw [HW3.out] at this; exact this
   by_cases hlt : k < m
   · have e1 : k < a.ks.length := by rw [LN1.out]; exact hlt
     have e2 : k < b.ks.length := by rw [LN2.out]; exact hlt
     have e3 : k < t.parts.length := by rw [LN3.out]; exact hlt
     obtain ⟨ad, sA, sn, sc, rfl, hb, q0, q1, _, hs⟩ := (KAt.keep (w' := wr) (S' := S) HK1.out (fun _ h => h) (fun p hp => hgw.b.cell (HSS.out _ hp))).at_ e1
     obtain ⟨ae, sB, sm, se, rfl, hb3, r0, r1, _, hs2⟩ := (KAt.keep (w' := wr) (S' := S) HK2.out (fun _ h => h) (fun p hp => hgw.b.cell (HSS.out _ hp))).at_ e2
     obtain ⟨ad2, A3, n3, c3, A4, n4, c4, rfl, hb2, y0, y1, y2, y3, hT2⟩ := (HP.out.bw hgw).at_ e3
     have CM : Hid (∀ W, Bw wr W → Calls Tryz.prog 62 #[.agg #[.int .i64 t.parts[k].kind, .int .i64 t.parts[k].size, .slice A3 n3 c3, .slice A4 n4 c4], .agg #[.int .i64 a.ks[k].n, .slice sA sn sc], .agg #[.int .i64 b.ks[k].n, .slice sB sm se]] W (AbvPost W S (f t.parts[k] a.ks[k] b.ks[k]).1 (f t.parts[k] a.ks[k] b.ks[k]).2)) := Lib.hid (fun W g => HIH.out _ (List.getElem_mem e3) _ _ (HOA.out k e3 e1 e2) S _ _ _ _ _ (fun x hx => Nat.lt_of_lt_of_le (HSS.out _ hx) (Nat.le_trans hgw.size g.size)) (TAt.bw hT2 g) (hs.keep (fun _ h => h) (fun p hp => g.b.cell (Nat.lt_of_lt_of_le (HSS.out _ hp) hgw.size))) (hs2.keep (fun _ h => h) (fun p hp => g.b.cell (Nat.lt_of_lt_of_le (HSS.out _ hp) hgw.size))))
     have HSB : Hid (∀ x, S x → x < wr.heap.size) := Lib.hid (fun x hx => Nat.lt_of_lt_of_le (HSS.out _ hx) hgw.size)
     have HL6 : Hid ((f t.parts[k] a.ks[k] b.ks[k]).1.length ≤ 1000000) := Lib.hid (HLN.out _ (List.getElem_mem e3) _ _ (HOA.out k e3 e1 e2))
     have HZ2 := Lib.hid (hq.trans (congrArg abvEnd (abv_step acc o e3 e1 e2)))
     have p2 := k2'.cell 1
     have p3 := k3'.cell 1
     have z2 := k2'.lt
     have z3 := k3'.lt
     clear hs hs2 hT2 hq b1 b2 b3 hgw hw HR k2' k3' hrow hal hac
     generalize f t.parts[k] a.ks[k] b.ks[k] = r at *
     obtain ⟨rl, ro⟩ := r
     dsimp only at CM HL6 HZ2
     generalize a.ks[k].n = xk at *
     generalize b.ks[k].n = yk at *
     generalize t.parts[k].kind = pk at *
     generalize t.parts[k].size = pz at *
     clear hg
     go_wp2_with fail
     refine wp_world (fun W => Hid (Bw wr W ∧ Blk W wr.heap.size 29 #[.int .i64 pk, .int .i64 pz, .slice A3 n3 c3, .slice A4 n4 c4])) (Lib.hid ⟨(Bw.refl _).alloc _, Blk.new _ _ _⟩) ?_
     intro W HW2
     obtain ⟨hg, k3⟩ := HW2.out
     have hs1 := hg.size
     have z4 := k3.lt
     have KS : Hid (∀ w', Bw W w' → w'.cell? ⟨w.heap.size + 1, 1, none⟩ = some (.slice (some ad) m c) ∧ w'.cell? ⟨w.heap.size + 2, 1, none⟩ = some (.slice (some ae) m e) ∧ w'.cell? ⟨wr.heap.size, 0, none⟩ = some (.int .i64 pk) ∧ w'.cell? ⟨wr.heap.size, 1, none⟩ = some (.int .i64 pz) ∧ w'.cell? ⟨wr.heap.size, 2, none⟩ = some (.slice A3 n3 c3) ∧ w'.cell? ⟨wr.heap.size, 3, none⟩ = some (.slice A4 n4 c4) ∧
         w'.cell? (ad.add (k * 2)) = some (.int .i64 xk) ∧ w'.cell? ⟨(ad.add (k * 2)).block, (ad.add (k * 2)).off + 1, none⟩ = some (.slice sA sn sc) ∧ w'.cell? (ae.add (k * 2)) = some (.int .i64 yk) ∧ w'.cell? ⟨(ae.add (k * 2)).block, (ae.add (k * 2)).off + 1, none⟩ = some (.slice sB sm se) ∧ Bw W w') := Lib.hid (fun w' g =>
       ⟨((hg.trans g).b.cell (p := ⟨w.heap.size + 1, 1, none⟩) z2).trans p2, ((hg.trans g).b.cell (p := ⟨w.heap.size + 2, 1, none⟩) z3).trans p3, (g.b.cell (p := ⟨wr.heap.size, 0, none⟩) z4).trans (k3.cell 0), (g.b.cell (p := ⟨wr.heap.size, 1, none⟩) z4).trans (k3.cell 1), (g.b.cell (p := ⟨wr.heap.size, 2, none⟩) z4).trans (k3.cell 2), (g.b.cell (p := ⟨wr.heap.size, 3, none⟩) z4).trans (k3.cell 3),
        ((hg.trans g).b.cell (by rw [add_block]; exact HSB.out _ hb)).trans q0, ((hg.trans g).b.cell (by simp only [add_block]; exact HSB.out _ hb)).trans q1, ((hg.trans g).b.cell (by rw [add_block]; exact HSB.out _ hb3)).trans r0, ((hg.trans g).b.cell (by simp only [add_block]; exact HSB.out _ hb3)).trans r1, g⟩)
     have CM2 : Hid (∀ W', Bw W W' → Calls Tryz.prog 62 #[.agg #[.int .i64 pk, .int .i64 pz, .slice A3 n3 c3, .slice A4 n4 c4], .agg #[.int .i64 xk, .slice sA sn sc], .agg #[.int .i64 yk, .slice sB sm se]] W' (AbvPost W' S rl ro)) := Lib.hid (fun W' g => CM.out _ (hg.trans g))
     have HG2 := Lib.hid hg
     clear hg k3 HW2 p2 p3 q0 q1 r0 r1 y0 y1 y2 y3 CM
     generalize hzz : wr.heap.size = yy at *
     have HZZ := Lib.hid hzz
     clear hzz
     go_region_held3 (fun w' => w'.cell? ⟨w.heap.size + 1, 1, none⟩ = some (.slice (some ad) m c) ∧ w'.cell? ⟨w.heap.size + 2, 1, none⟩ = some (.slice (some ae) m e) ∧ w'.cell? ⟨yy, 0, none⟩ = some (.int .i64 pk) ∧ w'.cell? ⟨yy, 1, none⟩ = some (.int .i64 pz) ∧ w'.cell? ⟨yy, 2, none⟩ = some (.slice A3 n3 c3) ∧ w'.cell? ⟨yy, 3, none⟩ = some (.slice A4 n4 c4) ∧
         w'.cell? (ad.add (k * 2)) = some (.int .i64 xk) ∧ w'.cell? ⟨(ad.add (k * 2)).block, (ad.add (k * 2)).off + 1, none⟩ = some (.slice sA sn sc) ∧ w'.cell? (ae.add (k * 2)) = some (.int .i64 yk) ∧ w'.cell? ⟨(ae.add (k * 2)).block, (ae.add (k * 2)).off + 1, none⟩ = some (.slice sB sm se) ∧ Bw W w') (first | (refine KS.out _ ?_; first | exact (Bw.refl _).drew | exact (Bw.refl _).drew.trans hg6)) (first | (go_at_call 62; (with_reducible refine (CM2.out _ (Bw.refl _).drew).mono ?_); rintro e w' ⟨s6, rfl, hk6, hg6⟩; obtain ⟨A6, n6, c6, rfl, ln6, bn6, mn6⟩ := hk6.form))
     have HG6 : Hid (Bw wr w') := Lib.hid (HG2.out.trans ((Bw.refl _).drew.trans hg6))
     have HK6 : Hid (KAt w' (fun x => (S x ∨ yy ≤ x) ∧ x < w'.heap.size) (.slice A6 n6 c6) rl) := Lib.hid (hk6.keep (fun x hx => ⟨hx.1.imp id (fun h => Nat.le_trans hs1 h), hx.2⟩) (fun _ _ => rfl))
     have LN6 := Lib.hid ln6
     have hy6 : yy ≤ w'.heap.size := by have := HG6.out.size; rw [HZZ.out] at this; exact this
     unfold maxLen at mn6
     clear hg6 hk6 ln6 hb hb3 hb2
     by_cases hend : n6 = 0 ∧ ro = false
     · obtain ⟨rfl, rfl⟩ := hend
       have HF : Hid (q = ([], false)) := Lib.hid (by
         rw [HZ2.out, if_pos (by rw [List.isEmpty_iff.2 (List.length_eq_zero_iff.1 LN6.out)]; rfl)]
         rfl)
       go_wp2
       go_ret2
       rw [HF.out]
       exact ⟨_, rfl, KAt.nil _ _ (Nat.zero_le _), HW.out.trans HG6.out⟩
     · have HF : Hid (q = abvEnd (abvAcc f (acc ++ [rl]) (o || ro) (t.parts.drop (k + 1)) (a.ks.drop (k + 1)) (b.ks.drop (k + 1)))) := Lib.hid (by
         rw [HZ2.out, if_neg (fun h => hend ?_)]
         rw [Bool.and_eq_true, List.isEmpty_iff] at h
         exact ⟨by rw [← LN6.out, h.1]; rfl, by simpa using h.2⟩)
       have PUSH : Hid (∀ w7 A7 c7, w7.ownsRow (w.heap.size + 3) 31 1 (.slice A7 (acc.length + 1) c7) (acc.length + 1) (ss ++ [.slice A6 n6 c6]) → (w'.alloc (.cells #[.slice A6 n6 c6] 31)).grownBy w7 (Value.slice VA acc.length vc).ownBlock → ((Value.slice A7 (acc.length + 1) c7).ownBlock = (Value.slice VA acc.length vc).ownBlock ∨ (Value.slice A7 (acc.length + 1) c7).ownBlock = some (w'.alloc (.cells #[.slice A6 n6 c6] 31)).heap.size) →
           ∃ acc' ss', LRow w7 (fun x => S x ∨ w.heap.size ≤ x) (w.heap.size + 3) (.slice A7 (acc.length + 1) c7) acc' ss' ∧ (∀ l ∈ acc', l.length ≤ 1000000) ∧ acc'.length ≤ k + 1 ∧ Bw (((w.alloc (.cells #[.int .i64 3, .int .i64 z, .slice A1 rn c1, .slice (some ad2) m c2] 29)).alloc (.cells #[.int .i64 x, .slice (some ad) m c] 39)).alloc (.cells #[.int .i64 y, .slice (some ae) m e] 39)) w7 ∧ q = abvEnd (abvAcc f acc' (o || ro) (t.parts.drop (k + 1)) (a.ks.drop (k + 1)) (b.ks.drop (k + 1)))) := Lib.hid (by
         intro w7 A7 c7 ho hg hl
         have hlt : ∀ b, (Value.slice VA acc.length vc).ownBlock = some b → w.heap.size + 3 ≤ b ∧ b < yy := fun b e => by have := HROW.out.own.lt b e; rw [HZZ.out] at this; exact this
         have h1 := (HROW.out.bw HG6.out).bw ((Bw.refl w').alloc (.cells #[.slice A6 n6 c6] 31))
         refine ⟨acc ++ [rl], ss ++ [.slice A6 n6 c6], h1.push ?_ ho hg hl, fun l hl => ?_, by have := HAC.out; simp; omega, ?_, HF.out⟩
         · refine HK6.out.keep (fun b hb => ⟨hb.1.imp id (fun h => by omega), by have := hb.2; simp; omega, fun e => ?_⟩) (fun p hp => World.cell?_alloc_lt w' _ p hp.2)
           have h2 := hlt b e
           rcases hb.1 with h | h
           · have := HSS.out b h; omega
           · omega
         · rcases List.mem_append.1 hl with hl | hl
           · exact HAL.out l hl
           · obtain rfl := List.mem_singleton.1 hl; exact HL6.out
         · exact bw_gb ((HG.out.trans HG6.out).alloc _) hg (fun r e => by rw [HW3.out]; exact (hlt r e).1))
       have HROW6 : Hid (LRow w' (fun x => S x ∨ w.heap.size ≤ x) (w.heap.size + 3) (.slice VA acc.length vc) acc ss) := Lib.hid (HROW.out.bw HG6.out)
       have hlen8 : acc.length ≤ 8 := by have := HAC.out; omega
       clear HF HZ2
       rcases Nat.eq_zero_or_pos n6 with h0 | h0
       · obtain rfl : ro = true := by
           rcases ro with _ | _
           · exact absurd ⟨h0, rfl⟩ hend
           · rfl
         subst h0
         clear hend
         rcases o with _ | _
         all_goals
           go_wp2_with (at_builtin; refine wpList_append_any _ rfl _ _ 107 rfl (w.heap.size + 3) 31 i0 _ 1 24 Tryz.underlying107 hi hz0 hz1 hz2 rfl (by decide) (.slice VA acc.length vc) acc.length ss rfl (HROW6.out.own.alloc (.cells #[.slice A6 0 c6] 31)) (w'.heap.size + 1) (some ⟨w'.heap.size, 0, none⟩) 1 1 [.slice A6 0 c6] rfl (reads_new1v w' _ _) (by simp [Value.oneCell']) (by unfold maxLen; omega) (by omega) (by simp; omega) ?_; intro v7 w7 hown7 hgr7 hl7; obtain ⟨A7, c7, rfl⟩ := own_form hown7; (have HP7 := Lib.hid (PUSH.out w7 A7 c7 hown7 hgr7 hl7)); clear hown7 hgr7 hl7)
           go_roundw
           case rel => exact ⟨k + 1, _, by omega, by go_num, rfl, HP7⟩
           case measure => simp [intOf]; omega
       · have d1 : ((n6 : Int) == 0) = false := by simp; omega
         have d2 : ¬ n6 = 0 := by omega
         clear hend
         rcases ro with _ | _ <;> rcases o with _ | _
         all_goals
           go_wp2_with (at_builtin; refine wpList_append_any _ rfl _ _ 107 rfl (w.heap.size + 3) 31 i0 _ 1 24 Tryz.underlying107 hi hz0 hz1 hz2 rfl (by decide) (.slice VA acc.length vc) acc.length ss rfl (HROW6.out.own.alloc (.cells #[.slice A6 n6 c6] 31)) (w'.heap.size + 1) (some ⟨w'.heap.size, 0, none⟩) 1 1 [.slice A6 n6 c6] rfl (reads_new1v w' _ _) (by simp [Value.oneCell']) (by unfold maxLen; omega) (by omega) (by simp; omega) ?_; intro v7 w7 hown7 hgr7 hl7; obtain ⟨A7, c7, rfl⟩ := own_form hown7; (have HP7 := Lib.hid (PUSH.out w7 A7 c7 hown7 hgr7 hl7)); clear hown7 hgr7 hl7)
           go_roundw
           case rel => exact ⟨k + 1, _, by omega, by go_num, rfl, HP7⟩
           case measure => simp [intOf]; omega
   · obtain rfl : k = m := by omega
     have hq2 : q = abvEnd (some (acc, o)) := by
       rw [hq, List.drop_eq_nil_of_le (by rw [LN3.out]; omega)]; rfl
     rcases o with _ | _
     · have HF : Hid (q = tuplesP acc) := Lib.hid (by rw [hq2]; rfl)
       have CTW := Lib.hid (CT.out (fun b => (S b ∨ w.heap.size ≤ b) ∧ b < wr.heap.size) acc _ wr (by omega) hal (fun x hx => hx.2) (hrow.lat (fun b hb => .inr (by omega))))
       clear hrow hal hac hq hq2 HR b1 b2 b3 k2' k3'
       generalize acc.length = al at *
       unfold AbvPost at CTW
       go_wp2_with (go_at_call 101; go_must (refine CTW.out.mono ?_; rintro e w6 ⟨s6, rfl, hk6, hg6⟩; obtain ⟨A6, n6, c6, rfl, _, _, _⟩ := hk6.form; (have HK6 := Lib.hid hk6); (have HG6 := Lib.hid hg6); clear hk6 hg6))
       go_ret2
       rw [HF.out]
       exact ⟨_, rfl, HK6.out.keep (fun x hx => ⟨hx.1.elim (fun h => h.1) (fun h => .inr (by have := HW.out.size; omega)), hx.2⟩) (fun _ _ => rfl), HW.out.trans HG6.out⟩
     · have HF : Hid (q = ([], true)) := Lib.hid (by rw [hq2]; rfl)
       clear hrow hal hac hq hq2 HR b1 b2 b3 k2' k3'
       go_wp2
       go_ret2
       rw [HF.out]
       exact ⟨_, rfl, KAt.nil _ _ (Nat.zero_le _), HW.out⟩
theorem belZ_congr {f g : T → V → V → Bool} : ∀ {ps : List T} (us bs : List V), (∀ p ∈ ps, f p = g p) → belZ f ps us bs = belZ g ps us bs
 | [], us, bs, h => by cases us <;> cases bs <;> rfl
 | p :: ps, [], bs, h => by cases bs <;> rfl
 | p :: ps, a :: us, [], h => rfl
 | p :: ps, a :: us, b :: bs, h => by
   simp only [belZ]
   rw [h p (by simp), belZ_congr us bs (fun q hq => h q (by simp [hq]))]
theorem oneZ_congr {f g : T → V → Bool} : ∀ {ps : List T} (us : List V), (∀ p ∈ ps, f p = g p) → oneZ f ps us = oneZ g ps us
 | [], us, h => by cases us <;> rfl
 | p :: ps, [], h => rfl
 | p :: ps, a :: us, h => by
   simp only [oneZ]
   rw [h p (by simp), oneZ_congr us (fun q hq => h q (by simp [hq]))]
theorem right_kinds {d : Nat} {t : T} (hr : rightP (d + 1) t = true) (h1 : t.kind ≠ 1) (h2 : t.kind ≠ 2) (h3 : t.kind ≠ 3) (h6 : t.kind ≠ 6) (h7 : t.kind ≠ 7) : t.kind = 4 ∨ t.kind = 5 := by
 simp only [rightP, Bool.and_eq_true] at hr
 have hr := hr.2
 by_cases k4 : t.kind = 4
 · exact .inl k4
 by_cases k5 : t.kind = 5
 · exact .inr k5
 rw [if_neg h1, if_neg (by omega), if_neg h7, if_neg h3, if_neg (by omega)] at hr
 cases hr
theorem one_up (d : Nat) : ∀ (t : T), rightP d t = true → oneP (d + 1) t = oneP d t ∧ belowP (d + 1) t = belowP d t := by
 induction d with
 | zero => intro t h; simp [rightP] at h
 | succ d ih =>
   intro t hr
   by_cases k1 : t.kind = 1
   · exact ⟨by funext v; simp only [oneP]; rw [if_pos k1, if_pos k1], by funext a b; simp only [belowP]; rw [if_pos k1, if_pos k1]⟩
   by_cases k2 : t.kind = 2
   · exact ⟨by funext v; simp only [oneP]; rw [if_neg k1, if_pos k2, if_neg k1, if_pos k2], by funext a b; simp only [belowP]; rw [if_neg k1, if_pos k2, if_neg k1, if_pos k2]⟩
   by_cases k3 : t.kind = 3
   · have hp := (parts_right hr k3).1
     have hq : ∀ p ∈ t.parts, oneP (d + 1) p = oneP d p ∧ belowP (d + 1) p = belowP d p := fun p hp' => ih p (List.all_eq_true.1 hp p hp')
     refine ⟨by funext v; rw [oneP, oneP, if_neg k1, if_neg k2, if_pos k3, if_neg k1, if_neg k2, if_pos k3, oneZ_congr (f := oneP (d + 1)) (g := oneP d) v.ks (fun p hp' => (hq p hp').1)], ?_⟩
     funext a b
     rw [belowP, belowP, if_neg k1, if_neg k2, if_pos k3, if_neg k1, if_neg k2, if_pos k3]
     exact belZ_congr a.ks b.ks (fun p hp' => (hq p hp').2)
   by_cases k6 : t.kind = 6
   · exact ⟨by funext v; simp [oneP, k6], by funext a b; simp [belowP, k6]⟩
   by_cases k7 : t.kind = 7
   · exact ⟨by funext v; simp [oneP, k7], by funext a b; simp [belowP, k7]⟩
   have h45 := right_kinds hr k1 k2 k3 k6 k7
   obtain ⟨i1, i2⟩ := ih t.p0 (p0_right hr h45).1
   rcases h45 with k | k
   · refine ⟨?_, ?_⟩
     · funext v
       rw [oneP, oneP, if_neg k1, if_neg k2, if_neg k3, if_pos k, if_neg k1, if_neg k2, if_neg k3, if_pos k, i1]
     · funext a b
       rw [belowP, belowP, if_neg k1, if_neg k2, if_neg k3, if_pos k, if_neg k1, if_neg k2, if_neg k3, if_pos k, i2]
   · have k4 : t.kind ≠ 4 := by omega
     refine ⟨?_, ?_⟩
     · funext v
       rw [oneP, oneP, if_neg k1, if_neg k2, if_neg k3, if_neg k4, if_pos k, if_neg k1, if_neg k2, if_neg k3, if_neg k4, if_pos k, i1]
     · funext a b
       rw [belowP, belowP, if_neg k1, if_neg k2, if_neg k3, if_neg k4, if_pos k, if_neg k1, if_neg k2, if_neg k3, if_neg k4, if_pos k, i2]
theorem one_to {d e : Nat} (h : d ≤ e) {t : T} (hr : rightP d t = true) : oneP e t = oneP d t ∧ belowP e t = belowP d t := by
 induction e with
 | zero => obtain rfl : d = 0 := by omega
           exact ⟨rfl, rfl⟩
 | succ e ih =>
   by_cases he : d ≤ e
   · have h1 := one_up e t (right_mono d e t he hr)
     have h2 := ih he
     exact ⟨h1.1.trans h2.1, h1.2.trans h2.2⟩
   · obtain rfl : d = e + 1 := by omega
     exact ⟨rfl, rfl⟩
def pairP (d : Nat) (t : T) (a b : V) : Bool := oneP d t a && oneP d t b && shortP d t a b
theorem pair_iff {d : Nat} {t : T} {a b : V} : pairP d t a b = true ↔ oneP d t a = true ∧ oneP d t b = true ∧ shortP d t a b = true := by
 unfold pairP; simp only [Bool.and_eq_true, and_assoc]
theorem abvAcc_flag {f : T → V → V → List V × Bool} : ∀ (ps : List T) (ys bs : List V) (acc : List (List V)) (ls : List (List V)) (o' : Bool), (∀ p ∈ ps, ∀ x y, (f p x y).2 = false) → abvAcc f acc false ps ys bs = some (ls, o') → o' = false
 | [], ys, bs, acc, ls, o', hf, h => by
   simp only [abvAcc, Option.some.injEq, Prod.mk.injEq] at h
   exact h.2.symm
 | p :: ps, [], bs, acc, ls, o', hf, h => by
   simp only [abvAcc, Option.some.injEq, Prod.mk.injEq] at h
   exact h.2.symm
 | p :: ps, y :: ys, [], acc, ls, o', hf, h => by
   simp only [abvAcc, Option.some.injEq, Prod.mk.injEq] at h
   exact h.2.symm
 | p :: ps, y :: ys, b :: bs, acc, ls, o', hf, h => by
   simp only [abvAcc] at h
   by_cases he : ((f p y b).1.isEmpty && !(f p y b).2) = true
   · rw [if_pos he] at h; cases h
   · rw [if_neg he, hf p (by simp) y b, Bool.or_false] at h
     exact abvAcc_flag ps ys bs _ ls o' (fun q hq => hf q (by simp [hq])) h
theorem abvAcc_le1 {f : T → V → V → List V × Bool} : ∀ (ps : List T) (ys bs : List V) (acc : List (List V)) (o : Bool) (ls : List (List V)) (o' : Bool), (∀ p ∈ ps, ∀ x y, (f p x y).1.length ≤ 1) → (∀ l ∈ acc, l.length ≤ 1) → abvAcc f acc o ps ys bs = some (ls, o') → ∀ l ∈ ls, l.length ≤ 1
 | [], ys, bs, acc, o, ls, o', hf, ha, h => by
   simp only [abvAcc, Option.some.injEq, Prod.mk.injEq] at h
   rw [← h.1]; exact ha
 | p :: ps, [], bs, acc, o, ls, o', hf, ha, h => by
   simp only [abvAcc, Option.some.injEq, Prod.mk.injEq] at h
   rw [← h.1]; exact ha
 | p :: ps, y :: ys, [], acc, o, ls, o', hf, ha, h => by
   simp only [abvAcc, Option.some.injEq, Prod.mk.injEq] at h
   rw [← h.1]; exact ha
 | p :: ps, y :: ys, b :: bs, acc, o, ls, o', hf, ha, h => by
   simp only [abvAcc] at h
   by_cases he : ((f p y b).1.isEmpty && !(f p y b).2) = true
   · rw [if_pos he] at h; cases h
   · rw [if_neg he] at h
     refine abvAcc_le1 ps ys bs _ _ ls o' (fun q hq => hf q (by simp [hq])) (fun l hl => ?_) h
     rcases List.mem_append.1 hl with hl | hl
     · exact ha l hl
     · obtain rfl := List.mem_singleton.1 hl
       exact hf p (by simp) y b
theorem tupGo_le1 : ∀ (ls : List (List V)) (out : List V), out.length ≤ 1 → (∀ l ∈ ls, l.length ≤ 1) → tupGo out ls ≠ none
 | [], out, h, hl => by simp [tupGo]
 | l :: r, out, h, hl => by
   have h1 : out.length * l.length ≤ 1 := Nat.le_trans (Nat.mul_le_mul h (hl l (by simp))) (by omega)
   simp only [tupGo]
   rw [if_neg (by omega)]
   exact tupGo_le1 r _ (by rw [tupStep_length]; exact h1) (fun x hx => hl x (by simp [hx]))
theorem abv3_flag {f : T → V → V → List V × Bool} {ps : List T} (hf : ∀ p ∈ ps, ∀ x y, (f p x y).1.length ≤ 1 ∧ (f p x y).2 = false) (a b : V) : (abv3 f ps a b).2 = false := by
 unfold abv3
 cases hacc : abvAcc f [] false ps a.ks b.ks with
 | none => rfl
 | some q =>
   obtain ⟨ls, o⟩ := q
   have ho := abvAcc_flag ps a.ks b.ks [] ls o (fun p hp x y => (hf p hp x y).2) hacc
   have hls := abvAcc_le1 ps a.ks b.ks [] false ls o (fun p hp x y => (hf p hp x y).1) (by simp) hacc
   subst ho
   simp only [abvEnd, Bool.false_eq_true, if_false]
   unfold tuplesP
   split
   · rfl
   · have := tupGo_le1 ls [.mk 0 []] (by simp) hls
     cases hg : tupGo [.mk 0 []] ls with
     | none => exact absurd hg this
     | some o => rfl
theorem above_flag (d : Nat) : ∀ (t : T), rightP d t = true → meetsP d t true = true → ∀ a b, (aboveP d t a b).2 = false := by
 induction d with
 | zero => intro t h; simp [rightP] at h
 | succ d ih =>
   intro t hr hm a b
   obtain ⟨k4, k5, k6, k7, hp⟩ := meets_flat hm
   simp only [aboveP]
   rcases kinds123 hr k4 k5 k6 k7 with k | k | k
   · rw [if_pos k]; rfl
   · rw [if_neg (by omega), if_pos k]; rfl
   · rw [if_neg (by omega), if_neg (by omega), if_pos k]
     exact abv3_flag (fun p hp' x y => ⟨above_le1 d p (rightP_parts hr p hp') (hp p hp') x y, ih p (rightP_parts hr p hp') (hp p hp') x y⟩) a b
theorem belZ_of {f : T → V → V → Bool} : ∀ (ps : List T) (us bs : List V), ps.length = us.length → ps.length = bs.length → (∀ k (h1 : k < ps.length) (h2 : k < us.length) (h3 : k < bs.length), f ps[k] us[k] bs[k] = true) → belZ f ps us bs = true
 | [], us, bs, _, _, _ => by cases us <;> cases bs <;> rfl
 | p :: ps, [], bs, h1, _, _ => by simp at h1
 | p :: ps, a :: us, [], _, h2, _ => by simp at h2
 | p :: ps, a :: us, b :: bs, h1, h2, h => by
   simp only [belZ, Bool.and_eq_true]
   exact ⟨h 0 (by simp) (by simp) (by simp), belZ_of ps us bs (by simpa using h1) (by simpa using h2) (fun k k1 k2 k3 => h (k + 1) (by simpa using k1) (by simpa using k2) (by simpa using k3))⟩
theorem flat_short (d : Nat) : ∀ (t : T), rightP d t = true → meetsP d t true = true → ∀ a b, oneP d t a = true → oneP d t b = true → shortP d t a b = true := by
 induction d with
 | zero => intro t h; simp [rightP] at h
 | succ d ih =>
   intro t hr hm a b ha hb
   obtain ⟨k4, k5, k6, k7, hp⟩ := meets_flat hm
   obtain ⟨la, oa⟩ := one_kids hr k4 k5 k6 k7 ha
   obtain ⟨lb, ob⟩ := one_kids hr k4 k5 k6 k7 hb
   simp only [shortP]
   rw [if_neg k4]
   exact belZ_of _ _ _ la.symm lb.symm (fun k k1 k2 k3 => ih _ (rightP_parts hr _ (List.getElem_mem k1)) (hp _ (List.getElem_mem k1)) _ _ (oa k k1 k2) (ob k k1 k3))
theorem meets_part3 {d : Nat} {t : T} {inner : Bool} (hk : t.kind = 3) (h : meetsP (d + 1) t inner = true) : ∀ p ∈ t.parts, meetsP d p inner = true := by
 simp only [meetsP] at h
 rw [if_neg (by omega), if_neg (by omega), if_neg (by omega), if_neg (by omega)] at h
 exact fun p hp => List.all_eq_true.1 h p hp
theorem meets_part4 {d : Nat} {t : T} {inner : Bool} (hk : t.kind = 4) (h : meetsP (d + 1) t inner = true) : ∀ p ∈ t.parts, meetsP d p true = true := by
 simp only [meetsP] at h
 rw [if_neg (by omega), if_neg (by omega), if_neg (by omega), if_pos hk] at h
 cases inner with
 | true => simp at h
 | false => exact fun p hp => List.all_eq_true.1 (by simpa using h) p hp
theorem meets_kind {d : Nat} {t : T} {inner : Bool} (hr : rightP (d + 1) t = true) (h : meetsP (d + 1) t inner = true) : t.kind = 1 ∨ t.kind = 2 ∨ t.kind = 3 ∨ t.kind = 4 := by
 obtain ⟨k5, k6, k7, _⟩ := meets_kinds h
 by_cases k4 : t.kind = 4
 · exact .inr (.inr (.inr k4))
 · rcases kinds123 hr k4 k5 k6 k7 with k | k | k
   · exact .inl k
   · exact .inr (.inl k)
   · exact .inr (.inr (.inl k))
theorem pair_part3 {d : Nat} {t : T} (hr : rightP (d + 1) t = true) (hk : t.kind = 3) {a b : V} (h : pairP (d + 1) t a b = true) : a.ks.length = t.parts.length ∧ b.ks.length = t.parts.length ∧ ∀ k (h1 : k < t.parts.length) (h2 : k < a.ks.length) (h3 : k < b.ks.length), pairP d t.parts[k] a.ks[k] b.ks[k] = true := by
 obtain ⟨ha, hb, hs⟩ := pair_iff.1 h
 obtain ⟨la, oa⟩ := one_kids hr (by omega) (by omega) (by omega) (by omega) ha
 obtain ⟨lb, ob⟩ := one_kids hr (by omega) (by omega) (by omega) (by omega) hb
 simp only [shortP] at hs
 rw [if_neg (by omega)] at hs
 exact ⟨la, lb, fun k h1 h2 h3 => pair_iff.2 ⟨oa k h1 h2, ob k h1 h3, belZ_get hs k h1 h2 h3⟩⟩
theorem pair_part4 {d : Nat} {t : T} (hk : t.kind = 4) {a b : V} (h : pairP (d + 1) t a b = true) : a.ks.length + b.ks.length ≤ 8 ∧ (∀ x ∈ a.ks, oneP d t.p0 x = true) ∧ (∀ x ∈ b.ks, oneP d t.p0 x = true) := by
 obtain ⟨ha, hb, hs⟩ := pair_iff.1 h
 simp only [shortP] at hs
 rw [if_pos hk] at hs
 simp only [oneP] at ha hb
 rw [if_neg (by omega), if_neg (by omega), if_neg (by omega), if_pos hk] at ha hb
 simp only [Bool.and_eq_true] at ha hb
 have := of_decide_eq_true hs
 exact ⟨by omega, List.all_eq_true.1 ha.2, List.all_eq_true.1 hb.2⟩
theorem flat_meet (d : Nat) : ∀ (t : T), rightP d t = true → meetsP d t true = true → ∀ a b, oneP d t a = true → oneP d t b = true → MeetOk (belowP d t) (oneP d t) a b (aboveP d t a b).1 := by
 induction d with
 | zero => intro t h; simp [rightP] at h
 | succ d ih =>
   intro t hr hm a b ha hb
   obtain ⟨k4, k5, k6, k7, hp⟩ := meets_flat hm
   have hfl := above_flag (d + 1) t hr hm a b
   simp only [aboveP] at hfl ⊢
   rcases kinds123 hr k4 k5 k6 k7 with k | k | k
   · rw [if_pos k]; exact abv1_meet k ha hb
   · rw [if_neg (by omega), if_pos k]; exact abv2_meet k ha hb
   · rw [if_neg (by omega), if_neg (by omega), if_pos k] at hfl ⊢
     obtain ⟨la, oa⟩ := one_kids hr k4 k5 k6 k7 ha
     obtain ⟨lb, ob⟩ := one_kids hr k4 k5 k6 k7 hb
     exact abv3_meet hr k ha hb (fun j h1 h2 h3 _ => ih _ (rightP_parts hr _ (List.getElem_mem h1)) (hp _ (List.getElem_mem h1)) _ _ (oa j h1 h2) (ob j h1 h3)) hfl
theorem above_meet (d : Nat) : ∀ (t : T) (inner : Bool), rightP d t = true → meetsP d t inner = true → ∀ a b, pairP d t a b = true → (aboveP d t a b).2 = false → MeetOk (belowP d t) (oneP d t) a b (aboveP d t a b).1 := by
 induction d with
 | zero => intro t inner h; simp [rightP] at h
 | succ d ih =>
   intro t inner hr hm a b hab h2
   obtain ⟨ha, hb, -⟩ := pair_iff.1 hab
   simp only [aboveP] at h2 ⊢
   rcases meets_kind hr hm with k | k | k | k
   · rw [if_pos k]; exact abv1_meet k ha hb
   · rw [if_neg (by omega), if_pos k]; exact abv2_meet k ha hb
   · rw [if_neg (by omega), if_neg (by omega), if_pos k] at h2 ⊢
     obtain ⟨la, lb, hp⟩ := pair_part3 hr k hab
     exact abv3_meet hr k ha hb (fun j h1 h2 h3 h4 => ih _ inner (rightP_parts hr _ (List.getElem_mem h1)) (meets_part3 k hm _ (List.getElem_mem h1)) _ _ (hp j h1 h2 h3) h4) h2
   · rw [if_neg (by omega), if_neg (by omega), if_neg (by omega)]
     obtain ⟨l8, _, _⟩ := pair_part4 k hab
     obtain ⟨r0, e0⟩ := p0_right hr (.inl k)
     have m0 : meetsP d t.p0 true = true := meets_part4 k hm t.p0 (by rw [e0]; simp)
     exact (merge_meet hr k (fun x y hx hy => flat_meet d t.p0 r0 m0 x y hx hy) (fun x y => above_le1 d t.p0 r0 m0 x y) ha hb (by omega)).min hr
theorem above_len2 (d : Nat) (t : T) (inner : Bool) (hr : rightP d t = true) (hm : meetsP d t inner = true) (a b : V) (hab : pairP d t a b = true) : (aboveP d t a b).1.length ≤ 6561 := by
 cases d with
 | zero => simp [rightP] at hr
 | succ d =>
   simp only [aboveP]
   rcases meets_kind hr hm with k | k | k | k
   · rw [if_pos k]; simp [abv1]
   · rw [if_neg (by omega), if_pos k]; unfold abv2; dsimp only; split <;> simp
   · rw [if_neg (by omega), if_neg (by omega), if_pos k]
     exact Nat.le_trans (abv3_length _ _ _ _) (by omega)
   · rw [if_neg (by omega), if_neg (by omega), if_neg (by omega)]
     obtain ⟨l8, _, _⟩ := pair_part4 k hab
     exact Nat.le_trans (minP_length_le _) (merge_len _ 8 _ _ l8)
theorem bmerge_any (t : T) (f : V → V → List V × Bool) (ok : V → Bool) (HA : AboveSays t ok f) : ∀ (n : Nat) (a b : List V), a.length + b.length ≤ n → n ≤ 8 → (∀ x ∈ a, ok x = true) → (∀ x ∈ b, ok x = true) → MgSays t f a b := by
 intro n
 induction n with
 | zero =>
   intro a b h _ _ _
   exact bmerge_nil t f a b (.inl (List.eq_nil_of_length_eq_zero (by omega))) (by omega)
 | succ n ih =>
   intro a b h h8 ha hb
   match a, b with
   | [], b => exact bmerge_nil t f [] b (.inl rfl) (by omega)
   | x :: a, [] => exact bmerge_nil t f (x :: a) [] (.inr rfl) (by omega)
   | x :: a, y :: b =>
     simp only [List.length_cons] at h
     have ha' : ∀ z ∈ a, ok z = true := fun z hz => ha z (by simp [hz])
     have hb' : ∀ z ∈ b, ok z = true := fun z hz => hb z (by simp [hz])
     exact bmerge_cons t f ok HA x y a b (by simp; omega) (ha x (by simp)) (hb y (by simp)) (ih a (y :: b) (by simp; omega) (by omega) ha' hb) (ih (x :: a) b (by simp; omega) (by omega) ha hb') (ih a b (by omega) (by omega) ha' hb')
end Go.Proofs.YtbmheekaclmibaaGreat
