/- Part of a proof of basisSets_holds. -/
import Derived.Test.YtbmheekaclmibaaGreatXMgeAQ
import Derived.Test.YtbmheekaclmibaaGreatXUniAQ
import Derived.Test.YtbmheekaclmibaaGreatXLawAQ
set_option maxRecDepth 100000
set_option maxHeartbeats 16000000
namespace Go.Proofs.YtbmheekaclmibaaGreat
open Go.RowKit
set_option linter.unusedSimpArgs false
set_option linter.unusedVariables false
theorem meets_up (d : Nat) : ∀ (t : T) (i : Bool), rightP d t = true → meetsP (d + 1) t i = meetsP d t i := by
 induction d with
 | zero => intro t i h; simp [rightP] at h
 | succ d ih =>
   intro t i hr
   have hp : ∀ p ∈ t.parts, rightP d p = true := fun p hp => rightP_parts hr p hp
   have key : ∀ j, (t.parts.all fun p => meetsP (d + 1) p j) = t.parts.all fun p => meetsP d p j := fun j => by
     rw [Bool.eq_iff_iff, List.all_eq_true, List.all_eq_true]
     exact ⟨fun h p hp' => by rw [← ih p j (hp p hp')]; exact h p hp', fun h p hp' => by rw [ih p j (hp p hp')]; exact h p hp'⟩
   rw [meetsP, meetsP, key, key]
theorem meets_to {d e : Nat} (h : d ≤ e) {t : T} {i : Bool} (hr : rightP d t = true) : meetsP e t i = meetsP d t i := by
 induction e with
 | zero => obtain rfl : d = 0 := by omega
           rfl
 | succ e ih =>
   by_cases he : d ≤ e
   · exact (meets_up e t i (right_mono d e t he hr)).trans (ih he)
   · obtain rfl : d = e + 1 := by omega
     rfl
def DealtF (w : World) (b : Nat) (e : Ending) (w' : World) : Prop := ∃ t A1 rn c1 A2 pn c2, e = .returned (.agg #[.int .i64 t.kind, .int .i64 t.size, .slice A1 rn c1, .slice A2 pn c2]) ∧ rightP 8 t = true ∧ lsz 8 3 t ≤ 128 ∧ meetsP 8 t false = true ∧ TAt w' (TD b w') (.slice A1 rn c1) (.slice A2 pn c2) t ∧ GD b w w'
theorem dealtF_any (w : World) (b : Nat) (hd : DeckOk w b) : Calls Tryz.prog 12 #[.pointer (some ⟨b, 0, none⟩), .int .i64 3, .bool true] w (DealtF w b) := by
 have hb := hd.lt
 have := dtypeF_any b 2 (by omega) w hd
 refine Calls.mono (show Calls Tryz.prog 12 #[.pointer (some ⟨b, 0, none⟩), .int .i64 3, .bool true] w (TypePostF w b 3) from by simpa using this) ?_
 rintro e w' ⟨t, r, p, rfl, hm, hT, hg⟩
 obtain ⟨A1, rn, c1, rfl, _, _⟩ := hT.1.form'
 obtain ⟨A2, pn, c2, rfl, _, _, _⟩ := hT.2.form
 have h1 := made_lsz (m := 3) (by omega) (madeF_p hm)
 have h2 : meetsP 3 t false = true := by unfold madeF at hm; simp only [Bool.and_eq_true] at hm; exact hm.2
 have h3 : rightP 3 t = true := by have := madeF_p hm; unfold madeP at this; simp only [Bool.and_eq_true] at this; exact this.1
 exact ⟨t, A1, rn, c1, A2, pn, c2, rfl, h1.1, h1.2, by rw [meets_to (by omega) h3]; exact h2, hT.keep (fun x hx => ⟨by have := hx.1; omega, hx.2⟩) (fun _ _ => rfl), hg⟩
section
variable {t : T} {a b l : List V} {v : V}
theorem has_min (ht : rightP 8 t = true) (hl : ∀ x ∈ l, oneP 8 t x = true) (hv : oneP 8 t v = true) : hasP t (minimalP (belowP 8 t) l) v = hasP t l v := by
 obtain ⟨h1, h2, h3⟩ := minP_spec (below_ord ht) hl
 unfold hasP
 rw [Bool.eq_iff_iff, List.any_eq_true, List.any_eq_true]
 exact ⟨fun ⟨x, hx, hb⟩ => ⟨x, h2 x hx, hb⟩, fun h => h3 v hv h⟩
theorem has_app : hasP t (a ++ b) v = (hasP t a v || hasP t b v) := by unfold hasP; rw [List.any_append]
theorem mem_allM {z : V} (h : z ∈ allM t a b) : ∃ x ∈ a, ∃ y ∈ b, z ∈ (mtP t x y).1 := by
 unfold allM at h
 obtain ⟨x, hx, h⟩ := List.mem_flatMap.1 h
 obtain ⟨y, hy, h⟩ := List.mem_flatMap.1 h
 exact ⟨x, hx, y, hy, h⟩
theorem mt_meet {x y : V} (h : (mtP t x y).2 = 0) : MeetOk (belowP 8 t) (oneP 8 t) x y (mtP t x y).1 := by
 obtain ⟨hr, hm, _, _, hp, h2, _, e⟩ := meet_one h
 rw [e]
 exact (above_meet 8 t false hr hm x y hp h2).min hr
theorem has_all (ht : rightP 8 t = true) (ha : ∀ x ∈ a, oneP 8 t x = true) (hb : ∀ x ∈ b, oneP 8 t x = true) (h0 : ∀ x ∈ a, ∀ y ∈ b, (mtP t x y).2 = 0) (hv : oneP 8 t v = true) : hasP t (allM t a b) v = (hasP t a v && hasP t b v) := by
 unfold hasP
 rw [Bool.eq_iff_iff, Bool.and_eq_true, List.any_eq_true, List.any_eq_true, List.any_eq_true]
 constructor
 · rintro ⟨z, hz, hzv⟩
   obtain ⟨x, hx, y, hy, hm⟩ := mem_allM hz
   obtain ⟨oz, bx, by'⟩ := (mt_meet (h0 x hx y hy)).sound z hm
   exact ⟨⟨x, hx, below_trans 8 t x z v ht (ha x hx) oz hv bx hzv⟩, y, hy, below_trans 8 t y z v ht (hb y hy) oz hv by' hzv⟩
 · rintro ⟨⟨x, hx, bx⟩, y, hy, by'⟩
   obtain ⟨z, hz, hzv⟩ := (mt_meet (h0 x hx y hy)).full v hv bx by'
   exact ⟨z, List.mem_flatMap.2 ⟨x, hx, List.mem_flatMap.2 ⟨y, hy, hz⟩⟩, hzv⟩
theorem check_min (ht : rightP 8 t = true) (hl : ∀ x ∈ l, validP t x = true) (hn : (minimalP (belowP 8 t) l).length ≤ 256) : checkB t (minimalP (belowP 8 t) l) = 0 := by
 have ho : ∀ x ∈ l, oneP 8 t x = true := fun x hx => validP_one (hl x hx)
 exact checkB_zero.2 ⟨ht, hn, fun v hv => hl v ((minP_spec (below_ord ht) ho).2.1 v hv), minP_asc (below_ord ht) ho, (minP_spec (below_ord ht) ho).1⟩
theorem hasB_of (hc : checkB t l = 0) (hv : validP t v = true) : hasB t l v = hasP t l v := by unfold hasB; rw [hc, hv]; rfl
theorem subP_of (ha : checkB t a = 0) (hb : checkB t b = 0) (h : ∀ x ∈ a, hasP t b x = true) : subP t a b = true := by
 unfold subP; rw [ha, hb]
 simp only [BEq.rfl, Bool.true_and]
 exact List.all_eq_true.2 h
theorem sub_has (ht : rightP 8 t = true) (hs : subP t a b = true) (hv : oneP 8 t v = true) (h : hasP t a v = true) : hasP t b v = true := by
 unfold subP at hs
 simp only [Bool.and_eq_true, beq_iff_eq] at hs
 have ca := checkB_zero.1 hs.1.1
 have cb := checkB_zero.1 hs.1.2
 obtain ⟨x, hx, hxv⟩ := List.any_eq_true.1 h
 have := List.all_eq_true.1 hs.2 x hx
 obtain ⟨y, hy, hyx⟩ := List.any_eq_true.1 this
 exact List.any_eq_true.2 ⟨y, hy, below_trans 8 t y x v ht (validP_one (cb.2.2.1 y hy)) (validP_one (ca.2.2.1 x hx)) hv hyx hxv⟩
theorem has_mem (ht : rightP 8 t = true) (ho : oneP 8 t v = true) (h : v ∈ l) : hasP t l v = true := List.any_eq_true.2 ⟨v, h, below_refl 8 t v ht ho⟩
theorem mt_er (hr : rightP 8 t = true) (hm : meetsP 8 t false = true) {x y : V} (hx : validP t x = true) (hy : validP t y = true) : (mtP t x y).2 = 0 ∨ (mtP t x y).2 = 1 := by
 unfold mtP meetP
 rw [if_pos hr, if_pos hm, if_pos (by rw [hx, hy]; rfl)]
 split
 · split
   · exact .inr rfl
   · split
     · exact lim_er _
     · exact .inr rfl
 · exact .inr rfl
structure SetsOk (t : T) (a b u i : List V) (er : Int) : Prop where
 er1 : er = 0 ∨ er = 1
 un : ∀ v, validP t v = true → hasB t u v = (hasB t a v || hasB t b v)
 inter : er = 0 → ∀ v, validP t v = true → hasB t i v = (hasB t a v && hasB t b v)
 inc : ∀ v, validP t v = true → subP t a b = true → hasB t a v = true → hasB t b v = true
 au : subP t a u = true
 bu : subP t b u = true
 ia : er = 0 → subP t i a = true
 ib : er = 0 → subP t i b = true
theorem sets_ok (ht : rightP 8 t = true) (hm : meetsP 8 t false = true) {la lb i : List V} {er : Int} (ha : ∀ x ∈ la, validP t x = true) (hb : ∀ x ∈ lb, validP t x = true) (na : la.length ≤ 100) (nb : lb.length ≤ 100) (hi : ItsOut t (mn t la) (mn t lb) i er) :
   SetsOk t (mn t la) (mn t lb) (minimalP (belowP 8 t) (mn t la ++ mn t lb)) i er := by
 have va := mn_valid ht ha
 have vb := mn_valid ht hb
 have oa : ∀ x ∈ mn t la, oneP 8 t x = true := fun x hx => validP_one (va x hx)
 have ob : ∀ x ∈ mn t lb, oneP 8 t x = true := fun x hx => validP_one (vb x hx)
 have la' := mn_len (t := t) la
 have lb' := mn_len (t := t) lb
 have ca : checkB t (mn t la) = 0 := check_min ht ha (by have : (minimalP (belowP 8 t) la).length ≤ la.length := minP_length_le _; omega)
 have cb : checkB t (mn t lb) = 0 := check_min ht hb (by have : (minimalP (belowP 8 t) lb).length ≤ lb.length := minP_length_le _; omega)
 have vab : ∀ x ∈ mn t la ++ mn t lb, validP t x = true := fun x hx => by
   rcases List.mem_append.1 hx with hx | hx
   · exact va x hx
   · exact vb x hx
 have oab : ∀ x ∈ mn t la ++ mn t lb, oneP 8 t x = true := fun x hx => validP_one (vab x hx)
 have cu : checkB t (minimalP (belowP 8 t) (mn t la ++ mn t lb)) = 0 := check_min ht vab (by have : (minimalP (belowP 8 t) (mn t la ++ mn t lb)).length ≤ _ := minP_length_le _; rw [List.length_append] at this; omega)
 have inter : er = 0 → (∀ x ∈ mn t la, ∀ y ∈ mn t lb, (mtP t x y).2 = 0) ∧ i = minimalP (belowP 8 t) (allM t (mn t la) (mn t lb)) ∧ i.length ≤ 256 := fun e => by
   rcases hi with h | h
   · exact h.2
   · exact absurd e h.1
 have vall : er = 0 → ∀ z ∈ allM t (mn t la) (mn t lb), validP t z = true := fun e z hz => by
   obtain ⟨x, hx, y, hy, h⟩ := mem_allM hz
   exact (meet_one ((inter e).1 x hx y hy)).2.2.2.2.2.2.1 z h
 have ci : er = 0 → checkB t i = 0 := fun e => by
   have h := inter e
   rw [h.2.1]
   exact check_min ht (vall e) (by rw [← h.2.1]; exact h.2.2)
 have hasu : ∀ v, oneP 8 t v = true → hasP t (minimalP (belowP 8 t) (mn t la ++ mn t lb)) v = (hasP t (mn t la) v || hasP t (mn t lb) v) := fun v hv => by rw [has_min ht oab hv, has_app]
 have hasi : er = 0 → ∀ v, oneP 8 t v = true → hasP t i v = (hasP t (mn t la) v && hasP t (mn t lb) v) := fun e v hv => by
   rw [(inter e).2.1, has_min ht (fun z hz => validP_one (vall e z hz)) hv, has_all ht oa ob (inter e).1 hv]
 refine ⟨?_, fun v hv => ?_, fun e v hv => ?_, fun v hv hs h => ?_, subP_of ca cu (fun x hx => ?_), subP_of cb cu (fun x hx => ?_), fun e => subP_of (ci e) ca (fun x hx => ?_), fun e => subP_of (ci e) cb (fun x hx => ?_)⟩
 · rcases hi with h | h
   · exact .inl h.1
   · rcases h.2 with h2 | ⟨x, hx, y, hy, h2⟩
     · exact .inr h2
     · rcases mt_er ht hm (va x hx) (vb y hy) with h3 | h3
       · exact absurd (h2.trans h3) h.1
       · exact .inr (h2.trans h3)
 · rw [hasB_of cu hv, hasB_of ca hv, hasB_of cb hv, hasu v (validP_one hv)]
 · rw [hasB_of (ci e) hv, hasB_of ca hv, hasB_of cb hv, hasi e v (validP_one hv)]
 · rw [hasB_of ca hv] at h
   rw [hasB_of cb hv]
   exact sub_has ht hs (validP_one hv) h
 · rw [hasu x (oa x hx), has_mem ht (oa x hx) hx]; rfl
 · rw [hasu x (ob x hx), has_mem ht (ob x hx) hx]; simp
 · have ox : oneP 8 t x = true := validP_one ((checkB_zero.1 (ci e)).2.2.1 x hx)
   have := hasi e x ox
   rw [has_mem ht ox hx] at this
   have := this.symm
   simp only [Bool.and_eq_true] at this
   exact this.1
 · have ox : oneP 8 t x = true := validP_one ((checkB_zero.1 (ci e)).2.2.1 x hx)
   have := hasi e x ox
   rw [has_mem ht ox hx] at this
   have := this.symm
   simp only [Bool.and_eq_true] at this
   exact this.2
theorem uni_mn (ht : rightP 8 t = true) {la lb : List V} (ha : ∀ x ∈ la, validP t x = true) (hb : ∀ x ∈ lb, validP t x = true) (na : la.length ≤ 100) (nb : lb.length ≤ 100) : checkAB t (mn t la) (mn t lb) = 0 ∧ uniP t (mn t la) (mn t lb) = (minimalP (belowP 8 t) (mn t la ++ mn t lb), 0) := by
 have ca : checkB t (mn t la) = 0 := check_min ht ha (by have : (minimalP (belowP 8 t) la).length ≤ la.length := minP_length_le _; omega)
 have cb : checkB t (mn t lb) = 0 := check_min ht hb (by have : (minimalP (belowP 8 t) lb).length ≤ lb.length := minP_length_le _; omega)
 have hc : checkAB t (mn t la) (mn t lb) = 0 := by unfold checkAB; rw [if_pos ca]; exact cb
 refine ⟨hc, ?_⟩
 unfold uniP
 rw [if_pos hc]
 have la' := mn_len (t := t) la
 have lb' := mn_len (t := t) lb
 have h : (minimalP (belowP 8 t) (mn t la ++ mn t lb)).length ≤ _ := minP_length_le _
 rw [List.length_append] at h
 exact limP_small (by omega)
end
theorem l7Sets_any (A : Option Addr) (n c : Nat) (hn : n ≤ maxLen) (w : World) (h : IntsArg w A n) : Calls Tryz.prog 8 #[.slice A n c] w (BoolPost w true) := by
 have hn63 : n ≤ 9223372036854775807 := by unfold maxLen at hn; omega
 have AW := Lib.hid (fun W => awake7_any W)
 have FW := Lib.hid (fun W => few_any W A n c hn63)
 by_cases h4 : n ≤ 400
 rotate_left
 · have d4 : decide (n ≤ 400) = false := decide_eq_false h4
   rw [d4] at FW
   clear h
   go_enter Tryz.func8, Tryz.ntmps8
   go_wp2_with (first
     | (go_at_call 9; (with_reducible refine (AW.out w).mono ?_); rintro e w1 ⟨rfl, hg1⟩)
     | (go_at_call 10; (with_reducible refine (FW.out w1).mono ?_); rintro e w2 ⟨rfl, rfl⟩)
     | (go_at_call 9; (with_reducible refine (AW.out w1).mono ?_); rintro e w3 ⟨rfl, hg3⟩))
   go_ret
   exact ⟨rfl, hg1.trans hg3⟩
 have d4 : decide (n ≤ 400) = true := decide_eq_true h4
 rw [d4] at FW
 have CN := Lib.hid (fun W g => new_arg w W A n c h4 h g)
 have CD := Lib.hid (fun W b hd => dealtF_any W b hd)
 unfold NewPost at CN
 unfold DealtF at CD
 clear h
 go_enter Tryz.func8, Tryz.ntmps8
 go_upto_region 5 with (first
   | (go_at_call 9; (with_reducible refine (AW.out w).mono ?_); rintro e w1 ⟨rfl, hg1⟩)
   | (go_at_call 10; (with_reducible refine (FW.out w1).mono ?_); rintro e w2 ⟨rfl, rfl⟩)
   | (go_at_call 11; (with_reducible refine (CN.out w1 hg1).mono ?_); rintro e w3 ⟨rfl, hd3, hg3⟩; have hs1 := hg1.size; generalize w1.heap.size = b at hd3 hg3 hs1 ⊢)
   | (go_at_call 12; (with_reducible refine (CD.out w3 b hd3).mono ?_); rintro e w4 ⟨t, A1, rn, c1, A2, pn, c2, rfl, ht, hls, hme, hT, hg4⟩; have hg4' : GD b w3 (w4.alloc (.cells #[.int .i64 t.kind, .int .i64 t.size, .slice A1 rn c1, .slice A2 pn c2] 29)) := hg4.bw ((Bw.refl _).alloc _); have hT4 := hT.td ((GD.refl hg4.2).bw ((Bw.refl _).alloc (.cells #[.int .i64 t.kind, .int .i64 t.size, .slice A1 rn c1, .slice A2 pn c2] 29)))))
 have hb4 : b < w4.heap.size := hg4.2.lt
 have hw3 : Bw w w3 := Below.trans hg1 (Below.mono hg3 hs1)
 have hw4 : Bw w (w4.alloc (.cells #[.int .i64 t.kind, .int .i64 t.size, .slice A1 rn c1, .slice A2 pn c2] 29)) := bw_gb hw3 hg4'.1 (fun r e => by injection e with e; omega)
 have hbw : w.heap.size ≤ b := hs1
 refine wp_world (fun W => Hid (Bw w W ∧ DeckOk W b ∧ TAt W (TD b W) (.slice A1 rn c1) (.slice A2 pn c2) t ∧ Blk W w4.heap.size 29 #[.int .i64 t.kind, .int .i64 t.size, .slice A1 rn c1, .slice A2 pn c2] ∧ b < w4.heap.size)) (Lib.hid ⟨hw4, hg4'.2, hT4, Blk.new _ _ _, hb4⟩) ?_
 intro W0 HW0
 clear hw4 hw3 hb4 hT4 hg4' hg4 hT hd3 hg3 hg1 AW FW CN CD hn hn63 h4 d4 hs1
 generalize w4.heap.size = g4 at *
 obtain ⟨hw0, hd0, hT0, hbx, hb4⟩ := HW0.out
 have DV := Lib.hid (fun W (g : GD b W0 W) => dealtV_any W b 3 3 rfl (by omega) t ht hls (.slice A1 rn c1) (.slice A2 pn c2) g.2 (hT0.td g))
 unfold DealtV at DV
 have HG0 : Hid (GD b W0 W0.drew) := Lib.hid (GD.refl hd0).drew
 have hgb : g4 ≠ b := by omega
 have KS : Hid (∀ W', GD b W0 W' → W'.cell? ⟨g4, 0, none⟩ = some (.int .i64 t.kind) ∧ W'.cell? ⟨g4, 1, none⟩ = some (.int .i64 t.size) ∧ W'.cell? ⟨g4, 2, none⟩ = some (.slice A1 rn c1) ∧ W'.cell? ⟨g4, 3, none⟩ = some (.slice A2 pn c2)) := Lib.hid (fun W' g => by
   have h := g.blk hbx hgb
   exact ⟨h.cell 0, h.cell 1, h.cell 2, h.cell 3⟩)
 have HT0 := Lib.hid hT0
 have HBX := Lib.hid hbx
 have HW0' := Lib.hid hw0
 have HT := Lib.hid ht
 have HLS := Lib.hid hls
 have HME := Lib.hid hme
 have TG : Hid (∀ W', GD b W0 W' → TB W' W'.heap.size (.slice A1 rn c1) (.slice A2 pn c2) t) := Lib.hid (fun W' g => (HT0.out.td g).keep (fun x hx => hx.2) (fun _ _ => rfl))
 have MN : Hid (∀ (l : List V) (s : Value) (W : World), GD b W0 W → l.length ≤ 3 → (∀ v ∈ l, validP t v = true) → KB W W.heap.size s l → Calls Tryz.prog 14 #[.agg #[.int .i64 t.kind, .int .i64 t.size, .slice A1 rn c1, .slice A2 pn c2], s] W (ValsErr W (mn t l) 0)) := Lib.hid (fun l s W g hl hv hk => by
   have CM := bMinimise_any t l (by omega) _ _ _ W (TG.out W g) hk
   rw [minimise_mn HT.out hv (by omega)] at CM
   exact CM)
 have VAL : Hid (∀ W, GD b W0 W → Calls Tryz.prog 21 #[.pointer (some ⟨b, 0, none⟩), .agg #[.int .i64 t.kind, .int .i64 t.size, .slice A1 rn c1, .slice A2 pn c2]] W (Dealt1 W b t)) := Lib.hid (fun W g => dealt1_any W b t HT.out HLS.out _ _ g.2 (HT0.out.td g))
 have HAS : Hid (∀ (q : List V) (v : V) (s s2 : Value) (W : World), GD b W0 W → KB W W.heap.size s q → KB W W.heap.size s2 v.ks → Calls Tryz.prog 19 #[.agg #[.int .i64 t.kind, .int .i64 t.size, .slice A1 rn c1, .slice A2 pn c2], s, .agg #[.int .i64 v.n, s2]] W (BoolPost W (hasB t q v))) := Lib.hid (fun q v s s2 W g h h2 => bHas_any t q v _ _ _ _ W (TG.out W g) h h2)
 have SUB : Hid (∀ (p q : List V) (s s2 : Value) (W : World), GD b W0 W → KB W W.heap.size s p → KB W W.heap.size s2 q → Calls Tryz.prog 18 #[.agg #[.int .i64 t.kind, .int .i64 t.size, .slice A1 rn c1, .slice A2 pn c2], s, s2] W (BoolPost W (subP t p q))) := Lib.hid (fun p q s s2 W g h h2 => bSubset_any t p q _ _ _ _ W (TG.out W g) h h2)
 have UNI : Hid (∀ (la lb : List V) (s s2 : Value) (W : World), GD b W0 W → (∀ v ∈ la, validP t v = true) → (∀ v ∈ lb, validP t v = true) → la.length ≤ 3 → lb.length ≤ 3 → KB W W.heap.size s (mn t la) → KB W W.heap.size s2 (mn t lb) → Calls Tryz.prog 28 #[.agg #[.int .i64 t.kind, .int .i64 t.size, .slice A1 rn c1, .slice A2 pn c2], s, s2] W (ValsErr W (minimalP (belowP 8 t) (mn t la ++ mn t lb)) 0)) := Lib.hid (fun la lb s s2 W g va vb na nb h h2 => by
   have CU := bUnion_any t (mn t la) (mn t lb) _ _ _ _ W (TG.out W g) h h2
   rw [(uni_mn HT.out va vb (by omega) (by omega)).2] at CU
   exact CU)
 have ITS : Hid (∀ (la lb : List V) (s s2 : Value) (W : World), GD b W0 W → (∀ v ∈ la, validP t v = true) → (∀ v ∈ lb, validP t v = true) → la.length ≤ 3 → lb.length ≤ 3 → KB W W.heap.size s (mn t la) → KB W W.heap.size s2 (mn t lb) → Calls Tryz.prog 35 #[.agg #[.int .i64 t.kind, .int .i64 t.size, .slice A1 rn c1, .slice A2 pn c2], s, s2] W (ItsPost t (mn t la) (mn t lb) W)) := Lib.hid (fun la lb s s2 W g va vb na nb h h2 => bIntersect_any t (mn t la) (mn t lb) (uni_mn HT.out va vb (by omega) (by omega)).1 (by have := mn_len (t := t) la; omega) (by have := mn_len (t := t) lb; omega) _ _ _ _ W (TG.out W g) h h2)
 unfold ValsErr at MN UNI
 unfold ItsPost at ITS
 unfold Dealt1 at VAL
 clear hw0 hd0 hT0 hbx HW0 ht hls hme
 generalize hkd : t.kind = kd at *
 generalize hz : t.size = z at *
 clear hkd hz
 go_region_held3 (fun W' => W'.cell? ⟨g4, 0, none⟩ = some (.int .i64 kd) ∧ W'.cell? ⟨g4, 1, none⟩ = some (.int .i64 z) ∧ W'.cell? ⟨g4, 2, none⟩ = some (.slice A1 rn c1) ∧ W'.cell? ⟨g4, 3, none⟩ = some (.slice A2 pn c2)) (first | (refine KS.out _ ?_; first | exact HG0.out | exact HG5.out | exact HG6.out)) (first | (go_at_call 13; (with_reducible refine (DV.out _ HG0.out).mono ?_); rintro e w5 ⟨la, A5, n5, c5, rfl, l5, hn5, hv5, hk5, hg5⟩; have HG5 : Hid (GD b W0 w5) := Lib.hid (HG0.out.trans hg5)) | (go_at_call 14; (with_reducible refine (MN.out la _ _ HG5.out (by omega) hv5 hk5).mono ?_); rintro e w6 ⟨s6, rfl, hk6, hg6⟩; obtain ⟨A6, n6, c6, rfl, -, -, -⟩ := hk6.form; have HG6 : Hid (GD b W0 w6) := Lib.hid (HG5.out.bw hg6)))
 have hbl : b < w5.heap.size := by have := HG5.out.size; have := HBX.out.lt; omega
 have HK6 : Hid (KAt w6 (TD b w6) (.slice A6 n6 c6) (mn t la)) := Lib.hid (hk6.keep (fun x hx => ⟨by omega, hx.2⟩) (fun _ _ => rfl))
 have HVA := Lib.hid hv5
 have HLA : Hid (la.length ≤ 3) := Lib.hid (by omega)
 clear hk6 hg6 hk5 hg5 hv5 l5 hn5 HG5 hbl
 go_upto_region 6 with fail
 have HD6 : Hid (GD b W0 w6.drew) := Lib.hid HG6.out.drew
 go_region_held3 (fun W' => W'.cell? ⟨g4, 0, none⟩ = some (.int .i64 kd) ∧ W'.cell? ⟨g4, 1, none⟩ = some (.int .i64 z) ∧ W'.cell? ⟨g4, 2, none⟩ = some (.slice A1 rn c1) ∧ W'.cell? ⟨g4, 3, none⟩ = some (.slice A2 pn c2)) (first | (refine KS.out _ ?_; first | exact HD6.out | exact HG7.out | exact HG8.out)) (first | (go_at_call 13; (with_reducible refine (DV.out _ HD6.out).mono ?_); rintro e w7 ⟨lb, A7, n7, c7, rfl, l7, hn7, hv7, hk7, hg7⟩; have HG67 : Hid (GD b w6 w7) := Lib.hid ((GD.refl HG6.out.2).drew.trans hg7); have HG7 : Hid (GD b W0 w7) := Lib.hid (HD6.out.trans hg7)) | (go_at_call 14; (with_reducible refine (MN.out lb _ _ HG7.out (by omega) hv7 hk7).mono ?_); rintro e w8 ⟨s8, rfl, hk8, hg8⟩; obtain ⟨A8, n8, c8, rfl, -, -, -⟩ := hk8.form; have HG78 : Hid (Bw w7 w8) := Lib.hid hg8; have HG8 : Hid (GD b W0 w8) := Lib.hid (HG7.out.bw hg8)))
 have hbl : b < w7.heap.size := by have := HG7.out.size; have := HBX.out.lt; omega
 have HK8 : Hid (KAt w8 (TD b w8) (.slice A8 n8 c8) (mn t lb) ∧ KAt w8 (TD b w8) (.slice A6 n6 c6) (mn t la)) := Lib.hid ⟨hk8.keep (fun x hx => ⟨by omega, hx.2⟩) (fun _ _ => rfl), HK6.out.td (HG67.out.bw HG78.out)⟩
 have HVB := Lib.hid hv7
 have HLB : Hid (lb.length ≤ 3) := Lib.hid (by omega)
 clear hk8 hg8 hk7 hg7 hv7 l7 hn7 HG7 hbl HK6 HG6 HD6 HG67 HG78 MN DV
 obtain ⟨t0, t1, t2, t3⟩ := KS.out w8 HG8.out
 have HB8 : Hid (b < w8.heap.size) := Lib.hid (by have := HG8.out.size; have := HBX.out.lt; omega)
 go_upto_region 9 with (first
   | (go_at_call 35; (with_reducible refine (ITS.out la lb _ _ _ HG8.out HVA.out HVB.out HLA.out HLB.out HK8.out.2.kb_ HK8.out.1.kb_).mono ?_); rintro e w9 ⟨s9, li, er, rfl, hk9, hg9, ho9⟩; obtain ⟨A9, n9, c9, rfl, -, -, -⟩ := hk9.form; (have HG9 : Hid (GD b W0 w9) := Lib.hid (HG8.out.bw hg9)); (have HK9 : Hid (KAt w9 (TD b w9) (.slice A9 n9 c9) li ∧ KAt w9 (TD b w9) (.slice A8 n8 c8) (mn t lb) ∧ KAt w9 (TD b w9) (.slice A6 n6 c6) (mn t la)) := Lib.hid ⟨hk9.keep (fun x hx => ⟨by have := HB8.out; omega, hx.2⟩) (fun _ _ => rfl), HK8.out.1.td ((GD.refl HG8.out.2).bw hg9), HK8.out.2.td ((GD.refl HG8.out.2).bw hg9)⟩); (have HO9 := Lib.hid ho9); clear hk9 hg9 ho9 t0 t1 t2 t3; obtain ⟨t0, t1, t2, t3⟩ := KS.out w9 HG9.out)
   | (go_at_call 28; (with_reducible refine (UNI.out la lb _ _ _ HG9.out HVA.out HVB.out HLA.out HLB.out HK9.out.2.2.kb_ HK9.out.2.1.kb_).mono ?_); rintro e w10 ⟨s10, rfl, hk10, hg10⟩; obtain ⟨A10, n10, c10, rfl, -, -, -⟩ := hk10.form; (have HG10 : Hid (GD b W0 w10) := Lib.hid (HG9.out.bw hg10)); (have HK10 : Hid (KAt w10 (TD b w10) (.slice A10 n10 c10) (minimalP (belowP 8 t) (mn t la ++ mn t lb)) ∧ KAt w10 (TD b w10) (.slice A9 n9 c9) li ∧ KAt w10 (TD b w10) (.slice A8 n8 c8) (mn t lb) ∧ KAt w10 (TD b w10) (.slice A6 n6 c6) (mn t la)) := Lib.hid ⟨hk10.keep (fun x hx => ⟨by have := HB8.out; have := HG9.out.size; have := HBX.out.lt; have := hx.1; omega, hx.2⟩) (fun _ _ => rfl), HK9.out.1.td ((GD.refl HG9.out.2).bw hg10), HK9.out.2.1.td ((GD.refl HG9.out.2).bw hg10), HK9.out.2.2.td ((GD.refl HG9.out.2).bw hg10)⟩); clear hk10 hg10 t0 t1 t2 t3))
 have HSO := Lib.hid (sets_ok HT.out HME.out HVA.out HVB.out (by have := HLA.out; omega) (by have := HLB.out; omega) HO9.out)
 clear HK8 HK9 HO9 HG8 HG9 ITS UNI HVA HVB HLA HLB HB8
 generalize minimalP (belowP 8 t) (mn t la ++ mn t lb) = U at *
 generalize mn t la = PA at *
 generalize mn t lb = PB at *
 refine wp_world (fun W => Hid (GD b W0 W ∧ KAt W (TD b W) (.slice A10 n10 c10) U ∧ KAt W (TD b W) (.slice A9 n9 c9) li ∧ KAt W (TD b W) (.slice A8 n8 c8) PB ∧ KAt W (TD b W) (.slice A6 n6 c6) PA)) (Lib.hid ⟨HG10.out, HK10.out⟩) ?_
 intro W1 HW1
 clear HG10 HK10
 have HBG : Hid (∀ W, GD b W1 W → GD b W0 W ∧ KB W W.heap.size (.slice A10 n10 c10) U ∧ KB W W.heap.size (.slice A9 n9 c9) li ∧ KB W W.heap.size (.slice A8 n8 c8) PB ∧ KB W W.heap.size (.slice A6 n6 c6) PA) := Lib.hid (fun W g => ⟨HW1.out.1.trans g, (HW1.out.2.1.td g).kb_, (HW1.out.2.2.1.td g).kb_, (HW1.out.2.2.2.1.td g).kb_, (HW1.out.2.2.2.2.td g).kb_⟩)
 have HR1 : Hid (GD b W1 W1) := Lib.hid (GD.refl HW1.out.1.2)
 have HBB : Hid (b < W1.heap.size ∧ ∀ W, GD b W1 W → Bw w W) := Lib.hid ⟨HW1.out.1.2.lt, fun W g => bw_gb HW0'.out (HW1.out.1.trans g).1 (fun r e => by injection e with e; omega)⟩
 clear HW1
 unfold BoolPost at HAS SUB
 have her := HSO.out.er1
 rcases her with rfl | rfl
 · skip
   go_wp2_with fail
   go_loopw [13] (fun i wr => ∃ k : Nat, k ≤ 8 ∧ i = .int .i64 k ∧ Hid (GD b W1 wr)) (fun i _ => 8 - (intOf i).toNat)
   case atStart => exact ⟨0, by omega, rfl, HR1⟩
   case round =>
     obtain ⟨wo, rfl⟩ : ∃ wo : World, wo = wr := ⟨_, rfl⟩
     obtain ⟨k, hk, rfl, HR⟩ := hrel
     clear HR1
     by_cases hlt : k < 8
     rotate_left
     · clear VAL HAS
       have HX := Lib.hid (HBG.out wo HR.out)
       have HY : Hid (∀ W, Bw wo W → GD b W1 W) := Lib.hid (fun W g => HR.out.bw g)
       have HE : Hid (Bw w wo) := Lib.hid (HBB.out.2 wo HR.out)
       obtain ⟨t0, t1, t2, t3⟩ := KS.out wo HX.out.1
       have S1 : Hid (∀ W, Bw wo W → Calls Tryz.prog 18 #[.agg #[.int .i64 kd, .int .i64 z, .slice A1 rn c1, .slice A2 pn c2], .slice A6 n6 c6, .slice A10 n10 c10] W (BoolPost W true)) := Lib.hid (fun W g => by
         have q := HBG.out W (HY.out W g)
         have h := SUB.out PA U _ _ W q.1 q.2.2.2.2 q.2.1
         rw [HSO.out.au] at h; exact h)
       have S2 : Hid (∀ W, Bw wo W → Calls Tryz.prog 18 #[.agg #[.int .i64 kd, .int .i64 z, .slice A1 rn c1, .slice A2 pn c2], .slice A8 n8 c8, .slice A10 n10 c10] W (BoolPost W true)) := Lib.hid (fun W g => by
         have q := HBG.out W (HY.out W g)
         have h := SUB.out PB U _ _ W q.1 q.2.2.2.1 q.2.1
         rw [HSO.out.bu] at h; exact h)
       have K2 : Hid (∀ W, Bw wo W → _) := Lib.hid (fun W g => KS.out W (HBG.out W (HY.out W g)).1)
       have S3 : Hid (∀ W, Bw wo W → Calls Tryz.prog 18 #[.agg #[.int .i64 kd, .int .i64 z, .slice A1 rn c1, .slice A2 pn c2], .slice A9 n9 c9, .slice A6 n6 c6] W (BoolPost W true)) := Lib.hid (fun W g => by
         have q := HBG.out W (HY.out W g)
         have h := SUB.out li PA _ _ W q.1 q.2.2.1 q.2.2.2.2
         rw [HSO.out.ia rfl] at h; exact h)
       have S4 : Hid (∀ W, Bw wo W → Calls Tryz.prog 18 #[.agg #[.int .i64 kd, .int .i64 z, .slice A1 rn c1, .slice A2 pn c2], .slice A9 n9 c9, .slice A8 n8 c8] W (BoolPost W true)) := Lib.hid (fun W g => by
         have q := HBG.out W (HY.out W g)
         have h := SUB.out li PB _ _ W q.1 q.2.2.1 q.2.2.2.1
         rw [HSO.out.ib rfl] at h; exact h)
       unfold BoolPost at S1 S2 S3 S4
       clear SUB HSO HX HR HBG
       go_wp2_with (first
         | (go_at_call 18; (with_reducible refine (S1.out wo (Bw.refl _)).mono ?_); rintro e v1 ⟨rfl, hv1⟩; (have hw1 : Bw wo v1 := (Bw.refl _).trans hv1); clear t0 t1 t2 t3; obtain ⟨t0, t1, t2, t3⟩ := K2.out v1 hw1)
         | (go_at_call 18; (with_reducible refine (S2.out v1 hw1).mono ?_); rintro e v2 ⟨rfl, hv2⟩; (have hw2 : Bw wo v2 := hw1.trans hv2); clear t0 t1 t2 t3; obtain ⟨t0, t1, t2, t3⟩ := K2.out v2 hw2)
         | (go_at_call 18; (with_reducible refine (S3.out v2 hw2).mono ?_); rintro e v3 ⟨rfl, hv3⟩; (have hw3 : Bw wo v3 := hw2.trans hv3); clear t0 t1 t2 t3; obtain ⟨t0, t1, t2, t3⟩ := K2.out v3 hw3)
         | (go_at_call 18; (with_reducible refine (S4.out v3 hw3).mono ?_); rintro e v4 ⟨rfl, hv4⟩; (have hw4 : Bw wo v4 := hw3.trans hv4); clear t0 t1 t2 t3; obtain ⟨t0, t1, t2, t3⟩ := K2.out v4 hw4))
       go_ret
       exact ⟨rfl, HE.out.trans hw4⟩
     have dk : decide ((k : Int) < 8) = true := decide_eq_true (by omega)
     have HG0 : Hid (GD b W0 wo) := Lib.hid (HBG.out wo HR.out).1
     obtain ⟨t0, t1, t2, t3⟩ := KS.out wo HG0.out
     go_upto_region 15 with (go_at_call 21; (with_reducible refine (VAL.out _ HG0.out).mono ?_); rintro e w2 ⟨v, Av, nv, cv, rfl, hv, hkv, hgv⟩)
     have H2 : Hid (GD b W1 (w2.alloc (.cells #[.int .i64 v.n, .slice Av nv cv] 39)) ∧ Blk (w2.alloc (.cells #[.int .i64 v.n, .slice Av nv cv] 39)) w2.heap.size 39 #[.int .i64 v.n, .slice Av nv cv] ∧ KB (w2.alloc (.cells #[.int .i64 v.n, .slice Av nv cv] 39)) (w2.alloc (.cells #[.int .i64 v.n, .slice Av nv cv] 39)).heap.size (.slice Av nv cv) v.ks) := Lib.hid (by
       have hx : Bw w2 (w2.alloc (.cells #[.int .i64 v.n, .slice Av nv cv] 39)) := (Bw.refl _).alloc _
       exact ⟨(HR.out.trans hgv).bw hx, Blk.new _ _ _, (KAt.td hkv ((GD.refl hgv.2).bw hx)).kb_⟩)
     refine wp_world (fun W => Hid (GD b W1 W ∧ Blk W w2.heap.size 39 #[.int .i64 v.n, .slice Av nv cv] ∧ KB W W.heap.size (.slice Av nv cv) v.ks)) H2 ?_
     intro W2 HW2
     have HV := Lib.hid hv
     clear H2 hkv hgv hv HR HG0 t0 t1 t2 t3 VAL
     generalize w2.heap.size = g5 at *
     have HGW : Hid (∀ W, Bw W2 W → GD b W1 W) := Lib.hid (fun W g => HW2.out.1.bw g)
     have F6 : Hid (∀ W, Bw W2 W → (W.cell? ⟨g4, 0, none⟩ = some (.int .i64 kd) ∧ W.cell? ⟨g4, 1, none⟩ = some (.int .i64 z) ∧ W.cell? ⟨g4, 2, none⟩ = some (.slice A1 rn c1) ∧ W.cell? ⟨g4, 3, none⟩ = some (.slice A2 pn c2)) ∧ W.cell? ⟨g5, 0, none⟩ = some (.int .i64 v.n) ∧ W.cell? ⟨g5, 1, none⟩ = some (.slice Av nv cv)) := Lib.hid (fun W g => by
       have h := HW2.out.2.1.below g.b HW2.out.2.1.lt
       exact ⟨KS.out W (HBG.out W (HGW.out W g)).1, h.cell 0, h.cell 1⟩)
     have HVK : Hid (∀ W, Bw W2 W → KB W W.heap.size (.slice Av nv cv) v.ks) := Lib.hid (fun W g => HW2.out.2.2.bw g)
     have C1 : Hid (∀ W, Bw W2 W → Calls Tryz.prog 19 #[.agg #[.int .i64 kd, .int .i64 z, .slice A1 rn c1, .slice A2 pn c2], .slice A6 n6 c6, .agg #[.int .i64 v.n, .slice Av nv cv]] W (BoolPost W (hasB t PA v))) := Lib.hid (fun W g => HAS.out PA v _ _ W (HBG.out W (HGW.out W g)).1 (HBG.out W (HGW.out W g)).2.2.2.2 (HVK.out W g))
     have C2 : Hid (∀ W, Bw W2 W → Calls Tryz.prog 19 #[.agg #[.int .i64 kd, .int .i64 z, .slice A1 rn c1, .slice A2 pn c2], .slice A8 n8 c8, .agg #[.int .i64 v.n, .slice Av nv cv]] W (BoolPost W (hasB t PB v))) := Lib.hid (fun W g => HAS.out PB v _ _ W (HBG.out W (HGW.out W g)).1 (HBG.out W (HGW.out W g)).2.2.2.1 (HVK.out W g))
     have C3 : Hid (∀ W, Bw W2 W → Calls Tryz.prog 19 #[.agg #[.int .i64 kd, .int .i64 z, .slice A1 rn c1, .slice A2 pn c2], .slice A10 n10 c10, .agg #[.int .i64 v.n, .slice Av nv cv]] W (BoolPost W (hasB t PA v || hasB t PB v))) := Lib.hid (fun W g => by
       have h := HAS.out U v _ _ W (HBG.out W (HGW.out W g)).1 (HBG.out W (HGW.out W g)).2.1 (HVK.out W g)
       rw [HSO.out.un v HV.out] at h; exact h)
     have C4 : Hid (∀ W, Bw W2 W → Calls Tryz.prog 19 #[.agg #[.int .i64 kd, .int .i64 z, .slice A1 rn c1, .slice A2 pn c2], .slice A9 n9 c9, .agg #[.int .i64 v.n, .slice Av nv cv]] W (BoolPost W (hasB t PA v && hasB t PB v))) := Lib.hid (fun W g => by
       have h := HAS.out li v _ _ W (HBG.out W (HGW.out W g)).1 (HBG.out W (HGW.out W g)).2.2.1 (HVK.out W g)
       rw [HSO.out.inter rfl v HV.out] at h; exact h)
     have C5 : Hid (∀ W, Bw W2 W → Calls Tryz.prog 18 #[.agg #[.int .i64 kd, .int .i64 z, .slice A1 rn c1, .slice A2 pn c2], .slice A6 n6 c6, .slice A8 n8 c8] W (BoolPost W (subP t PA PB))) := Lib.hid (fun W g => SUB.out PA PB _ _ W (HBG.out W (HGW.out W g)).1 (HBG.out W (HGW.out W g)).2.2.2.2 (HBG.out W (HGW.out W g)).2.2.2.1)
     have hinc : subP t PA PB = true → hasB t PA v = true → hasB t PB v = true := HSO.out.inc v HV.out
     clear HAS SUB HSO HV HVK HBG KS
     have HGK := Lib.hid HW2.out.1
     clear HW2
     generalize hasB t PA v = x at *
     generalize hasB t PB v = y at *
     generalize subP t PA PB = s at *
     have P1 : Hid (∀ P : BwOf W2, Calls Tryz.prog 19 #[.agg #[.int .i64 kd, .int .i64 z, .slice A1 rn c1, .slice A2 pn c2], .slice A6 n6 c6, .agg #[.int .i64 v.n, .slice Av nv cv]] P.val (BoolPost P.val x)) := Lib.hid (fun P => C1.out _ P.bw)
     have P2 : Hid (∀ P : BwOf W2, Calls Tryz.prog 19 #[.agg #[.int .i64 kd, .int .i64 z, .slice A1 rn c1, .slice A2 pn c2], .slice A8 n8 c8, .agg #[.int .i64 v.n, .slice Av nv cv]] P.val (BoolPost P.val y)) := Lib.hid (fun P => C2.out _ P.bw)
     have o0 : ∀ P : BwOf W2, P.val.cell? ⟨g4, 0, none⟩ = some (.int .i64 kd) := fun P => (F6.out _ P.bw).1.1
     have o1 : ∀ P : BwOf W2, P.val.cell? ⟨g4, 1, none⟩ = some (.int .i64 z) := fun P => (F6.out _ P.bw).1.2.1
     have o2 : ∀ P : BwOf W2, P.val.cell? ⟨g4, 2, none⟩ = some (.slice A1 rn c1) := fun P => (F6.out _ P.bw).1.2.2.1
     have o3 : ∀ P : BwOf W2, P.val.cell? ⟨g4, 3, none⟩ = some (.slice A2 pn c2) := fun P => (F6.out _ P.bw).1.2.2.2
     have o4 : ∀ P : BwOf W2, P.val.cell? ⟨g5, 0, none⟩ = some (.int .i64 v.n) := fun P => (F6.out _ P.bw).2.1
     have o5 : ∀ P : BwOf W2, P.val.cell? ⟨g5, 1, none⟩ = some (.slice Av nv cv) := fun P => (F6.out _ P.bw).2.2
     clear C1 C2
     refine wp_region_quiet_bw mixedO (by kernel_rfl) ?_
     repeat (go_big_quiet_step ((first | (go_at_call 19; with_reducible exact calls_bw _ (P1.out _)) | (go_at_call 19; with_reducible exact calls_bw _ (P2.out _)))))
     refine wpQuiet_nil ?_
     intro w8 hw'
     obtain ⟨⟨w8', hg8⟩, rfl⟩ := hw'
     have HG8 := Lib.hid hg8
     obtain ⟨⟨t0, t1, t2, t3⟩, t4, t5⟩ := F6.out w8 hg8
     clear hg8 o0 o1 o2 o3 o4 o5 P1 P2
     go_upto_region 16 with fail
     -- false false
     -- false true
     -- true false
     -- true true
     have hcase : ∀ s : Bool, (s = true → x = true → y = true) → s = s := fun _ _ => rfl
     clear hcase
     rcases x with _ | _ <;> rcases y with _ | _ <;> rcases s with _ | _
     · unfold BoolPost at C3 C5 C4
       clear hinc
       simp only [Bool.or_true, Bool.true_or, Bool.or_false, Bool.false_or, Bool.or_self, Bool.and_true, Bool.true_and, Bool.and_false, Bool.false_and, Bool.and_self] at C3 C4
       go_wp2_with (first
         | (go_at_call 19; (with_reducible refine (C3.out _ HG8.out).mono ?_); rintro e w9 ⟨rfl, hg⟩; (have hg9 : Bw W2 w9 := HG8.out.trans hg); clear hg; clear t0 t1 t2 t3 t4 t5; obtain ⟨⟨t0, t1, t2, t3⟩, t4, t5⟩ := F6.out _ hg9)
             | (go_at_call 19; (with_reducible refine (C4.out _ hg9).mono ?_); rintro e w10 ⟨rfl, hg⟩; (have hg10 : Bw W2 w10 := hg9.trans hg); clear hg; clear t0 t1 t2 t3 t4 t5; obtain ⟨⟨t0, t1, t2, t3⟩, t4, t5⟩ := F6.out _ hg10)
             | (go_at_call 18; (with_reducible refine (C5.out _ hg10).mono ?_); rintro e w11 ⟨rfl, hg⟩; (have hg11 : Bw W2 w11 := hg10.trans hg); clear hg))
       go_roundw
       case rel => exact ⟨k + 1, by omega, by go_num, Lib.hid (HGK.out.bw hg11)⟩
       case measure => simp [intOf]; omega
     · unfold BoolPost at C3 C5 C4
       clear hinc
       simp only [Bool.or_true, Bool.true_or, Bool.or_false, Bool.false_or, Bool.or_self, Bool.and_true, Bool.true_and, Bool.and_false, Bool.false_and, Bool.and_self] at C3 C4
       go_wp2_with (first
         | (go_at_call 19; (with_reducible refine (C3.out _ HG8.out).mono ?_); rintro e w9 ⟨rfl, hg⟩; (have hg9 : Bw W2 w9 := HG8.out.trans hg); clear hg; clear t0 t1 t2 t3 t4 t5; obtain ⟨⟨t0, t1, t2, t3⟩, t4, t5⟩ := F6.out _ hg9)
             | (go_at_call 19; (with_reducible refine (C4.out _ hg9).mono ?_); rintro e w10 ⟨rfl, hg⟩; (have hg10 : Bw W2 w10 := hg9.trans hg); clear hg; clear t0 t1 t2 t3 t4 t5; obtain ⟨⟨t0, t1, t2, t3⟩, t4, t5⟩ := F6.out _ hg10)
             | (go_at_call 18; (with_reducible refine (C5.out _ hg10).mono ?_); rintro e w11 ⟨rfl, hg⟩; (have hg11 : Bw W2 w11 := hg10.trans hg); clear hg))
       go_roundw
       case rel => exact ⟨k + 1, by omega, by go_num, Lib.hid (HGK.out.bw hg11)⟩
       case measure => simp [intOf]; omega
     · unfold BoolPost at C3 C5 C4
       clear hinc
       simp only [Bool.or_true, Bool.true_or, Bool.or_false, Bool.false_or, Bool.or_self, Bool.and_true, Bool.true_and, Bool.and_false, Bool.false_and, Bool.and_self] at C3 C4
       go_wp2_with (first
         | (go_at_call 19; (with_reducible refine (C3.out _ HG8.out).mono ?_); rintro e w9 ⟨rfl, hg⟩; (have hg9 : Bw W2 w9 := HG8.out.trans hg); clear hg; clear t0 t1 t2 t3 t4 t5; obtain ⟨⟨t0, t1, t2, t3⟩, t4, t5⟩ := F6.out _ hg9)
             | (go_at_call 19; (with_reducible refine (C4.out _ hg9).mono ?_); rintro e w10 ⟨rfl, hg⟩; (have hg10 : Bw W2 w10 := hg9.trans hg); clear hg; clear t0 t1 t2 t3 t4 t5; obtain ⟨⟨t0, t1, t2, t3⟩, t4, t5⟩ := F6.out _ hg10)
             | (go_at_call 18; (with_reducible refine (C5.out _ hg10).mono ?_); rintro e w11 ⟨rfl, hg⟩; (have hg11 : Bw W2 w11 := hg10.trans hg); clear hg))
       go_roundw
       case rel => exact ⟨k + 1, by omega, by go_num, Lib.hid (HGK.out.bw hg11)⟩
       case measure => simp [intOf]; omega
     · unfold BoolPost at C3 C5 C4
       clear hinc
       simp only [Bool.or_true, Bool.true_or, Bool.or_false, Bool.false_or, Bool.or_self, Bool.and_true, Bool.true_and, Bool.and_false, Bool.false_and, Bool.and_self] at C3 C4
       go_wp2_with (first
         | (go_at_call 19; (with_reducible refine (C3.out _ HG8.out).mono ?_); rintro e w9 ⟨rfl, hg⟩; (have hg9 : Bw W2 w9 := HG8.out.trans hg); clear hg; clear t0 t1 t2 t3 t4 t5; obtain ⟨⟨t0, t1, t2, t3⟩, t4, t5⟩ := F6.out _ hg9)
             | (go_at_call 19; (with_reducible refine (C4.out _ hg9).mono ?_); rintro e w10 ⟨rfl, hg⟩; (have hg10 : Bw W2 w10 := hg9.trans hg); clear hg; clear t0 t1 t2 t3 t4 t5; obtain ⟨⟨t0, t1, t2, t3⟩, t4, t5⟩ := F6.out _ hg10)
             | (go_at_call 18; (with_reducible refine (C5.out _ hg10).mono ?_); rintro e w11 ⟨rfl, hg⟩; (have hg11 : Bw W2 w11 := hg10.trans hg); clear hg))
       go_roundw
       case rel => exact ⟨k + 1, by omega, by go_num, Lib.hid (HGK.out.bw hg11)⟩
       case measure => simp [intOf]; omega
     · unfold BoolPost at C3 C5 C4
       clear hinc
       simp only [Bool.or_true, Bool.true_or, Bool.or_false, Bool.false_or, Bool.or_self, Bool.and_true, Bool.true_and, Bool.and_false, Bool.false_and, Bool.and_self] at C3 C4
       go_wp2_with (first
         | (go_at_call 19; (with_reducible refine (C3.out _ HG8.out).mono ?_); rintro e w9 ⟨rfl, hg⟩; (have hg9 : Bw W2 w9 := HG8.out.trans hg); clear hg; clear t0 t1 t2 t3 t4 t5; obtain ⟨⟨t0, t1, t2, t3⟩, t4, t5⟩ := F6.out _ hg9)
             | (go_at_call 19; (with_reducible refine (C4.out _ hg9).mono ?_); rintro e w10 ⟨rfl, hg⟩; (have hg10 : Bw W2 w10 := hg9.trans hg); clear hg; clear t0 t1 t2 t3 t4 t5; obtain ⟨⟨t0, t1, t2, t3⟩, t4, t5⟩ := F6.out _ hg10)
             | (go_at_call 18; (with_reducible refine (C5.out _ hg10).mono ?_); rintro e w11 ⟨rfl, hg⟩; (have hg11 : Bw W2 w11 := hg10.trans hg); clear hg))
       go_roundw
       case rel => exact ⟨k + 1, by omega, by go_num, Lib.hid (HGK.out.bw hg11)⟩
       case measure => simp [intOf]; omega
     · exact absurd (hinc rfl rfl) (by decide)
     · unfold BoolPost at C3 C5 C4
       clear hinc
       simp only [Bool.or_true, Bool.true_or, Bool.or_false, Bool.false_or, Bool.or_self, Bool.and_true, Bool.true_and, Bool.and_false, Bool.false_and, Bool.and_self] at C3 C4
       go_wp2_with (first
         | (go_at_call 19; (with_reducible refine (C3.out _ HG8.out).mono ?_); rintro e w9 ⟨rfl, hg⟩; (have hg9 : Bw W2 w9 := HG8.out.trans hg); clear hg; clear t0 t1 t2 t3 t4 t5; obtain ⟨⟨t0, t1, t2, t3⟩, t4, t5⟩ := F6.out _ hg9)
             | (go_at_call 19; (with_reducible refine (C4.out _ hg9).mono ?_); rintro e w10 ⟨rfl, hg⟩; (have hg10 : Bw W2 w10 := hg9.trans hg); clear hg; clear t0 t1 t2 t3 t4 t5; obtain ⟨⟨t0, t1, t2, t3⟩, t4, t5⟩ := F6.out _ hg10)
             | (go_at_call 18; (with_reducible refine (C5.out _ hg10).mono ?_); rintro e w11 ⟨rfl, hg⟩; (have hg11 : Bw W2 w11 := hg10.trans hg); clear hg))
       go_roundw
       case rel => exact ⟨k + 1, by omega, by go_num, Lib.hid (HGK.out.bw hg11)⟩
       case measure => simp [intOf]; omega
     · unfold BoolPost at C3 C5 C4
       clear hinc
       simp only [Bool.or_true, Bool.true_or, Bool.or_false, Bool.false_or, Bool.or_self, Bool.and_true, Bool.true_and, Bool.and_false, Bool.false_and, Bool.and_self] at C3 C4
       go_wp2_with (first
         | (go_at_call 19; (with_reducible refine (C3.out _ HG8.out).mono ?_); rintro e w9 ⟨rfl, hg⟩; (have hg9 : Bw W2 w9 := HG8.out.trans hg); clear hg; clear t0 t1 t2 t3 t4 t5; obtain ⟨⟨t0, t1, t2, t3⟩, t4, t5⟩ := F6.out _ hg9)
             | (go_at_call 19; (with_reducible refine (C4.out _ hg9).mono ?_); rintro e w10 ⟨rfl, hg⟩; (have hg10 : Bw W2 w10 := hg9.trans hg); clear hg; clear t0 t1 t2 t3 t4 t5; obtain ⟨⟨t0, t1, t2, t3⟩, t4, t5⟩ := F6.out _ hg10)
             | (go_at_call 18; (with_reducible refine (C5.out _ hg10).mono ?_); rintro e w11 ⟨rfl, hg⟩; (have hg11 : Bw W2 w11 := hg10.trans hg); clear hg))
       go_roundw
       case rel => exact ⟨k + 1, by omega, by go_num, Lib.hid (HGK.out.bw hg11)⟩
       case measure => simp [intOf]; omega
 · skip
   go_wp2_with fail
   go_loopw [13] (fun i wr => ∃ k : Nat, k ≤ 8 ∧ i = .int .i64 k ∧ Hid (GD b W1 wr)) (fun i _ => 8 - (intOf i).toNat)
   case atStart => exact ⟨0, by omega, rfl, HR1⟩
   case round =>
     obtain ⟨wo, rfl⟩ : ∃ wo : World, wo = wr := ⟨_, rfl⟩
     obtain ⟨k, hk, rfl, HR⟩ := hrel
     clear HR1
     by_cases hlt : k < 8
     rotate_left
     · clear VAL HAS
       have HX := Lib.hid (HBG.out wo HR.out)
       have HY : Hid (∀ W, Bw wo W → GD b W1 W) := Lib.hid (fun W g => HR.out.bw g)
       have HE : Hid (Bw w wo) := Lib.hid (HBB.out.2 wo HR.out)
       obtain ⟨t0, t1, t2, t3⟩ := KS.out wo HX.out.1
       have S1 : Hid (∀ W, Bw wo W → Calls Tryz.prog 18 #[.agg #[.int .i64 kd, .int .i64 z, .slice A1 rn c1, .slice A2 pn c2], .slice A6 n6 c6, .slice A10 n10 c10] W (BoolPost W true)) := Lib.hid (fun W g => by
         have q := HBG.out W (HY.out W g)
         have h := SUB.out PA U _ _ W q.1 q.2.2.2.2 q.2.1
         rw [HSO.out.au] at h; exact h)
       have S2 : Hid (∀ W, Bw wo W → Calls Tryz.prog 18 #[.agg #[.int .i64 kd, .int .i64 z, .slice A1 rn c1, .slice A2 pn c2], .slice A8 n8 c8, .slice A10 n10 c10] W (BoolPost W true)) := Lib.hid (fun W g => by
         have q := HBG.out W (HY.out W g)
         have h := SUB.out PB U _ _ W q.1 q.2.2.2.1 q.2.1
         rw [HSO.out.bu] at h; exact h)
       have K2 : Hid (∀ W, Bw wo W → _) := Lib.hid (fun W g => KS.out W (HBG.out W (HY.out W g)).1)
       unfold BoolPost at S1 S2
       clear SUB HSO HX HR HBG
       go_wp2_with (first
         | (go_at_call 18; (with_reducible refine (S1.out wo (Bw.refl _)).mono ?_); rintro e v1 ⟨rfl, hv1⟩; (have hw1 : Bw wo v1 := (Bw.refl _).trans hv1); clear t0 t1 t2 t3; obtain ⟨t0, t1, t2, t3⟩ := K2.out v1 hw1)
         | (go_at_call 18; (with_reducible refine (S2.out v1 hw1).mono ?_); rintro e v2 ⟨rfl, hv2⟩; (have hw2 : Bw wo v2 := hw1.trans hv2); clear t0 t1 t2 t3; obtain ⟨t0, t1, t2, t3⟩ := K2.out v2 hw2))
       go_ret
       exact ⟨rfl, HE.out.trans hw2⟩
     have dk : decide ((k : Int) < 8) = true := decide_eq_true (by omega)
     have HG0 : Hid (GD b W0 wo) := Lib.hid (HBG.out wo HR.out).1
     obtain ⟨t0, t1, t2, t3⟩ := KS.out wo HG0.out
     go_upto_region 15 with (go_at_call 21; (with_reducible refine (VAL.out _ HG0.out).mono ?_); rintro e w2 ⟨v, Av, nv, cv, rfl, hv, hkv, hgv⟩)
     have H2 : Hid (GD b W1 (w2.alloc (.cells #[.int .i64 v.n, .slice Av nv cv] 39)) ∧ Blk (w2.alloc (.cells #[.int .i64 v.n, .slice Av nv cv] 39)) w2.heap.size 39 #[.int .i64 v.n, .slice Av nv cv] ∧ KB (w2.alloc (.cells #[.int .i64 v.n, .slice Av nv cv] 39)) (w2.alloc (.cells #[.int .i64 v.n, .slice Av nv cv] 39)).heap.size (.slice Av nv cv) v.ks) := Lib.hid (by
       have hx : Bw w2 (w2.alloc (.cells #[.int .i64 v.n, .slice Av nv cv] 39)) := (Bw.refl _).alloc _
       exact ⟨(HR.out.trans hgv).bw hx, Blk.new _ _ _, (KAt.td hkv ((GD.refl hgv.2).bw hx)).kb_⟩)
     refine wp_world (fun W => Hid (GD b W1 W ∧ Blk W w2.heap.size 39 #[.int .i64 v.n, .slice Av nv cv] ∧ KB W W.heap.size (.slice Av nv cv) v.ks)) H2 ?_
     intro W2 HW2
     have HV := Lib.hid hv
     clear H2 hkv hgv hv HR HG0 t0 t1 t2 t3 VAL
     generalize w2.heap.size = g5 at *
     have HGW : Hid (∀ W, Bw W2 W → GD b W1 W) := Lib.hid (fun W g => HW2.out.1.bw g)
     have F6 : Hid (∀ W, Bw W2 W → (W.cell? ⟨g4, 0, none⟩ = some (.int .i64 kd) ∧ W.cell? ⟨g4, 1, none⟩ = some (.int .i64 z) ∧ W.cell? ⟨g4, 2, none⟩ = some (.slice A1 rn c1) ∧ W.cell? ⟨g4, 3, none⟩ = some (.slice A2 pn c2)) ∧ W.cell? ⟨g5, 0, none⟩ = some (.int .i64 v.n) ∧ W.cell? ⟨g5, 1, none⟩ = some (.slice Av nv cv)) := Lib.hid (fun W g => by
       have h := HW2.out.2.1.below g.b HW2.out.2.1.lt
       exact ⟨KS.out W (HBG.out W (HGW.out W g)).1, h.cell 0, h.cell 1⟩)
     have HVK : Hid (∀ W, Bw W2 W → KB W W.heap.size (.slice Av nv cv) v.ks) := Lib.hid (fun W g => HW2.out.2.2.bw g)
     have C1 : Hid (∀ W, Bw W2 W → Calls Tryz.prog 19 #[.agg #[.int .i64 kd, .int .i64 z, .slice A1 rn c1, .slice A2 pn c2], .slice A6 n6 c6, .agg #[.int .i64 v.n, .slice Av nv cv]] W (BoolPost W (hasB t PA v))) := Lib.hid (fun W g => HAS.out PA v _ _ W (HBG.out W (HGW.out W g)).1 (HBG.out W (HGW.out W g)).2.2.2.2 (HVK.out W g))
     have C2 : Hid (∀ W, Bw W2 W → Calls Tryz.prog 19 #[.agg #[.int .i64 kd, .int .i64 z, .slice A1 rn c1, .slice A2 pn c2], .slice A8 n8 c8, .agg #[.int .i64 v.n, .slice Av nv cv]] W (BoolPost W (hasB t PB v))) := Lib.hid (fun W g => HAS.out PB v _ _ W (HBG.out W (HGW.out W g)).1 (HBG.out W (HGW.out W g)).2.2.2.1 (HVK.out W g))
     have C3 : Hid (∀ W, Bw W2 W → Calls Tryz.prog 19 #[.agg #[.int .i64 kd, .int .i64 z, .slice A1 rn c1, .slice A2 pn c2], .slice A10 n10 c10, .agg #[.int .i64 v.n, .slice Av nv cv]] W (BoolPost W (hasB t PA v || hasB t PB v))) := Lib.hid (fun W g => by
       have h := HAS.out U v _ _ W (HBG.out W (HGW.out W g)).1 (HBG.out W (HGW.out W g)).2.1 (HVK.out W g)
       rw [HSO.out.un v HV.out] at h; exact h)
     have C5 : Hid (∀ W, Bw W2 W → Calls Tryz.prog 18 #[.agg #[.int .i64 kd, .int .i64 z, .slice A1 rn c1, .slice A2 pn c2], .slice A6 n6 c6, .slice A8 n8 c8] W (BoolPost W (subP t PA PB))) := Lib.hid (fun W g => SUB.out PA PB _ _ W (HBG.out W (HGW.out W g)).1 (HBG.out W (HGW.out W g)).2.2.2.2 (HBG.out W (HGW.out W g)).2.2.2.1)
     have hinc : subP t PA PB = true → hasB t PA v = true → hasB t PB v = true := HSO.out.inc v HV.out
     clear HAS SUB HSO HV HVK HBG KS
     have HGK := Lib.hid HW2.out.1
     clear HW2
     generalize hasB t PA v = x at *
     generalize hasB t PB v = y at *
     generalize subP t PA PB = s at *
     have P1 : Hid (∀ P : BwOf W2, Calls Tryz.prog 19 #[.agg #[.int .i64 kd, .int .i64 z, .slice A1 rn c1, .slice A2 pn c2], .slice A6 n6 c6, .agg #[.int .i64 v.n, .slice Av nv cv]] P.val (BoolPost P.val x)) := Lib.hid (fun P => C1.out _ P.bw)
     have P2 : Hid (∀ P : BwOf W2, Calls Tryz.prog 19 #[.agg #[.int .i64 kd, .int .i64 z, .slice A1 rn c1, .slice A2 pn c2], .slice A8 n8 c8, .agg #[.int .i64 v.n, .slice Av nv cv]] P.val (BoolPost P.val y)) := Lib.hid (fun P => C2.out _ P.bw)
     have o0 : ∀ P : BwOf W2, P.val.cell? ⟨g4, 0, none⟩ = some (.int .i64 kd) := fun P => (F6.out _ P.bw).1.1
     have o1 : ∀ P : BwOf W2, P.val.cell? ⟨g4, 1, none⟩ = some (.int .i64 z) := fun P => (F6.out _ P.bw).1.2.1
     have o2 : ∀ P : BwOf W2, P.val.cell? ⟨g4, 2, none⟩ = some (.slice A1 rn c1) := fun P => (F6.out _ P.bw).1.2.2.1
     have o3 : ∀ P : BwOf W2, P.val.cell? ⟨g4, 3, none⟩ = some (.slice A2 pn c2) := fun P => (F6.out _ P.bw).1.2.2.2
     have o4 : ∀ P : BwOf W2, P.val.cell? ⟨g5, 0, none⟩ = some (.int .i64 v.n) := fun P => (F6.out _ P.bw).2.1
     have o5 : ∀ P : BwOf W2, P.val.cell? ⟨g5, 1, none⟩ = some (.slice Av nv cv) := fun P => (F6.out _ P.bw).2.2
     clear C1 C2
     refine wp_region_quiet_bw mixedO (by kernel_rfl) ?_
     repeat (go_big_quiet_step ((first | (go_at_call 19; with_reducible exact calls_bw _ (P1.out _)) | (go_at_call 19; with_reducible exact calls_bw _ (P2.out _)))))
     refine wpQuiet_nil ?_
     intro w8 hw'
     obtain ⟨⟨w8', hg8⟩, rfl⟩ := hw'
     have HG8 := Lib.hid hg8
     obtain ⟨⟨t0, t1, t2, t3⟩, t4, t5⟩ := F6.out w8 hg8
     clear hg8 o0 o1 o2 o3 o4 o5 P1 P2
     go_upto_region 16 with fail
     -- false false
     -- false true
     -- true false
     -- true true
     have hcase : ∀ s : Bool, (s = true → x = true → y = true) → s = s := fun _ _ => rfl
     clear hcase
     rcases x with _ | _ <;> rcases y with _ | _ <;> rcases s with _ | _
     · unfold BoolPost at C3 C5
       clear hinc
       simp only [Bool.or_true, Bool.true_or, Bool.or_false, Bool.false_or, Bool.or_self, Bool.and_true, Bool.true_and, Bool.and_false, Bool.false_and, Bool.and_self] at C3
       go_wp2_with (first
         | (go_at_call 19; (with_reducible refine (C3.out _ HG8.out).mono ?_); rintro e w9 ⟨rfl, hg⟩; (have hg9 : Bw W2 w9 := HG8.out.trans hg); clear hg; clear t0 t1 t2 t3 t4 t5; obtain ⟨⟨t0, t1, t2, t3⟩, t4, t5⟩ := F6.out _ hg9)
             | (go_at_call 18; (with_reducible refine (C5.out _ hg9).mono ?_); rintro e w11 ⟨rfl, hg⟩; (have hg11 : Bw W2 w11 := hg9.trans hg); clear hg))
       go_roundw
       case rel => exact ⟨k + 1, by omega, by go_num, Lib.hid (HGK.out.bw hg11)⟩
       case measure => simp [intOf]; omega
     · unfold BoolPost at C3 C5
       clear hinc
       simp only [Bool.or_true, Bool.true_or, Bool.or_false, Bool.false_or, Bool.or_self, Bool.and_true, Bool.true_and, Bool.and_false, Bool.false_and, Bool.and_self] at C3
       go_wp2_with (first
         | (go_at_call 19; (with_reducible refine (C3.out _ HG8.out).mono ?_); rintro e w9 ⟨rfl, hg⟩; (have hg9 : Bw W2 w9 := HG8.out.trans hg); clear hg; clear t0 t1 t2 t3 t4 t5; obtain ⟨⟨t0, t1, t2, t3⟩, t4, t5⟩ := F6.out _ hg9)
             | (go_at_call 18; (with_reducible refine (C5.out _ hg9).mono ?_); rintro e w11 ⟨rfl, hg⟩; (have hg11 : Bw W2 w11 := hg9.trans hg); clear hg))
       go_roundw
       case rel => exact ⟨k + 1, by omega, by go_num, Lib.hid (HGK.out.bw hg11)⟩
       case measure => simp [intOf]; omega
     · unfold BoolPost at C3 C5
       clear hinc
       simp only [Bool.or_true, Bool.true_or, Bool.or_false, Bool.false_or, Bool.or_self, Bool.and_true, Bool.true_and, Bool.and_false, Bool.false_and, Bool.and_self] at C3
       go_wp2_with (first
         | (go_at_call 19; (with_reducible refine (C3.out _ HG8.out).mono ?_); rintro e w9 ⟨rfl, hg⟩; (have hg9 : Bw W2 w9 := HG8.out.trans hg); clear hg; clear t0 t1 t2 t3 t4 t5; obtain ⟨⟨t0, t1, t2, t3⟩, t4, t5⟩ := F6.out _ hg9)
             | (go_at_call 18; (with_reducible refine (C5.out _ hg9).mono ?_); rintro e w11 ⟨rfl, hg⟩; (have hg11 : Bw W2 w11 := hg9.trans hg); clear hg))
       go_roundw
       case rel => exact ⟨k + 1, by omega, by go_num, Lib.hid (HGK.out.bw hg11)⟩
       case measure => simp [intOf]; omega
     · unfold BoolPost at C3 C5
       clear hinc
       simp only [Bool.or_true, Bool.true_or, Bool.or_false, Bool.false_or, Bool.or_self, Bool.and_true, Bool.true_and, Bool.and_false, Bool.false_and, Bool.and_self] at C3
       go_wp2_with (first
         | (go_at_call 19; (with_reducible refine (C3.out _ HG8.out).mono ?_); rintro e w9 ⟨rfl, hg⟩; (have hg9 : Bw W2 w9 := HG8.out.trans hg); clear hg; clear t0 t1 t2 t3 t4 t5; obtain ⟨⟨t0, t1, t2, t3⟩, t4, t5⟩ := F6.out _ hg9)
             | (go_at_call 18; (with_reducible refine (C5.out _ hg9).mono ?_); rintro e w11 ⟨rfl, hg⟩; (have hg11 : Bw W2 w11 := hg9.trans hg); clear hg))
       go_roundw
       case rel => exact ⟨k + 1, by omega, by go_num, Lib.hid (HGK.out.bw hg11)⟩
       case measure => simp [intOf]; omega
     · unfold BoolPost at C3 C5
       clear hinc
       simp only [Bool.or_true, Bool.true_or, Bool.or_false, Bool.false_or, Bool.or_self, Bool.and_true, Bool.true_and, Bool.and_false, Bool.false_and, Bool.and_self] at C3
       go_wp2_with (first
         | (go_at_call 19; (with_reducible refine (C3.out _ HG8.out).mono ?_); rintro e w9 ⟨rfl, hg⟩; (have hg9 : Bw W2 w9 := HG8.out.trans hg); clear hg; clear t0 t1 t2 t3 t4 t5; obtain ⟨⟨t0, t1, t2, t3⟩, t4, t5⟩ := F6.out _ hg9)
             | (go_at_call 18; (with_reducible refine (C5.out _ hg9).mono ?_); rintro e w11 ⟨rfl, hg⟩; (have hg11 : Bw W2 w11 := hg9.trans hg); clear hg))
       go_roundw
       case rel => exact ⟨k + 1, by omega, by go_num, Lib.hid (HGK.out.bw hg11)⟩
       case measure => simp [intOf]; omega
     · exact absurd (hinc rfl rfl) (by decide)
     · unfold BoolPost at C3 C5
       clear hinc
       simp only [Bool.or_true, Bool.true_or, Bool.or_false, Bool.false_or, Bool.or_self, Bool.and_true, Bool.true_and, Bool.and_false, Bool.false_and, Bool.and_self] at C3
       go_wp2_with (first
         | (go_at_call 19; (with_reducible refine (C3.out _ HG8.out).mono ?_); rintro e w9 ⟨rfl, hg⟩; (have hg9 : Bw W2 w9 := HG8.out.trans hg); clear hg; clear t0 t1 t2 t3 t4 t5; obtain ⟨⟨t0, t1, t2, t3⟩, t4, t5⟩ := F6.out _ hg9)
             | (go_at_call 18; (with_reducible refine (C5.out _ hg9).mono ?_); rintro e w11 ⟨rfl, hg⟩; (have hg11 : Bw W2 w11 := hg9.trans hg); clear hg))
       go_roundw
       case rel => exact ⟨k + 1, by omega, by go_num, Lib.hid (HGK.out.bw hg11)⟩
       case measure => simp [intOf]; omega
     · unfold BoolPost at C3 C5
       clear hinc
       simp only [Bool.or_true, Bool.true_or, Bool.or_false, Bool.false_or, Bool.or_self, Bool.and_true, Bool.true_and, Bool.and_false, Bool.false_and, Bool.and_self] at C3
       go_wp2_with (first
         | (go_at_call 19; (with_reducible refine (C3.out _ HG8.out).mono ?_); rintro e w9 ⟨rfl, hg⟩; (have hg9 : Bw W2 w9 := HG8.out.trans hg); clear hg; clear t0 t1 t2 t3 t4 t5; obtain ⟨⟨t0, t1, t2, t3⟩, t4, t5⟩ := F6.out _ hg9)
             | (go_at_call 18; (with_reducible refine (C5.out _ hg9).mono ?_); rintro e w11 ⟨rfl, hg⟩; (have hg11 : Bw W2 w11 := hg9.trans hg); clear hg))
       go_roundw
       case rel => exact ⟨k + 1, by omega, by go_num, Lib.hid (HGK.out.bw hg11)⟩
       case measure => simp [intOf]; omega
end Go.Proofs.YtbmheekaclmibaaGreat
