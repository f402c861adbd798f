/- Part of a proof of basisSets_holds. -/
import Derived.Test.YtbmheekaclmibaaGreatXBasCQ
set_option maxRecDepth 100000
set_option maxHeartbeats 16000000
namespace Go.Proofs.YtbmheekaclmibaaGreat
open Go.RowKit
set_option linter.unusedSimpArgs false
set_option linter.unusedVariables false
def meetsP : Nat → T → Bool → Bool
 | 0, _, _ => false
 | d + 1, t, inner =>
   if t.kind = 5 then false
   else if t.kind = 6 then false
   else if t.kind = 7 then false
   else if t.kind = 4 then (if inner then false else t.parts.all fun p => meetsP d p true)
   else t.parts.all fun p => meetsP d p inner
theorem bmeets1_any (d : Nat) (p : T) (inner : Bool) (ih : ∀ (r' p' : Value) (W : World), TB W W.heap.size r' p' p → Calls Tryz.prog 60 #[aggT p r' p', .bool inner] W (BoolPost W (meetsP d p inner)))
   (g : Nat) (r' p' : Value) (W : World) (hg : W.cell? ⟨g, 0, none⟩ = some (.bool inner)) (hgl : g < W.heap.size) (h : TB W W.heap.size r' p' p) :
   Calls Tryz.prog 99 (#[.agg #[.int .i64 p.kind, .int .i64 p.size, r', p']] ++ #[.pointer (some ⟨g, 0, none⟩)]) W (BoolPost W (!meetsP d p inner)) := by
 obtain ⟨A, n, c, rfl, _, _, _⟩ := h.1.form
 obtain ⟨A2, n2, c2, rfl, _, _, _⟩ := h.2.form
 have IH : Hid (∀ o, Calls Tryz.prog 60 #[.agg #[.int .i64 p.kind, .int .i64 p.size, .slice A n c, .slice A2 n2 c2], .bool inner] (W.alloc o) (BoolPost (W.alloc o) (meetsP d p inner))) := Lib.hid (fun o => ih _ _ _ (h.bw ((Bw.refl _).alloc _)))
 clear ih h
 generalize meetsP d p inner = q at *
 generalize p.kind = kd at *
 generalize p.size = sz at *
 go_enter Tryz.func99, Tryz.ntmps99
 go_wp2_with (go_at_call 60; go_must (refine (IH.out _).mono ?_; rintro e w6 ⟨rfl, hg6⟩; (have HG6 := Lib.hid hg6); clear hg6))
 go_ret
 exact ⟨rfl, ((Bw.refl _).alloc _).trans HG6.out⟩
theorem bmeets_step (d : Nat) (t : T) (inner : Bool) (ih : ∀ p ∈ t.parts, ∀ (i' : Bool) (r' p' : Value) (W : World), TB W W.heap.size r' p' p → Calls Tryz.prog 60 #[aggT p r' p', .bool i'] W (BoolPost W (meetsP d p i')))
   (rv pv : Value) (w : World) (h : TB w w.heap.size rv pv t) : Calls Tryz.prog 60 #[.agg #[.int .i64 t.kind, .int .i64 t.size, rv, pv], .bool inner] w (BoolPost w (meetsP (d + 1) t inner)) := by
 obtain ⟨A, rn, c, rfl, ln, hm⟩ := h.1.form'
 obtain ⟨A2, pn, c2, rfl, ln2, bn2, mn2⟩ := h.2.form
 have CF : Hid (∀ i' o1, Calls Tryz.prog 98 #[.slice A2 pn c2, .func (.func 99) #[] #[.pointer (some ⟨w.heap.size + 1, 0, none⟩)]] ((w.alloc o1).alloc (.cells #[.bool i'] 4)) (BoolPost ((w.alloc o1).alloc (.cells #[.bool i'] 4)) (t.parts.any fun p => !meetsP d p i'))) := Lib.hid (fun i' o1 => by
   have hb : Blk ((w.alloc o1).alloc (.cells #[.bool i'] 4)) (w.heap.size + 1) 4 #[.bool i'] := by
     have := Blk.new (w.alloc o1) 4 #[.bool i']
     simpa only [World.size_alloc] using this
   exact contTyp_any t.parts (fun p => !meetsP d p i') 99 _ (enters_of Tryz.func99 (by kernel_rfl) rfl) _ _ (h.2.bw (((Bw.refl _).alloc _).alloc _)) (fun p hp r' p' W hg hT => bmeets1_any d p i' (ih p hp i') (w.heap.size + 1) r' p' W ((hg.b.cell (p := ⟨w.heap.size + 1, 0, none⟩) hb.lt).trans (hb.cell 0)) (by have := hb.lt; have := hg.size; omega) hT))
 have HA : ∀ i', (t.parts.all fun p => meetsP d p i') = !(t.parts.any fun p => !meetsP d p i') := fun i' => by rw [List.all_eq_not_any_not]
 simp only [meetsP, HA]
 clear HA ih h ln ln2
 generalize hal : (fun i' => t.parts.any fun p => !meetsP d p i') = al at *
 have hal2 : ∀ i', (t.parts.any fun p => !meetsP d p i') = al i' := fun i' => by rw [← hal]
 simp only [hal2] at CF ⊢
 clear hal hal2
 generalize t.size = sz at *
 generalize t.kind = kd at *
 have HB := Lib.hid (fun o1 o2 => (((Bw.refl w).alloc o1).alloc o2))
 by_cases k5 : kd = 5
 · subst k5
   go_enter Tryz.func60, Tryz.ntmps60
   go_wp2
   go_ret
   exact ⟨rfl, HB.out _ _⟩
 by_cases k6 : kd = 6
 · subst k6
   go_enter Tryz.func60, Tryz.ntmps60
   go_wp2
   go_ret
   exact ⟨rfl, HB.out _ _⟩
 by_cases k7 : kd = 7
 · subst k7
   go_enter Tryz.func60, Tryz.ntmps60
   go_wp2
   go_ret
   exact ⟨rfl, HB.out _ _⟩
 have d5 : (kd == 5) = false := by simpa using k5
 have d6 : (kd == 6) = false := by simpa using k6
 have d7 : (kd == 7) = false := by simpa using k7
 rw [if_neg k5, if_neg k6, if_neg k7]
 by_cases k4 : kd = 4
 · subst k4
   cases inner with
   | true =>
     go_enter Tryz.func60, Tryz.ntmps60
     go_wp2
     go_ret
     exact ⟨rfl, HB.out _ _⟩
   | false =>
     have CF2 := Lib.hid (fun o1 => CF.out true o1)
     rw [if_pos rfl, if_neg (by decide)]
     generalize al true = q at *
     go_enter Tryz.func60, Tryz.ntmps60
     go_wp2_with (go_at_call 98; go_must (refine (CF2.out _).mono ?_; rintro e w6 ⟨rfl, hg6⟩; (have HG6 := Lib.hid hg6); clear hg6))
     go_ret
     exact ⟨rfl, (HB.out _ _).trans HG6.out⟩
 · have d4 : (kd == 4) = false := by simpa using k4
   have CF2 := Lib.hid (fun o1 => CF.out inner o1)
   rw [if_neg k4]
   generalize al inner = q at *
   go_enter Tryz.func60, Tryz.ntmps60
   go_wp2_with (go_at_call 98; go_must (refine (CF2.out _).mono ?_; rintro e w6 ⟨rfl, hg6⟩; (have HG6 := Lib.hid hg6); clear hg6))
   go_ret
   exact ⟨rfl, (HB.out _ _).trans HG6.out⟩
theorem rightP_parts {d : Nat} {t : T} (h : rightP (d + 1) t = true) (p : T) (hp : p ∈ t.parts) : rightP d p = true := by
 simp only [rightP, Bool.and_eq_true] at h
 have h := h.2
 have he : t.parts.isEmpty = true → False := fun e => by
   rw [List.isEmpty_iff] at e
   rw [e] at hp; simp at hp
 by_cases k1 : t.kind = 1
 · rw [if_pos k1] at h; simp only [Bool.and_eq_true] at h; exact (he h.1).elim
 rw [if_neg k1] at h
 by_cases k2 : t.kind = 2 ∨ t.kind = 6
 · rw [if_pos k2] at h; simp only [Bool.and_eq_true] at h; exact (he h.1.1).elim
 rw [if_neg k2] at h
 by_cases k7 : t.kind = 7
 · rw [if_pos k7] at h; simp only [Bool.and_eq_true] at h; exact (he h.1.1).elim
 rw [if_neg k7] at h
 by_cases k3 : t.kind = 3
 · rw [if_pos k3] at h; rw [Bool.and_eq_true] at h; exact List.all_eq_true.1 h.2 p hp
 rw [if_neg k3] at h
 by_cases k4 : t.kind = 4 ∨ t.kind = 5
 · rw [if_pos k4] at h; rw [Bool.and_eq_true] at h; exact List.all_eq_true.1 h.2 p hp
 · rw [if_neg k4] at h; simp at h
theorem bmeets_any (d : Nat) : ∀ (t : T), rightP d t = true → ∀ (inner : Bool) (rv pv : Value) (w : World), TB w w.heap.size rv pv t → Calls Tryz.prog 60 #[.agg #[.int .i64 t.kind, .int .i64 t.size, rv, pv], .bool inner] w (BoolPost w (meetsP d t inner)) := by
 induction d with
 | zero => intro t h; simp [rightP] at h
 | succ d ih =>
   intro t h inner rv pv w hT
   exact bmeets_step d t inner (fun p hp i' r' p' W hW => ih p (rightP_parts h p hp) i' r' p' W hW) rv pv w hT
def ShortSays (t : T) (ok : V → Bool) (f : V → V → Bool) : Prop := ∀ (a b : V), ok a = true → ok b = true → ∀ (rv pv s1 s2 : Value) (W : World), TB W W.heap.size rv pv t → KB W W.heap.size s1 a.ks → KB W W.heap.size s2 b.ks → Calls Tryz.prog 61 #[aggT t rv pv, aggV a s1, aggV b s2] W (BoolPost W (f a b))
def shortP : Nat → T → V → V → Bool
 | 0, _, _, _ => false
 | d + 1, t, a, b => if t.kind = 4 then decide (((a.ks.length : Nat) : Int) + (b.ks.length : Nat) ≤ 8) else belZ (shortP d) t.parts a.ks b.ks
theorem bshort_k4 (t : T) (ok : V → Bool) (hk : t.kind = 4) (hok : ∀ v, ok v = true → v.ks.length ≤ 12) : ShortSays t ok (fun a b => decide (((a.ks.length : Nat) : Int) + (b.ks.length : Nat) ≤ 8)) := by
 intro a b ha hb rv pv s1 s2 w hT h1 h2
 have la := hok a ha
 have lb := hok b hb
 obtain ⟨A, n, c, rfl, ln, _, _⟩ := h1.form
 obtain ⟨B, m, e, rfl, lm, _, _⟩ := h2.form
 obtain ⟨A1, rn, c1, rfl, _, _⟩ := hT.1.form'
 obtain ⟨A2, pn, c2, rfl, _, _, _⟩ := hT.2.form
 show Calls _ _ _ _ (BoolPost w (decide (((a.ks.length : Nat) : Int) + (b.ks.length : Nat) ≤ 8)))
 unfold aggT aggV
 rw [hk, ln, lm]
 have hn : n ≤ 12 := by omega
 have hm : m ≤ 12 := by omega
 have hw : IntKind.i64.wrap ((n : Int) + (m : Int)) = (n : Int) + m := wI64 _ (by omega) (by omega)
 have HB := Lib.hid (boxes3 w (.int .i64 4) (.int .i64 t.size) (.slice A1 rn c1) (.slice A2 pn c2) (.int .i64 a.n) (.slice A n c) (.int .i64 b.n) (.slice B m e)).1
 clear h1 h2 hT hk ha hb ln lm la lb hok
 generalize a.n = x at *
 generalize b.n = y at *
 generalize t.size = z at *
 go_enter Tryz.func61, Tryz.ntmps61
 go_wp2
 go_ret
 exact ⟨ret_bool (by first | rfl | simp [hw]), HB.out⟩
theorem bshort_kZ (t : T) (ok : V → Bool) (ok' : T → V → Bool) (f : T → V → V → Bool) (hk : t.kind ≠ 4)
   (hok : ∀ v, ok v = true → v.ks.length = t.parts.length ∧ ∀ k (h : k < t.parts.length) (h' : k < v.ks.length), ok' t.parts[k] v.ks[k] = true) (ih : ∀ p ∈ t.parts, ShortSays p (ok' p) (f p)) : ShortSays t ok (fun a b => belZ f t.parts a.ks b.ks) := by
 intro a b ha hb rv pv s1 s2 w hT h1 h2
 obtain ⟨la, oa⟩ := hok a ha
 obtain ⟨lb, ob⟩ := hok b hb
 obtain ⟨A, n, c, rfl, ln1, _, mn1⟩ := h1.form
 obtain ⟨B, m, e, rfl, ln2, _, mn2⟩ := h2.form
 obtain ⟨A1, rn, c1, rfl, _, _⟩ := hT.1.form'
 obtain ⟨A2, pn, c2, rfl, ln3, _, mn3⟩ := hT.2.form
 unfold maxLen at mn1 mn2 mn3
 obtain rfl : n = pn := by omega
 obtain rfl : m = n := by omega
 have HIH := Lib.hid ih
 have HP := Lib.hid hT.2
 have HK1 := Lib.hid h1
 have HK2 := Lib.hid h2
 have LN1 := Lib.hid ln1
 have LN2 := Lib.hid ln2
 have LN3 := Lib.hid ln3
 have HOA := Lib.hid oa
 have HOB := Lib.hid ob
 have HB := Lib.hid (boxes3 w (.int .i64 t.kind) (.int .i64 t.size) (.slice A1 rn c1) (.slice A2 m c2) (.int .i64 a.n) (.slice A m c) (.int .i64 b.n) (.slice B m e))
 show Calls _ _ _ _ (BoolPost w (belZ f t.parts a.ks b.ks))
 unfold aggT aggV
 have HZ : Hid (belZ f t.parts a.ks b.ks = belZ f (t.parts.drop 0) (a.ks.drop 0) (b.ks.drop 0)) := Lib.hid rfl
 clear h1 h2 hT ln1 ln2 ln3 ih la lb oa ob hok ha hb
 generalize hz : belZ f t.parts a.ks b.ks = q at *
 clear hz
 generalize a.n = x at *
 generalize b.n = y at *
 generalize t.size = z at *
 generalize t.kind = kd at *
 have d4 : (kd == 4) = false := by simpa using hk
 go_enter Tryz.func61, Tryz.ntmps61
 go_wp2
 go_loopw [23] (fun i wr => ∃ k : Nat, k ≤ m ∧ i = .int .i64 k ∧ Hid (Bw (((w.alloc (.cells #[.int .i64 kd, .int .i64 z, .slice A1 rn c1, .slice A2 m c2] 29)).alloc (.cells #[.int .i64 x, .slice A m c] 39)).alloc (.cells #[.int .i64 y, .slice B m e] 39)) wr ∧ q = belZ f (t.parts.drop k) (a.ks.drop k) (b.ks.drop k))) (fun i _ => m - (intOf i).toNat)
 case atStart => exact ⟨0, by omega, rfl, Lib.hid ⟨Bw.refl _, HZ.out⟩⟩
 case round =>
   obtain ⟨k, hk, rfl, HR⟩ := hrel
   obtain ⟨hg, hq⟩ := HR.out
   obtain ⟨hw, b1, b2, b3⟩ := HB.out
   have hgw := hw.trans hg
   have k2' := b2.below hg.b b2.lt
   have k3' := b3.below hg.b b3.lt
   have HW := Lib.hid hgw
   have HG := Lib.hid hg
   by_cases hlt : k < m
   · have e1 : k < a.ks.length := by rw [LN1.out]; exact hlt
     have e2 : k < b.ks.length := by rw [LN2.out]; exact hlt
     have e3 : k < t.parts.length := by rw [LN3.out]; exact hlt
     obtain ⟨ad, sA, sn, sc, rfl, hb, q0, q1, _, hs⟩ := (HK1.out.bw hgw).at_ e1
     obtain ⟨ae, sB, sm, se, rfl, hb3, r0, r1, _, hs2⟩ := (HK2.out.bw hgw).at_ e2
     obtain ⟨ad2, A3, n3, c3, A4, n4, c4, rfl, hb2, y0, y1, y2, y3, hT2⟩ := (HP.out.bw hgw).at_ e3
     have CM : Hid (∀ W, Bw wr W → Calls Tryz.prog 61 #[.agg #[.int .i64 t.parts[k].kind, .int .i64 t.parts[k].size, .slice A3 n3 c3, .slice A4 n4 c4], .agg #[.int .i64 a.ks[k].n, .slice sA sn sc], .agg #[.int .i64 b.ks[k].n, .slice sB sm se]] W (BoolPost W (f t.parts[k] a.ks[k] b.ks[k]))) := Lib.hid (fun W g => HIH.out _ (List.getElem_mem e3) _ _ (HOA.out k e3 e1) (HOB.out k e3 e2) _ _ _ _ _ (TAt.bw hT2 g) (hs.bw g) (hs2.bw g))
     have HZ2 : Hid (q = (f t.parts[k] a.ks[k] b.ks[k] && belZ f (t.parts.drop (k + 1)) (a.ks.drop (k + 1)) (b.ks.drop (k + 1)))) := Lib.hid (by rw [hq]; exact belZ_step e3 e1 e2)
     have p2 := k2'.cell 1
     have p3 := k3'.cell 1
     have z2 := k2'.lt
     have z3 := k3'.lt
     clear hs hs2 hT2 hq b1 b2 b3 hgw hw HR k2' k3'
     generalize f t.parts[k] a.ks[k] b.ks[k] = r at *
     generalize a.ks[k].n = xk at *
     generalize b.ks[k].n = yk at *
     generalize t.parts[k].kind = pk at *
     generalize t.parts[k].size = pz at *
     clear hg
     go_wp2_with fail
     refine wp_world (fun W => Hid (Bw wr W ∧ Blk W wr.heap.size 29 #[.int .i64 pk, .int .i64 pz, .slice A3 n3 c3, .slice A4 n4 c4])) (Lib.hid ⟨(Bw.refl _).alloc _, Blk.new _ _ _⟩) ?_
     intro W HW2
     obtain ⟨hg, k3⟩ := HW2.out
     have hs1 := hg.size
     have z4 := k3.lt
     have KS : Hid (∀ w', Bw W w' → w'.cell? ⟨w.heap.size + 1, 1, none⟩ = some (.slice (some ad) m c) ∧ w'.cell? ⟨w.heap.size + 2, 1, none⟩ = some (.slice (some ae) m e) ∧ w'.cell? ⟨wr.heap.size, 0, none⟩ = some (.int .i64 pk) ∧ w'.cell? ⟨wr.heap.size, 1, none⟩ = some (.int .i64 pz) ∧ w'.cell? ⟨wr.heap.size, 2, none⟩ = some (.slice A3 n3 c3) ∧ w'.cell? ⟨wr.heap.size, 3, none⟩ = some (.slice A4 n4 c4) ∧
         w'.cell? (ad.add (k * 2)) = some (.int .i64 xk) ∧ w'.cell? ⟨(ad.add (k * 2)).block, (ad.add (k * 2)).off + 1, none⟩ = some (.slice sA sn sc) ∧ w'.cell? (ae.add (k * 2)) = some (.int .i64 yk) ∧ w'.cell? ⟨(ae.add (k * 2)).block, (ae.add (k * 2)).off + 1, none⟩ = some (.slice sB sm se) ∧ Bw W w') := Lib.hid (fun w' g =>
       ⟨((hg.trans g).b.cell (p := ⟨w.heap.size + 1, 1, none⟩) z2).trans p2, ((hg.trans g).b.cell (p := ⟨w.heap.size + 2, 1, none⟩) z3).trans p3, (g.b.cell (p := ⟨wr.heap.size, 0, none⟩) z4).trans (k3.cell 0), (g.b.cell (p := ⟨wr.heap.size, 1, none⟩) z4).trans (k3.cell 1), (g.b.cell (p := ⟨wr.heap.size, 2, none⟩) z4).trans (k3.cell 2), (g.b.cell (p := ⟨wr.heap.size, 3, none⟩) z4).trans (k3.cell 3),
        ((hg.trans g).b.cell (by rw [add_block]; exact hb)).trans q0, ((hg.trans g).b.cell (by simp only [add_block]; exact hb)).trans q1, ((hg.trans g).b.cell (by rw [add_block]; exact hb3)).trans r0, ((hg.trans g).b.cell (by simp only [add_block]; exact hb3)).trans r1, g⟩)
     have CM2 : Hid (∀ W', Bw W W' → Calls Tryz.prog 61 #[.agg #[.int .i64 pk, .int .i64 pz, .slice A3 n3 c3, .slice A4 n4 c4], .agg #[.int .i64 xk, .slice sA sn sc], .agg #[.int .i64 yk, .slice sB sm se]] W' (BoolPost W' r)) := Lib.hid (fun W' g => CM.out _ (hg.trans g))
     have HG2 := Lib.hid hg
     clear hg k3 HW2 p2 p3 q0 q1 r0 r1 y0 y1 y2 y3 CM
     generalize hzz : wr.heap.size = yy at *
     have HZZ := Lib.hid hzz
     clear hzz
     go_region_held3 (fun w' => w'.cell? ⟨w.heap.size + 1, 1, none⟩ = some (.slice (some ad) m c) ∧ w'.cell? ⟨w.heap.size + 2, 1, none⟩ = some (.slice (some ae) m e) ∧ w'.cell? ⟨yy, 0, none⟩ = some (.int .i64 pk) ∧ w'.cell? ⟨yy, 1, none⟩ = some (.int .i64 pz) ∧ w'.cell? ⟨yy, 2, none⟩ = some (.slice A3 n3 c3) ∧ w'.cell? ⟨yy, 3, none⟩ = some (.slice A4 n4 c4) ∧
         w'.cell? (ad.add (k * 2)) = some (.int .i64 xk) ∧ w'.cell? ⟨(ad.add (k * 2)).block, (ad.add (k * 2)).off + 1, none⟩ = some (.slice sA sn sc) ∧ w'.cell? (ae.add (k * 2)) = some (.int .i64 yk) ∧ w'.cell? ⟨(ae.add (k * 2)).block, (ae.add (k * 2)).off + 1, none⟩ = some (.slice sB sm se) ∧ Bw W w') (first | (refine KS.out _ ?_; first | exact (Bw.refl _).drew | exact (Bw.refl _).drew.trans hg6)) (first | (go_at_call 61; (with_reducible refine (CM2.out _ (Bw.refl _).drew).mono ?_); rintro e w' ⟨rfl, hg6⟩))
     have HG6 : Hid (Bw wr w') := Lib.hid (HG2.out.trans ((Bw.refl _).drew.trans hg6))
     clear hg6
     rcases r with _ | _
     · have HF2 : Hid (q = false) := Lib.hid (by rw [HZ2.out]; rfl)
       go_wp2
       go_ret
       exact ⟨ret_bool (by rw [HF2.out]), HW.out.trans HG6.out⟩
     · have HF2 : Hid (q = belZ f (t.parts.drop (k + 1)) (a.ks.drop (k + 1)) (b.ks.drop (k + 1))) := Lib.hid (by rw [HZ2.out]; rfl)
       go_wp2
       go_roundw
       case rel => exact ⟨k + 1, by omega, by go_num, Lib.hid ⟨HG.out.trans HG6.out, HF2.out⟩⟩
       case measure => simp [intOf]; omega
   · obtain rfl : k = m := by omega
     have HF2 : Hid (q = true) := Lib.hid (by rw [hq, List.drop_eq_nil_of_le (by rw [LN3.out]; omega)]; rfl)
     go_wp2
     go_ret
     exact ⟨ret_bool (by rw [HF2.out]), HW.out⟩
theorem meets_kinds {d : Nat} {t : T} {inner : Bool} (h : meetsP (d + 1) t inner = true) : t.kind ≠ 5 ∧ t.kind ≠ 6 ∧ t.kind ≠ 7 ∧ ∀ p ∈ t.parts, ∃ i', meetsP d p i' = true := by
 simp only [meetsP] at h
 by_cases k5 : t.kind = 5
 · rw [if_pos k5] at h; cases h
 rw [if_neg k5] at h
 by_cases k6 : t.kind = 6
 · rw [if_pos k6] at h; cases h
 rw [if_neg k6] at h
 by_cases k7 : t.kind = 7
 · rw [if_pos k7] at h; cases h
 rw [if_neg k7] at h
 refine ⟨k5, k6, k7, fun p hp => ?_⟩
 by_cases k4 : t.kind = 4
 · rw [if_pos k4] at h
   cases inner with
   | true => simp at h
   | false => rw [if_neg (by decide)] at h; exact ⟨true, List.all_eq_true.1 h p hp⟩
 · rw [if_neg k4] at h; exact ⟨inner, List.all_eq_true.1 h p hp⟩
theorem one_kids {d : Nat} {t : T} (hr : rightP (d + 1) t = true) (k4 : t.kind ≠ 4) (k5 : t.kind ≠ 5) (k6 : t.kind ≠ 6) (k7 : t.kind ≠ 7) {v : V} (h : oneP (d + 1) t v = true) : v.ks.length = t.parts.length ∧ ∀ k (h : k < t.parts.length) (h' : k < v.ks.length), oneP d t.parts[k] v.ks[k] = true := by
 simp only [rightP, Bool.and_eq_true] at hr
 have hr := hr.2
 simp only [oneP] at h
 by_cases k1 : t.kind = 1
 · rw [if_pos k1] at h hr
   simp only [Bool.and_eq_true, List.isEmpty_iff] at h hr
   rw [h.2, hr.1]
   exact ⟨rfl, fun k h => absurd h (by simp)⟩
 rw [if_neg k1] at h hr
 by_cases k2 : t.kind = 2
 · rw [if_pos k2] at h
   rw [if_pos (.inl k2)] at hr
   simp only [labelP, Bool.and_eq_true, List.isEmpty_iff] at h hr
   rw [h.2, hr.1.1]
   exact ⟨rfl, fun k h => absurd h (by simp)⟩
 rw [if_neg k2] at h
 by_cases k3 : t.kind = 3
 · rw [if_pos k3] at h
   simp only [Bool.and_eq_true, beq_iff_eq] at h
   exact ⟨h.1.2, fun k h1 h2 => oneZ_get h.2 k h1 h2⟩
 · rw [if_neg (by omega), if_neg k7, if_neg k3, if_neg (by omega)] at hr
   cases hr
theorem bshort_any (d : Nat) : ∀ (t : T), rightP d t = true → ∀ (inner : Bool), meetsP d t inner = true → ShortSays t (oneP d t) (shortP d t) := by
 induction d with
 | zero => intro t h; simp [rightP] at h
 | succ d ih =>
   intro t ht inner hm
   obtain ⟨k5, k6, k7, hp⟩ := meets_kinds hm
   by_cases k4 : t.kind = 4
   · intro a b ha hb rv pv s1 s2 W hT h1 h2
     have := bshort_k4 t (oneP (d + 1) t) k4 (fun v hv => by
       simp only [oneP] at hv
       rw [if_neg (by omega), if_neg (by omega), if_neg (by omega), if_pos k4] at hv
       simp only [Bool.and_eq_true, decide_eq_true_eq] at hv
       exact hv.1.2) a b ha hb rv pv s1 s2 W hT h1 h2
     simp only [shortP]
     rw [if_pos k4]
     exact this
   · intro a b ha hb rv pv s1 s2 W hT h1 h2
     have := bshort_kZ t (oneP (d + 1) t) (oneP d) (shortP d) k4 (fun v hv => one_kids ht k4 k5 k6 k7 hv) (fun p hp' => by
       obtain ⟨i', hi'⟩ := hp p hp'
       exact ih p (rightP_parts ht p hp') i' hi') a b ha hb rv pv s1 s2 W hT h1 h2
     simp only [shortP]
     rw [if_neg k4]
     exact this
end Go.Proofs.YtbmheekaclmibaaGreat
