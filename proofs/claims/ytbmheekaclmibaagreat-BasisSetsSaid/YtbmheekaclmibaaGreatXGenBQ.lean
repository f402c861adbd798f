/- Part of a proof of basisSets_holds. -/
import Derived.Test.YtbmheekaclmibaaGreatXGenAQ
import Derived.Test.YtbmheekaclmibaaGreatXMeeAQ
import Derived.Deep.DeepCutAuto
import Derived.Deep.CutBlock
set_option maxRecDepth 100000
set_option maxHeartbeats 16000000
namespace Go.Proofs.YtbmheekaclmibaaGreat
open Go.RowKit
set_option linter.unusedSimpArgs false
set_option linter.unusedVariables false
def fewP : Nat → T → Bool
 | 0, _ => true
 | d + 1, t => decide (t.parts.length ≤ 3) && t.parts.all (fewP d)
def madeP (d : Nat) (t : T) : Bool := rightP d t && fewP d t
theorem kinds_at {W w : World} {b g : Nat} (h : GD b (w.alloc (.cells #[.int .i64 1, .int .i64 2, .int .i64 3, .int .i64 4, .int .i64 5, .int .i64 6, .int .i64 7] 3)) W) (hb : b < w.heap.size) (hg : w.heap.size = g) {r : Int} (h0 : 0 ≤ r) (h7 : r < 7) : W.cell? ⟨g, r.toNat, none⟩ = some (.int .i64 (r + 1)) := by
 subst hg
 have hB := h.blk (Blk.new w 3 #[.int .i64 1, .int .i64 2, .int .i64 3, .int .i64 4, .int .i64 5, .int .i64 6, .int .i64 7]) (by omega)
 rw [hB.cell]
 obtain rfl | rfl | rfl | rfl | rfl | rfl | rfl : r = 0 ∨ r = 1 ∨ r = 2 ∨ r = 3 ∨ r = 4 ∨ r = 5 ∨ r = 6 := by omega
 all_goals rfl
theorem out4 {w W : World} {b : Nat} {x y : Int} {r p : Value} {t : T} (hb : b < w.heap.size) (hg : GD b w W) (h : TAt W (fun c => w.heap.size + 1 ≤ c ∧ c < W.heap.size) r p t) :
   TAt ((((W.setCell ⟨w.heap.size, 0, none⟩ (.int .i64 x)).setCell ⟨w.heap.size, 1, none⟩ (.int .i64 y)).setCell ⟨w.heap.size, 2, none⟩ r).setCell ⟨w.heap.size, 3, none⟩ p) (FB w ((((W.setCell ⟨w.heap.size, 0, none⟩ (.int .i64 x)).setCell ⟨w.heap.size, 1, none⟩ (.int .i64 y)).setCell ⟨w.heap.size, 2, none⟩ r).setCell ⟨w.heap.size, 3, none⟩ p)) r p t ∧ GD b w ((((W.setCell ⟨w.heap.size, 0, none⟩ (.int .i64 x)).setCell ⟨w.heap.size, 1, none⟩ (.int .i64 y)).setCell ⟨w.heap.size, 2, none⟩ r).setCell ⟨w.heap.size, 3, none⟩ p) := by
 have e1 := grownBy_setCell (p := ⟨w.heap.size, 3, none⟩) (grownBy_setCell (p := ⟨w.heap.size, 2, none⟩) (grownBy_setCell (p := ⟨w.heap.size, 1, none⟩) (grownBy_setCell (p := ⟨w.heap.size, 0, none⟩) (World.grownBy.refl W (some w.heap.size)) (.inl rfl) (.int .i64 x)) (.inl rfl) (.int .i64 y)) (.inl rfl) r) (.inl rfl) p
 refine ⟨h.keep (fun c hc => ⟨by have := hc.1; omega, by have := hc.2; simp [World.setCell]; exact this⟩) (fun q hq => ?_), hg.own e1 (fun r e => by injection e with e; omega) hb⟩
 exact World.cell?_of_block (e1.block q.block hq.2 (fun e => by injection e with e; have := hq.1; omega))
theorem tnil {W : World} {S : Nat → Prop} (k z : Int) : TAt W S (.slice none 0 0) (.slice none 0 0) (.mk k z [] []) := ⟨IAt.nil 0 none (by unfold maxLen; omega), PAt.nil 0 none (by unfold maxLen; omega)⟩
def PartI (w : World) (b n g : Nat) (W : World) : Prop := ∃ t A n1 c A' n' c', madeP n t = true ∧ Blk W g 29 #[.int .i64 t.kind, .int .i64 t.size, .slice A n1 c, .slice A' n' c'] ∧ TAt W (fun x => w.heap.size + 1 ≤ x ∧ x < W.heap.size ∧ x ≠ g) (.slice A n1 c) (.slice A' n' c') t ∧ GD b w W ∧ Blk W w.heap.size 29 #[.int .i64 0, .int .i64 0, .slice none 0 0, .slice none 0 0] ∧ w.heap.size < g
end Go.Proofs.YtbmheekaclmibaaGreat
namespace Go.Proofs.YtbmheekaclmibaaGreat
def loosP : Nat → Nat → T → V → Bool
 | 0, _, _, _ => false
 | d + 1, m, t, v =>
   if t.kind = 1 then decide (0 ≤ v.n) && decide (v.n ≤ 3) && v.ks.isEmpty
   else if t.kind = 2 then labelP t.size v
   else if t.kind = 6 then taggedP t.size v && decide (v.size ≤ 4)
   else if t.kind = 7 then v.n == 0 && decide (v.ks.length ≤ m) && v.ks.all (labelP t.size)
   else if t.kind = 3 then v.n == 0 && v.ks.length == t.parts.length && oneZ (loosP d m) t.parts v.ks
   else v.n == 0 && decide (v.ks.length ≤ m) && v.ks.all (loosP d (m - 1) t.p0)
def lsz : Nat → Nat → T → Nat
 | 0, _, _ => 0
 | d + 1, m, t =>
   if t.kind = 1 then 1
   else if t.kind = 2 then 1
   else if t.kind = 6 then 4
   else if t.kind = 7 then 1 + m
   else if t.kind = 3 then 1 + (t.parts.map (lsz d m)).sum
   else 1 + m * lsz d (m - 1) t.p0
theorem p0_mem {t : T} (h : t.parts.length = 1) : t.p0 ∈ t.parts := by
 unfold T.p0
 cases hp : t.parts with
 | nil => rw [hp] at h; simp at h
 | cons x r => simp
theorem p0_get {t : T} (h : 0 < t.parts.length) : t.parts[0] = t.p0 := by
 unfold T.p0
 rw [List.headD_eq_head?_getD, List.head?_eq_getElem?, List.getElem?_eq_getElem h]
 rfl
end Go.Proofs.YtbmheekaclmibaaGreat
namespace Go.Proofs.YtbmheekaclmibaaGreat
open Go.RowKit
set_option linter.unusedSimpArgs false
set_option linter.unusedVariables false
def madeF (n : Nat) (t : T) : Bool := madeP n t && meetsP n t false
def madeW (n : Nat) (t : T) : Bool := madeP n t && meetsP n t true
theorem madeF_p {n : Nat} {t : T} (h : madeF n t = true) : madeP n t = true := by unfold madeF at h; simp only [Bool.and_eq_true] at h; exact h.1
def TypePostF (w : World) (b d : Nat) (e : Ending) (w' : World) : Prop := ∃ t r p, e = .returned (.agg #[.int .i64 t.kind, .int .i64 t.size, r, p]) ∧ madeF d t = true ∧ TAt w' (FB w w') r p t ∧ GD b w w'
def PartF (w : World) (b n g : Nat) (W : World) : Prop := ∃ t A n1 c A' n' c', madeW n t = true ∧ Blk W g 29 #[.int .i64 t.kind, .int .i64 t.size, .slice A n1 c, .slice A' n' c'] ∧ TAt W (fun x => w.heap.size + 1 ≤ x ∧ x < W.heap.size ∧ x ≠ g) (.slice A n1 c) (.slice A' n' c') t ∧ GD b w W ∧ Blk W w.heap.size 29 #[.int .i64 0, .int .i64 0, .slice none 0 0, .slice none 0 0] ∧ w.heap.size < g
theorem dtypeF_step (b n : Nat) (hn : n ≤ 10) (ih : 0 < n → ∀ (W : World), DeckOk W b → Calls Tryz.prog 12 #[.pointer (some ⟨b, 0, none⟩), .int .i64 n, .bool true] W (TypePostF W b n)) (w : World) (hd : DeckOk w b) :
   Calls Tryz.prog 12 #[.pointer (some ⟨b, 0, none⟩), .int .i64 ((n : Int) + 1), .bool true] w (TypePostF w b (n + 1)) := by
 have hbl := hd.lt
 have HIH := Lib.hid ih
 have CN := Lib.hid (fun W (h : DeckOk W b) (m : Int) (h1 : 1 ≤ m) (h2 : m < 100) => next_any W b h m h1 (by omega))
 have g0 : GD b w (w.alloc (.cells #[.int .i64 0, .int .i64 0, .slice none 0 0, .slice none 0 0] 29)) := (GD.refl hd).bw ((Bw.refl _).alloc _)
 have HG0 := Lib.hid g0
 have HK := Lib.hid (fun (W : World) (h : GD b ((w.alloc (.cells #[.int .i64 0, .int .i64 0, .slice none 0 0, .slice none 0 0] 29)).alloc (.cells #[.int .i64 1, .int .i64 2, .int .i64 3, .int .i64 4, .int .i64 5, .int .i64 6, .int .i64 7] 3)) W) (r : Int) (h0 : 0 ≤ r) (h7 : r < 7) => kinds_at (g := w.heap.size + 1) h (by simp; omega) (by simp) h0 h7)
 have HG1 : Hid (GD b ((w.alloc (.cells #[.int .i64 0, .int .i64 0, .slice none 0 0, .slice none 0 0] 29)).alloc (.cells #[.int .i64 1, .int .i64 2, .int .i64 3, .int .i64 4, .int .i64 5, .int .i64 6, .int .i64 7] 3)) ((w.alloc (.cells #[.int .i64 0, .int .i64 0, .slice none 0 0, .slice none 0 0] 29)).alloc (.cells #[.int .i64 1, .int .i64 2, .int .i64 3, .int .i64 4, .int .i64 5, .int .i64 6, .int .i64 7] 3))) := Lib.hid (GD.refl (g0.bw ((Bw.refl _).alloc _)).2)
 have HW : Hid (∀ W, GD b ((w.alloc (.cells #[.int .i64 0, .int .i64 0, .slice none 0 0, .slice none 0 0] 29)).alloc (.cells #[.int .i64 1, .int .i64 2, .int .i64 3, .int .i64 4, .int .i64 5, .int .i64 6, .int .i64 7] 3)) W → GD b w W ∧ Blk W w.heap.size 29 #[.int .i64 0, .int .i64 0, .slice none 0 0, .slice none 0 0]) := Lib.hid (fun W h => ⟨(g0.bw ((Bw.refl _).alloc _)).trans h, h.blk ((Blk.new w 29 _).alloc _) (by omega)⟩)
 clear hd ih g0
 go_enter Tryz.func12, Tryz.ntmps12
 go_upto_region 2 with fail
 go_cut [8] from 13 to 17 (fun s8 wx => ∃ k : Int, s8 = .int .i64 k ∧ 1 ≤ k ∧ k ≤ 7 ∧ Hid (GD b ((w.alloc (.cells #[.int .i64 0, .int .i64 0, .slice none 0 0, .slice none 0 0] 29)).alloc (.cells #[.int .i64 1, .int .i64 2, .int .i64 3, .int .i64 4, .int .i64 5, .int .i64 6, .int .i64 7] 3)) wx))
 case first =>
   go_wp2_with fail
   refine (CN.out _ HG1.out.2 7 (by omega) (by omega)).mono ?_
   rintro e w6 ⟨r, rfl, hr0, hr1, hd6, hg6⟩
   have HG6 := Lib.hid (HG1.out.trans ⟨hg6, hd6⟩)
   have x6 := HK.out w6 HG6.out r hr0 hr1
   clear hg6 hd6
   go_wp2_with fail
   go_meet
   exact ⟨r + 1, rfl, by omega, by omega, HG6⟩
 case rest =>
   obtain ⟨k0, rfl, hk1, hk7, HGX⟩ := hcut
   go_upto_if 18 with fail
   go_cut [8] from 19 to 23 (fun s8 wx => ∃ k : Int, s8 = .int .i64 k ∧ 1 ≤ k ∧ k ≤ 4 ∧ Hid (GD b ((w.alloc (.cells #[.int .i64 0, .int .i64 0, .slice none 0 0, .slice none 0 0] 29)).alloc (.cells #[.int .i64 1, .int .i64 2, .int .i64 3, .int .i64 4, .int .i64 5, .int .i64 6, .int .i64 7] 3)) wx))
   case first =>
     go_wp2_with fail
     refine (CN.out _ HGX.out.2 4 (by omega) (by omega)).mono ?_
     rintro e w6 ⟨r, rfl, hr0, hr1, hd6, hg6⟩
     have HG6 := Lib.hid (HGX.out.trans ⟨hg6, hd6⟩)
     have x6 := HK.out w6 HG6.out r hr0 (by omega)
     have hr7 : r < 7 := by omega
     clear hg6 hd6
     go_wp2_with fail
     go_meet
     exact ⟨r + 1, rfl, by omega, by omega, HG6⟩
   case rest =>
     clear hk1 hk7 HGX
     obtain ⟨k1, rfl, hk1, hk7, HGX⟩ := hcut
     go_upto_region 5 with fail
     go_cut [37] from 24 to 37 (fun s37 wx => s37 = .bool (decide (n = 0 ∧ (k1 = 3 ∨ k1 = 4 ∨ k1 = 5))) ∧ wx = wc)
     case first =>
       by_cases h0 : n = 0
       · subst h0
         have d1 : decide ((((0 : Nat) : Int) + 1) ≤ 1) = true := by decide
         by_cases k3 : k1 = 3
         · subst k3
           go_wp2_with fail
           go_meet
           exact ⟨by simp, rfl⟩
         by_cases k4 : k1 = 4
         · subst k4
           go_wp2_with fail
           go_meet
           exact ⟨by simp, rfl⟩
         by_cases k5 : k1 = 5
         · subst k5
           go_wp2_with fail
           go_meet
           exact ⟨by simp, rfl⟩
         have e3 : (k1 == 3) = false := by simpa using k3
         have e4 : (k1 == 4) = false := by simpa using k4
         have e5 : (k1 == 5) = false := by simpa using k5
         go_wp2_with fail
         go_meet
         exact ⟨by simp [k3, k4, k5], rfl⟩
       · have d1 : decide (((n : Int) + 1) ≤ 1) = false := by rw [decide_eq_false_iff_not]; omega
         go_wp2_with fail
         go_meet
         exact ⟨by simp [h0], rfl⟩
     case rest =>
       obtain ⟨rfl, rfl⟩ := hcut
       go_upto_if 37 with fail
       go_cut [8] from 37 to 42 (fun s8 wx => ∃ k : Int, s8 = .int .i64 k ∧ 1 ≤ k ∧ k ≤ 4 ∧ (n = 0 → k ≠ 3 ∧ k ≠ 4 ∧ k ≠ 5) ∧ Hid (GD b ((w.alloc (.cells #[.int .i64 0, .int .i64 0, .slice none 0 0, .slice none 0 0] 29)).alloc (.cells #[.int .i64 1, .int .i64 2, .int .i64 3, .int .i64 4, .int .i64 5, .int .i64 6, .int .i64 7] 3)) wx))
       case first =>
         by_cases hq : n = 0 ∧ (k1 = 3 ∨ k1 = 4 ∨ k1 = 5)
         · have d1 : decide (n = 0 ∧ (k1 = 3 ∨ k1 = 4 ∨ k1 = 5)) = true := decide_eq_true hq
           rw [d1]
           clear d1 hq
           go_wp2_with fail
           refine (CN.out _ HGX.out.2 2 (by omega) (by omega)).mono ?_
           rintro e w6 ⟨r, rfl, hr0, hr1, hd6, hg6⟩
           have HG6 := Lib.hid (HGX.out.trans ⟨hg6, hd6⟩)
           have x6 := HK.out w6 HG6.out r hr0 (by omega)
           have hr7 : r < 7 := by omega
           clear hg6 hd6
           go_wp2_with fail
           go_meet
           exact ⟨r + 1, rfl, by omega, by omega, fun _ => by omega, HG6⟩
         · have d1 : decide (n = 0 ∧ (k1 = 3 ∨ k1 = 4 ∨ k1 = 5)) = false := decide_eq_false hq
           rw [d1]
           clear d1
           go_wp2_with fail
           go_meet
           exact ⟨k1, rfl, hk1, hk7, fun h0 => ⟨fun h => hq ⟨h0, .inl h⟩, fun h => hq ⟨h0, .inr (.inl h)⟩, fun h => hq ⟨h0, .inr (.inr h)⟩⟩, HGX⟩
       case rest =>
         clear hk1 hk7 HGX
         obtain ⟨k, rfl, hk1, hk7, hk0, HGX⟩ := hcut
         obtain ⟨hg, hb⟩ := HW.out _ HGX.out
         have HG := Lib.hid hg
         have HB := Lib.hid hb
         clear hg hb HGX HK HG1 HG0
         have hk : k = 1 ∨ k = 2 ∨ k = 3 ∨ k = 4 := by omega
         clear hk1 hk7
         rcases hk with rfl | rfl | rfl | rfl
         · have hb := HB.out
           have c0 := hb.cell 0
           have c1 := hb.cell 1
           have c2 := hb.cell 2
           have c3 := hb.cell 3
           have f0 := hb.frozen 0
           have f1 := hb.frozen 1
           have f2 := hb.frozen 2
           have f3 := hb.frozen 3
           have HBB := Lib.hid (blk_set (i := 3) (.slice none 0 0) (blk_set (i := 2) (.slice none 0 0) (blk_set (i := 1) (.int .i64 0) (blk_set (i := 0) (.int .i64 1) hb))))
           clear hb HB
           go_wp2
           refine bodyPost_ret (results_cell_row (p := 6) (ty := 29) rfl _ _ w.heap.size 29 _ (0, 0) _ rfl HBB.out Tryz.underlying29 rfl (by kernel_rfl)) rfl ?_
           have := out4 (x := 1) (y := 0) hbl HG.out (tnil 1 0)
           exact ⟨_, _, _, rfl, rfl, this.1, this.2⟩
         · have CN2 := Lib.hid (CN.out _ HG.out.2 2 (by omega) (by omega))
           go_wp2_with fail
           refine CN2.out.mono ?_
           rintro e w6 ⟨r, rfl, hr0, hr1, hd6, hg6⟩
           have HG6 := Lib.hid (HG.out.trans ⟨hg6, hd6⟩)
           have hb := (GD.blk ⟨hg6, hd6⟩ HB.out (by omega))
           have c0 := hb.cell 0
           have c1 := hb.cell 1
           have c2 := hb.cell 2
           have c3 := hb.cell 3
           have f0 := hb.frozen 0
           have f1 := hb.frozen 1
           have f2 := hb.frozen 2
           have f3 := hb.frozen 3
           have HBB := Lib.hid (blk_set (i := 3) (.slice none 0 0) (blk_set (i := 2) (.slice none 0 0) (blk_set (i := 1) (.int .i64 (2 + r)) (blk_set (i := 0) (.int .i64 2) hb))))
           clear hb HB hg6 hd6
           go_wp2
           refine bodyPost_ret (results_cell_row (p := 6) (ty := 29) rfl _ _ w.heap.size 29 _ (0, 0) _ rfl HBB.out Tryz.underlying29 rfl (by kernel_rfl)) rfl ?_
           have := out4 (x := 2) (y := 2 + r) hbl HG6.out (tnil 2 (2 + r))
           refine ⟨_, _, _, rfl, ?_, this.1, this.2⟩
           obtain rfl | rfl : r = 0 ∨ r = 1 := by omega
           · rfl
           · rfl
         · have CN3 := Lib.hid (fun W (h : DeckOk W b) => CN.out W h 3 (by omega) (by omega))
           have hn0 : 0 < n := by
             rcases Nat.eq_zero_or_pos n with h | h
             · exact absurd rfl (hk0 h).1
             · exact h
           have HST := Lib.hid (MakeT.start HG.out HB.out)
           clear HG HB
           go_wp2_with fail
           refine (CN3.out _ HST.out.gd.2).mono ?_
           rintro e w6 ⟨r, rfl, hr0, hr1, hd6, hg6⟩
           have HMT := Lib.hid (HST.out.keep hbl ⟨hg6, hd6⟩)
           clear hd6 hg6 HST
           generalize wc.heap.size = B1 at *
           obtain ⟨m, rfl⟩ : ∃ m : Nat, r = (m : Int) := ⟨r.toNat, by omega⟩
           have hm3 : m < 3 := by omega
           clear hr0 hr1
           go_wp2_with fail
           go_loopw [10] (fun i wr => ∃ k : Nat, k ≤ 3 ∧ i = .int .i64 k ∧ Hid (∃ sv l, MakeT b wr w B1 sv l ∧ l.length + k ≤ 3 ∧ 1 ≤ l.length + k ∧ ∀ x ∈ l, madeF n x.1 = true)) (fun i _ => (intOf i).toNat)
           case atStart => exact ⟨1 + m, by omega, by go_num, Lib.hid ⟨_, [], HMT.out, by simp; omega, by simp, by simp⟩⟩
           case round =>
             obtain ⟨k, hk, rfl, HR⟩ := hrel
             obtain ⟨sv, l, hI, hl1, hl2, hma⟩ := HR.out
             by_cases hk0 : 0 < k
             · obtain ⟨VA, vc, rfl, vb1, vb2⟩ := hI.row.form
               obtain ⟨i0, hi, hz0, hz1, hz2⟩ := info_parts infoType
               have q3 := hI.b2.cell 3
               have f3 := hI.b2.frozen 3
               have w3 := hI.b2.lt
               have HI0 := Lib.hid hI
               have HMA := Lib.hid hma
               have dw : IntKind.i64.wrap ((n : Int) + 1 - 1) = n := by rw [show (n : Int) + 1 - 1 = n from by omega]; exact wI64 n (by omega) (by omega)
               have dw1 : (n : Int) + 1 - 1 = n := by omega
               clear hI HR hma HMT
               go_wp2_with fail
               have KS : Hid (∀ W', GD b wr.drew W' → B1 < W'.heap.size ∧ W'.cell? ⟨B1, 3, none⟩ = some (.slice VA l.length vc) ∧ MakeT b W' w B1 (.slice VA l.length vc) l) := Lib.hid (fun W' g => by
                 have h2 := HI0.out.keep hbl g.ofDrew
                 exact ⟨h2.b2.lt, h2.b2.cell 3, h2⟩)
               have CP2 : Hid (Calls Tryz.prog 12 #[.pointer (some ⟨b, 0, none⟩), .int .i64 (IntKind.i64.wrap (n : Int)), .bool true] wr.drew (TypePostF wr.drew b n)) := Lib.hid (by rw [wI64 n (by omega) (by omega)]; exact HIH.out hn0 wr.drew (HI0.out.gd.drew.2))
               unfold TypePostF at CP2
               have hsz9 : wr.drew.heap.size = wr.heap.size := rfl
               go_region_law (first
                 | (refine step_append_any _ rfl (.tmp 73) (.tmp 79) 27 rfl (B1 + 1) 29 i0 _ 4 64 Tryz.underlying27 hi hz0 hz1 hz2 rfl (by decide) (.slice VA l.length vc) l.length (tCells l) (by simp [Act.eval, Act.put]) (HI9.out.row.own.alloc (.cells #[.int .i64 yk, .int .i64 yz, .slice A9 n9 c9, .slice A8 n8 c8] 29)) (w9.heap.size + 1) (some ⟨w9.heap.size, 0, none⟩) 1 1 [.int .i64 yk, .int .i64 yz, .slice A9 n9 c9, .slice A8 n8 c8] (by simp [Act.eval, Act.put]) (reads_new4 w9 _ _ _ _ _) (one4 _ _ _ _ _ _ _ _) (by unfold maxLen; omega) (by omega) (by simp <;> omega) ?_; intro v7 w10 hown7 hgr7 hl7; obtain ⟨A7, c7, rfl⟩ := own_form hown7; have hne7 : some B1 ≠ (Value.slice VA l.length vc).ownBlock := (fun e => by have := (HI9.out.row.own.lt _ e.symm).1; omega); have k7 := (HI9.out.b2.alloc (.cells #[.int .i64 yk, .int .i64 yz, .slice A9 n9 c9, .slice A8 n8 c8] 29)).grown hgr7 hne7; have y7 := k7.cell 3; have z7 := k7.frozen 3; have l7 := k7.lt; have HO7 := Lib.hid hown7; have HG7 := Lib.hid hgr7; have HL7 := Lib.hid hl7; clear hown7 hgr7 hl7 k7 hne7)
                 | (go_simp; go_at_call 12; clear dw dw1; refine CP2.out.mono ?_; rintro e w9 ⟨y, s9, p9, rfl, hy9, hk9, hg9⟩; obtain ⟨A9, n9, c9, rfl, -, -⟩ := hk9.1.form'; obtain ⟨A8, n8, c8, rfl, -, -, -⟩ := hk9.2.form; obtain ⟨yk, hyk⟩ : (∃ yk, y.kind = yk) := ⟨_, rfl⟩; obtain ⟨yz, hyz⟩ : (∃ yz, y.size = yz) := ⟨_, rfl⟩; rw [hyk, hyz]; have HYK := Lib.hid hyk; have HYZ := Lib.hid hyz; have HY9 := Lib.hid hy9; have HK9 := Lib.hid hk9; obtain ⟨u0, u1, u2⟩ := KS.out _ hg9; have HI9 := Lib.hid u2; have HG9 := Lib.hid hg9; have hs9 := hg9.size; clear hyk hyz hy9 hk9 hg9 u2))
               all_goals
                 go_wp2
                 go_roundw
                 case rel =>
                   refine ⟨k - 1, by omega, by go_num, Lib.hid ⟨.slice A7 (l.length + 1) c7, l ++ [(y, .slice A9 n9 c9, .slice A8 n8 c8)], ?_, by simp; omega, by simp; omega, fun x hx => ?_⟩⟩
                   · have hI9 := HI9.out
                     have g1 : GD b w9 (w9.alloc (.cells #[.int .i64 yk, .int .i64 yz, .slice A9 n9 c9, .slice A8 n8 c8] 29)) := (GD.refl hI9.gd.2).bw ((Bw.refl _).alloc _)
                     refine (hI9.keep hbl g1).push hbl (x := (y, .slice A9 n9 c9, .slice A8 n8 c8)) ?_ (by rw [HYK.out, HYZ.out]; exact HO7.out) HG7.out HL7.out
                     refine HK9.out.keep (fun c hc => ⟨by have := hc.1; have := HI0.out.b2.lt; omega, by simp; have := hc.2; omega, fun e => ?_⟩) (fun p hp => World.cell?_alloc_lt w9 _ p hp.2)
                     have h3 := (HI0.out.row.own.lt c e).2
                     have := hc.1
                     omega
                   · rcases List.mem_append.1 hx with hx | hx
                     · exact HMA.out x hx
                     · obtain rfl := List.mem_singleton.1 hx
                       exact HY9.out
                 case measure => simp [intOf]; omega
             · obtain rfl : k = 0 := by omega
               obtain ⟨VA, vc, rfl, vb1, vb2⟩ := hI.row.form
               have HM : Hid (madeF (n + 1) (.mk 3 0 [] (l.map (·.1))) = true) := Lib.hid (by
                 have h1 : ∀ t ∈ l.map (·.1), rightP n t = true ∧ fewP n t = true ∧ meetsP n t false = true := fun t ht => by
                   obtain ⟨x, hx, rfl⟩ := List.mem_map.1 ht
                   have := hma x hx
                   simp only [madeF, madeP, Bool.and_eq_true] at this
                   exact ⟨this.1.1, this.1.2, this.2⟩
                 have h2 : (l.map (·.1)).all (rightP n) = true := List.all_eq_true.2 (fun t ht => (h1 t ht).1)
                 have h3 : (l.map (·.1)).all (fewP n) = true := List.all_eq_true.2 (fun t ht => (h1 t ht).2.1)
                 have h6 : (l.map (·.1)).all (fun p => meetsP n p false) = true := List.all_eq_true.2 (fun t ht => (h1 t ht).2.2)
                 have h4 : (l.map (·.1)).length = l.length := by simp
                 have h5 : (l.map (·.1)).isEmpty = false := by cases l with | nil => simp at hl2 | cons _ _ => rfl
                 simp only [madeF, madeP, rightP, fewP, meetsP, T.kind_mk, T.size_mk, T.ranks_mk, T.parts_mk, h2, h3, h4, h5, h6]
                 simp; omega)
               have hb := hI.b1
               have hp := hI.b2
               have c0 := hb.cell 0
               have c1 := hb.cell 1
               have c2 := hb.cell 2
               have c3 := hb.cell 3
               have f0 := hb.frozen 0
               have f1 := hb.frozen 1
               have f2 := hb.frozen 2
               have f3 := hb.frozen 3
               have d0 := hp.cell 0
               have d1 := hp.cell 1
               have d2 := hp.cell 2
               have d3 := hp.cell 3
               have HBB := Lib.hid (blk_set (i := 3) (.slice VA l.length vc) (blk_set (i := 2) (.slice none 0 0) (blk_set (i := 1) (.int .i64 0) (blk_set (i := 0) (.int .i64 3) hb))))
               have HI := Lib.hid hI
               clear hb hp hI HR hma
               go_wp2
               refine bodyPost_ret (results_cell_row (p := 6) (ty := 29) rfl _ _ w.heap.size 29 _ (0, 0) _ rfl HBB.out Tryz.underlying29 rfl (by kernel_rfl)) rfl ?_
               have := out4 (x := 3) (y := 0) (t := .mk 3 0 [] (l.map (·.1))) hbl HI.out.gd HI.out.tat
               exact ⟨_, _, _, rfl, HM.out, this.1, this.2⟩
         · have hn0 : 0 < n := by
             rcases Nat.eq_zero_or_pos n with h | h
             · exact absurd rfl (hk0 h).2.1
             · exact h
           have CI := Lib.hid (HIH.out hn0 wc HG.out.2)
           have dw : IntKind.i64.wrap ((n : Int) + 1 - 1) = n := by rw [show (n : Int) + 1 - 1 = n from by omega]; exact wI64 n (by omega) (by omega)
           have dw1 : (n : Int) + 1 - 1 = n := by omega
           go_wp2_with fail
           refine CI.out.mono ?_
           rintro e w6 ⟨t, r6, p6, rfl, hm6, hk6, hg6⟩
           obtain ⟨A6, n6, c6, rfl, -, -⟩ := hk6.1.form'
           obtain ⟨A7, n7, c7, rfl, -, -, -⟩ := hk6.2.form
           have HPI : Hid (PartI w b n w6.heap.size (w6.alloc (.cells #[.int .i64 t.kind, .int .i64 t.size, .slice A6 n6 c6, .slice A7 n7 c7] 29))) := Lib.hid (by
             have q1 := HB.out.lt
             have q2 := hg6.size
             refine ⟨t, A6, n6, c6, A7, n7, c7, madeF_p hm6, Blk.new _ _ _, hk6.keep (fun x hx => ⟨by have := hx.1; omega, by have := hx.2; simp; omega, by have := hx.2; omega⟩) (fun p hp => World.cell?_alloc_lt w6 _ p hp.2), (HG.out.trans hg6).bw ((Bw.refl _).alloc _), (hg6.blk HB.out (by omega)).alloc _, by omega⟩)
           clear hk6 hg6 hm6 dw dw1 CI
           go_upto_if 91 with fail
           generalize hg : w6.heap.size = g at *
           clear hg
           go_cut [] from 92 to 98 (fun wx => Hid (PartF w b n g wx))
           case first =>
             generalize w6.alloc (.cells #[.int .i64 t.kind, .int .i64 t.size, .slice A6 n6 c6, .slice A7 n7 c7] 29) = wy at *
             obtain ⟨t0, B1, n3, c3, B2, n4, c4, hm, hp, ht, hg', hb, hlt⟩ := HPI.out
             have hd8 : DeckOk (wy.alloc (.cells #[.int .i64 1, .int .i64 0, .slice none 0 0, .slice none 0 0, .int .i64 2, .int .i64 2, .slice none 0 0, .slice none 0 0] 29)) b := (hg'.bw ((Bw.refl _).alloc _)).2
             have HG8 := Lib.hid (hg'.bw ((Bw.refl wy).alloc (.cells #[.int .i64 1, .int .i64 0, .slice none 0 0, .slice none 0 0, .int .i64 2, .int .i64 2, .slice none 0 0, .slice none 0 0] 29)))
             have HB8 := Lib.hid (hb.alloc (.cells #[.int .i64 1, .int .i64 0, .slice none 0 0, .slice none 0 0, .int .i64 2, .int .i64 2, .slice none 0 0, .slice none 0 0] 29))
             have HP8 := Lib.hid (hp.alloc (.cells #[.int .i64 1, .int .i64 0, .slice none 0 0, .slice none 0 0, .int .i64 2, .int .i64 2, .slice none 0 0, .slice none 0 0] 29))
             have HO8 := Lib.hid (Blk.new wy 29 #[.int .i64 1, .int .i64 0, .slice none 0 0, .slice none 0 0, .int .i64 2, .int .i64 2, .slice none 0 0, .slice none 0 0])
             have hwb := hb.lt
             have HMM : Hid (madeW n (.mk 1 0 [] []) = true ∧ madeW n (.mk 2 2 [] []) = true) := Lib.hid (by
               obtain ⟨m, rfl⟩ : ∃ m, n = m + 1 := ⟨n - 1, by omega⟩
               exact ⟨rfl, rfl⟩)
             clear hm hp ht hg' hb HPI
             go_wp2_with fail
             refine (CN.out _ hd8 2 (by omega) (by omega)).mono ?_
             rintro e w8 ⟨r, rfl, hr0, hr1, hd9, hg9⟩
             have hG : GD b (wy.alloc (.cells #[.int .i64 1, .int .i64 0, .slice none 0 0, .slice none 0 0, .int .i64 2, .int .i64 2, .slice none 0 0, .slice none 0 0] 29)) w8 := ⟨hg9, hd9⟩
             have HGA := Lib.hid (HG8.out.trans hG)
             have hP := hG.blk HP8.out (by omega)
             have hB := hG.blk HB8.out (by omega)
             have hO := hG.blk HO8.out (by omega)
             have c0 := hP.cell 0
             have c1 := hP.cell 1
             have c2 := hP.cell 2
             have c3 := hP.cell 3
             have f0 := hP.frozen 0
             have f1 := hP.frozen 1
             have f2 := hP.frozen 2
             have f3 := hP.frozen 3
             have o0 := hO.cell 0
             have o1 := hO.cell 1
             have o2 := hO.cell 2
             have o3 := hO.cell 3
             have o4 := hO.cell 4
             have o5 := hO.cell 5
             have o6 := hO.cell 6
             have o7 := hO.cell 7
             have HRES : Hid (∀ k z, madeW n (.mk k z [] []) = true → PartF w b n g ((((w8.setCell ⟨g, 0, none⟩ (.int .i64 k)).setCell ⟨g, 1, none⟩ (.int .i64 z)).setCell ⟨g, 2, none⟩ (.slice none 0 0)).setCell ⟨g, 3, none⟩ (.slice none 0 0))) := Lib.hid (fun k z hm => by
               have e1 := grownBy_setCell (p := ⟨g, 3, none⟩) (grownBy_setCell (p := ⟨g, 2, none⟩) (grownBy_setCell (p := ⟨g, 1, none⟩) (grownBy_setCell (p := ⟨g, 0, none⟩) (World.grownBy.refl w8 (some g)) (.inl rfl) (.int .i64 k)) (.inl rfl) (.int .i64 z)) (.inl rfl) (.slice none 0 0)) (.inl rfl) (.slice none 0 0)
               exact ⟨_, none, 0, 0, none, 0, 0, hm, (((hP.set_ 0 _).set_ 1 _).set_ 2 _).set_ 3 _, tnil k z, HGA.out.own e1 (fun r e => by injection e with e; omega) hbl, hB.grown e1 (fun e => by injection e with e; omega), hlt⟩)
             clear hG hP hB hO hg9 hd9
             obtain rfl | rfl : r = 0 ∨ r = 1 := by omega
             · go_wp2_with fail
               go_meet
               exact Lib.hid (HRES.out 1 0 HMM.out.1)
             · go_wp2_with fail
               go_meet
               exact Lib.hid (HRES.out 2 2 HMM.out.2)
           case rest =>
             have HC := hcut
             clear hcut HPI
             obtain ⟨t', A, n1, c, A', n', c', hm, hp, ht, hg', hb, hlt⟩ := HC.out
             have hb2 := hb.alloc (.cells #[.int .i64 t'.kind, .int .i64 t'.size, .slice A n1 c, .slice A' n' c'] 29)
             have c0 := hb2.cell 0
             have c1 := hb2.cell 1
             have c2 := hb2.cell 2
             have c3 := hb2.cell 3
             have f0 := hb2.frozen 0
             have f1 := hb2.frozen 1
             have f2 := hb2.frozen 2
             have f3 := hb2.frozen 3
             have d0 := hp.cell 0
             have d1 := hp.cell 1
             have d2 := hp.cell 2
             have d3 := hp.cell 3
             have HBB := Lib.hid (blk_set (i := 3) (.slice (some ⟨wc.heap.size, 0, none⟩) 1 1) (blk_set (i := 2) (.slice none 0 0) (blk_set (i := 1) (.int .i64 0) (blk_set (i := 0) (.int .i64 4) hb2))))
             have HM : Hid (madeF (n + 1) (.mk 4 0 [] [t']) = true) := Lib.hid (by
               simp only [madeW, madeF, Bool.and_eq_true] at hm ⊢
               refine ⟨?_, ?_⟩
               · have h1 := hm.1
                 simp [madeP, rightP, fewP] at h1 ⊢; exact h1
               · have h2 := hm.2
                 simp [meetsP]; exact h2)
             have HPAT : Hid (TAt (wc.alloc (.cells #[.int .i64 t'.kind, .int .i64 t'.size, .slice A n1 c, .slice A' n' c'] 29)) (fun yy => w.heap.size + 1 ≤ yy ∧ yy < (wc.alloc (.cells #[.int .i64 t'.kind, .int .i64 t'.size, .slice A n1 c, .slice A' n' c'] 29)).heap.size) (.slice none 0 0) (.slice (some ⟨wc.heap.size, 0, none⟩) 1 1) (.mk 4 0 [] [t'])) := Lib.hid ⟨IAt.nil 0 none (by unfold maxLen; omega), by
               have hlt2 := hb.lt
               have hrow : TRow (wc.alloc (.cells #[.int .i64 t'.kind, .int .i64 t'.size, .slice A n1 c, .slice A' n' c'] 29)) 29 (w.heap.size + 1) wc.heap.size (.slice (some ⟨wc.heap.size, 0, none⟩) 1 1) [(t', .slice A n1 c, .slice A' n' c')] := ⟨own_new wc 29 _ 4 (n := 1) rfl rfl, fun x hx => by
                 obtain rfl := List.mem_singleton.1 hx
                 exact ht.keep (fun x hx => ⟨hx.1, by have := hx.2.1; simp; omega, fun e => by injection e with e; have := hx.2.1; simp at e; omega⟩) (fun p hp => World.cell?_alloc_lt wc _ p hp.2.1)⟩
               have h3 := hrow.pat (by omega)
               simp only [List.map_cons, List.map_nil] at h3
               rw [T.parts_mk]
               exact h3⟩
             have HGF : Hid (GD b w (wc.alloc (.cells #[.int .i64 t'.kind, .int .i64 t'.size, .slice A n1 c, .slice A' n' c'] 29))) := Lib.hid (hg'.bw ((Bw.refl _).alloc _))
             clear hp hb hb2 ht hg' hm HC
             go_wp2
             refine bodyPost_ret (results_cell_row (p := 6) (ty := 29) rfl _ _ w.heap.size 29 _ (0, 0) _ rfl HBB.out Tryz.underlying29 rfl (by kernel_rfl)) rfl ?_
             have := out4 (x := 4) (y := 0) (r := .slice none 0 0) (p := .slice (some ⟨wc.heap.size, 0, none⟩) 1 1) (t := .mk 4 0 [] [t']) hbl HGF.out HPAT.out
             exact ⟨_, _, _, rfl, HM.out, this.1, this.2⟩
theorem dtypeF_any (b : Nat) : ∀ (n : Nat), n ≤ 10 → ∀ (w : World), DeckOk w b → Calls Tryz.prog 12 #[.pointer (some ⟨b, 0, none⟩), .int .i64 ((n : Int) + 1), .bool true] w (TypePostF w b (n + 1)) := by
 intro n
 induction n with
 | zero => intro h w hd; exact dtypeF_step b 0 h (fun h => absurd h (by omega)) w hd
 | succ n ih =>
   intro h w hd
   refine dtypeF_step b (n + 1) h (fun _ W hW => ?_) w hd
   have := ih (by omega) W hW
   simpa using this
end Go.Proofs.YtbmheekaclmibaaGreat
