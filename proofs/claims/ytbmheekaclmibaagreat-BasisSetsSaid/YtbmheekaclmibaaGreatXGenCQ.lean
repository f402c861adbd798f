/- Part of a proof of basisSets_holds. -/
import Derived.Test.YtbmheekaclmibaaGreatXGenBQ
set_option maxRecDepth 100000
set_option maxHeartbeats 16000000
namespace Go.Proofs.YtbmheekaclmibaaGreat
open Go.RowKit
set_option linter.unusedSimpArgs false
set_option linter.unusedVariables false
def leafV (x : Int) : V := .mk x []
def wordV (xs : List Int) : V := .mk 0 (xs.map leafV)
structure WordI (W w : World) (sv : Value) (l : List V) (ss : List Value) : Prop where
 b1 : Blk W w.heap.size 39 #[.int .i64 0, .slice none 0 0]
 b2 : Blk W (w.heap.size + 1) 39 #[.int .i64 0, sv]
 row : VRow W 39 (w.heap.size + 1 + 1) (w.heap.size + 1 + 1) sv l ss
 bw : Bw w W
theorem WordI.keep {W W' w : World} {sv : Value} {l : List V} {ss : List Value} (h : WordI W w sv l ss) (g : Bw W W') : WordI W' w sv l ss :=
 ⟨h.b1.below g.b h.b1.lt, h.b2.below g.b h.b2.lt, h.row.bw g, h.bw.trans g⟩
theorem WordI.start (w : World) : WordI ((w.alloc (.cells #[.int .i64 0, .slice none 0 0] 39)).alloc (.cells #[.int .i64 0, .slice none 0 0] 39)) w (.slice none 0 0) [] [] :=
 ⟨(Blk.new _ _ _).alloc _, by have := Blk.new (w.alloc (.cells #[.int .i64 0, .slice none 0 0] 39)) 39 #[.int .i64 0, .slice none 0 0]; simpa only [World.size_alloc] using this, VRow.nil _ _ _ _, ((Bw.refl _).alloc _).alloc _⟩
theorem WordI.push {W w w7 : World} {sv v7 : Value} {l : List V} {ss : List Value} (h : WordI W w sv l ss) {y : Int} (hown : w7.ownsRow (w.heap.size + 1 + 1) 39 2 v7 (l.length + 1) (vCells l ss ++ [.int .i64 y, .slice none 0 0])) (hg : W.grownBy w7 sv.ownBlock) (hv : v7.ownBlock = sv.ownBlock ∨ v7.ownBlock = some W.heap.size) :
   WordI (w7.setCell ⟨w.heap.size + 1, 1, none⟩ v7) w v7 (l ++ [leafV y]) (ss ++ [.slice none 0 0]) := by
 have hr : ∀ r, sv.ownBlock = some r → w.heap.size + 1 + 1 ≤ r := fun r e => (h.row.own.lt r e).1
 have ne : ∀ r, r < w.heap.size + 1 + 1 → some r ≠ sv.ownBlock := fun r hr' e => by have := hr r e.symm; omega
 have hrow := h.row.push (x := leafV y) (s := .slice none 0 0) (KAt.nil 0 none (Nat.zero_le _)) hown hg hv
 have e1 := grownBy_setCell (p := ⟨w.heap.size + 1, 1, none⟩) (World.grownBy.refl w7 (some (w.heap.size + 1))) (.inl rfl) v7
 have hl := h.b2.lt
 refine ⟨(h.b1.grown hg (ne _ (by omega))).far (by dsimp only; omega) _, (h.b2.grown hg (ne _ (by omega))).set_ 1 v7, hrow.keep e1 (fun r e => by
   injection e with e; subst e
   exact ⟨fun e => by have := (hown.lt _ e).1; omega, by omega⟩), ?_⟩
 have h1 : Below w.heap.size w w7 := below_own (h.bw.b) (own_base h.row.own (by omega)) hg h.bw.size
 exact Below.setCell h1 (by dsimp only; omega) v7
theorem WordI.out {W w : World} {sv : Value} {l : List V} {ss : List Value} (h : WordI W w sv l ss) :
   KAt ((W.setCell ⟨w.heap.size, 0, none⟩ (.int .i64 0)).setCell ⟨w.heap.size, 1, none⟩ sv) (fun b => w.heap.size ≤ b ∧ b < ((W.setCell ⟨w.heap.size, 0, none⟩ (.int .i64 0)).setCell ⟨w.heap.size, 1, none⟩ sv).heap.size) sv l ∧
   Bw w ((W.setCell ⟨w.heap.size, 0, none⟩ (.int .i64 0)).setCell ⟨w.heap.size, 1, none⟩ sv) :=
 ⟨(h.row.kat (Nat.le_refl _)).keep (fun b hb => ⟨by have := hb.1; omega, by have := hb.2; simp [World.setCell]; exact this⟩) (fun p hp => by
   have hp1 := hp.1
   rw [World.cell?_setCell_other _ _ _ _ (by intro e; subst e; simp at hp1; omega), World.cell?_setCell_other _ _ _ _ (by intro e; subst e; simp at hp1; omega)]),
  (h.bw.setCell (p := ⟨w.heap.size, 0, none⟩) (by dsimp only; omega) _).setCell (p := ⟨w.heap.size, 1, none⟩) (by dsimp only; omega) _⟩
theorem r6Word_any (xs : List Int) (h10 : xs.length ≤ 1000000) (s : Value) (w : World) (h : IB w w.heap.size s xs) :
   Calls Tryz.prog 88 #[s] w (ValPost w (wordV xs)) := by
 obtain ⟨A, n, c, rfl, ln, bn, mn⟩ := h.form
 unfold maxLen at mn
 rw [ln] at h10
 have HK := Lib.hid h
 have LN := Lib.hid ln
 unfold ValPost
 have HST := Lib.hid (WordI.start w)
 clear h ln
 obtain ⟨i0, hi, hz0, hz1, hz2⟩ := info_parts infoVal
 show Calls _ _ _ _ (fun e w' => ∃ s, e = .returned (.agg #[.int .i64 0, s]) ∧ KAt w' (fun b => w.heap.size ≤ b ∧ b < w'.heap.size) s (xs.map leafV) ∧ Bw w w')
 go_enter Tryz.func88, Tryz.ntmps88
 go_wp2
 go_loopw [4] (fun i wr => ∃ k : Nat, k ≤ n ∧ i = .int .i64 k ∧ Hid (∃ sv ss, WordI wr w sv ((xs.map leafV).take k) ss)) (fun i _ => n - (intOf i).toNat)
 case atStart => exact ⟨0, by omega, by go_num, Lib.hid ⟨_, [], HST.out⟩⟩
 case round =>
   obtain ⟨k, hk, rfl, HR⟩ := hrel
   obtain ⟨sv, ss, hI⟩ := HR.out
   have HI0 := Lib.hid hI
   obtain ⟨VA, vc, rfl, vb1, vb2⟩ := hI.row.form
   have hlk : ((xs.map leafV).take k).length = k := by rw [List.length_take, List.length_map, LN.out]; omega
   have w2 := hI.b2.lt
   have q2 := hI.b2.cell 0
   have q3 := hI.b2.cell 1
   have f3 := hI.b2.frozen 1
   rw [hlk] at q3 HI0 vb1
   by_cases hlt : k < n
   · have e1 : k < xs.length := by rw [LN.out]; exact hlt
     obtain ⟨ad, rfl, hb, q0⟩ := (HK.out.bw hI.bw).at_ e1
     have HT : Hid ((xs.map leafV).take (k + 1) = (xs.map leafV).take k ++ [leafV xs[k]]) := Lib.hid (by rw [List.take_succ_eq_append_getElem (by simpa using e1)]; simp)
     clear hI HR hlk
     generalize xs[k] = y at *
     go_wp2_with fail
     have KS : Hid (∀ W', Bw wr.drew W' → WordI W' w (.slice VA k vc) ((xs.map leafV).take k) ss) := Lib.hid (fun W' g => HI0.out.keep ((Bw.refl _).drew.trans g))
     have HLK : Hid (((xs.map leafV).take k).length = k) := Lib.hid (by rw [List.length_take, List.length_map, LN.out]; omega)
     have HI6 := Lib.hid (KS.out wr.drew (Bw.refl _))
     have HQ0 := Lib.hid q0
     have hsz9 : wr.drew.heap.size = wr.heap.size := rfl
     have dz : (0 : Int) ≤ (k : Int) := by omega
     have dz1 : (k : Int) < (n : Int) := by omega
     go_region_law (refine step_append_any _ rfl (.tmp 12) (.tmp 18) 31 rfl (w.heap.size + 1 + 1) 39 i0 _ 2 32 Tryz.underlying31 hi hz0 hz1 hz2 rfl (by decide) (.slice VA k vc) k (vCells ((xs.map leafV).take k) ss) (by simp [Act.eval, Act.put]) (by have := (HI6.out.row.own.alloc (.cells #[.int .i64 y, .slice none 0 0] 39)); rwa [HLK.out] at this) (wr.heap.size + 1) (some ⟨wr.heap.size, 0, none⟩) 1 1 [.int .i64 y, .slice none 0 0] (by simp [Act.eval, Act.put]) (reads_new2 wr.drew 39 _ _) (one2 _ _ _ _) (by unfold maxLen; omega) (by omega) (by simp <;> omega) ?_; intro v7 w7 hown7 hgr7 hl7; obtain ⟨A7, c7, rfl⟩ := own_form hown7; have hne7 : some (w.heap.size + 1) ≠ (Value.slice VA k vc).ownBlock := (fun e => by have := (HI6.out.row.own.lt _ e.symm).1; omega); have k7 := (HI6.out.b2.alloc (.cells #[.int .i64 y, .slice none 0 0] 39)).grown hgr7 hne7; have y7 := k7.cell 1; have z7 := k7.frozen 1; have l7 := k7.lt; have HO7 := Lib.hid hown7; have HG7 := Lib.hid hgr7; have HL7 := Lib.hid hl7; clear hown7 hgr7 hl7 k7 hne7)
     all_goals
       go_wp2
       go_roundw
       case rel =>
         refine ⟨k + 1, by omega, by go_num, Lib.hid ⟨.slice A7 (k + 1) c7, ss ++ [.slice none 0 0], ?_⟩⟩
         rw [HT.out]
         have hI6 := HI6.out
         exact (hI6.keep ((Bw.refl wr.drew).alloc (.cells #[.int .i64 y, .slice none 0 0] 39))).push (by rw [HLK.out]; exact HO7.out) HG7.out HL7.out
       case measure => simp [intOf]; omega
   · obtain rfl : k = n := by omega
     have r0 := hI.b1.cell 0
     have r1 := hI.b1.cell 1
     have g0 := hI.b1.frozen 0
     have g1 := hI.b1.frozen 1
     have HBB := Lib.hid (blk_set (i := 1) (.slice VA k vc) (blk_set (i := 0) (.int .i64 0) hI.b1))
     clear hI HR
     go_wp2
     refine bodyPost_ret (results_cell_row (p := 2) (ty := 39) rfl _ _ w.heap.size 39 _ (0, 0) _ rfl HBB.out Tryz.underlying39 rfl (by kernel_rfl)) rfl ?_
     have := HI0.out.out
     rw [List.take_of_length_le (by rw [List.length_map, LN.out]; omega)] at this
     exact ⟨_, rfl, this.1, this.2⟩
abbrev TD (b : Nat) (w : World) : Nat → Prop := fun x => x ≠ b ∧ x < w.heap.size
theorem TAt.td {b : Nat} {w w' : World} {r p : Value} {t : T} (h : TAt w (TD b w) r p t) (g : GD b w w') : TAt w' (TD b w') r p t := h.keep (fun x hx => ⟨hx.1, Nat.lt_of_lt_of_le hx.2 g.size⟩) (fun q hq => g.cell hq.2 hq.1)
theorem PAt.td {b : Nat} {w w' : World} {p : Value} {l : List T} (h : PAt w (TD b w) p l) (g : GD b w w') : PAt w' (TD b w') p l := h.keep (fun x hx => ⟨hx.1, Nat.lt_of_lt_of_le hx.2 g.size⟩) (fun q hq => g.cell hq.2 hq.1)
structure LooI (b : Nat) (W w : World) (kd z : Int) (r p sv : Value) (l : List V) (ss : List Value) : Prop where
 box : Blk W w.heap.size 29 #[.int .i64 kd, .int .i64 z, r, p]
 mi : MakeI b W w 39 (w.heap.size + 1) (w.heap.size + 1 + 1) 0 sv l ss
section
variable {b : Nat} {W W' w w7 : World} {kd z : Int} {r p sv v7 : Value} {l : List V} {ss : List Value}
theorem LooI.keep (h : LooI b W w kd z r p sv l ss) (hb : b < w.heap.size) (g : GD b W W') : LooI b W' w kd z r p sv l ss :=
 ⟨g.blk h.box (by omega), h.mi.keep hb g⟩
theorem LooI.push (h : LooI b W w kd z r p sv l ss) (hb : b < w.heap.size) {y : V} {s : Value}
   (hs : KAt W (fun c => w.heap.size + 1 + 1 + 1 ≤ c ∧ c < W.heap.size ∧ sv.ownBlock ≠ some c) s y.ks) (hown : w7.ownsRow (w.heap.size + 1 + 1 + 1) 39 2 v7 (l.length + 1) (vCells l ss ++ [.int .i64 y.n, s])) (hg : W.grownBy w7 sv.ownBlock) (hv : v7.ownBlock = sv.ownBlock ∨ v7.ownBlock = some W.heap.size) :
   LooI b (w7.setCell ⟨w.heap.size + 1 + 1, 1, none⟩ v7) w kd z r p v7 (l ++ [y]) (ss ++ [s]) := by
 refine ⟨?_, h.mi.push hb hs hown hg hv⟩
 have hr : ∀ r, sv.ownBlock = some r → w.heap.size + 1 + 1 + 1 ≤ r := fun r e => (h.mi.row.own.lt r e).1
 exact (h.box.grown hg (fun e => by have := hr _ e.symm; omega)).far (by dsimp only; omega) _
end
theorem LooI.start {b : Nat} {w W : World} {kd z : Int} {r p : Value} (hd : DeckOk w b) :
   LooI b (((w.alloc (.cells #[.int .i64 kd, .int .i64 z, r, p] 29)).alloc (.cells #[.int .i64 0, .slice none 0 0] 39)).alloc (.cells #[.int .i64 0, .slice none 0 0] 39)) w kd z r p (.slice none 0 0) [] [] := by
 have h1 := Blk.new w 29 #[.int .i64 kd, .int .i64 z, r, p]
 have h2 := Blk.new (w.alloc (.cells #[.int .i64 kd, .int .i64 z, r, p] 29)) 39 #[.int .i64 0, .slice none 0 0]
 have h3 := Blk.new ((w.alloc (.cells #[.int .i64 kd, .int .i64 z, r, p] 29)).alloc (.cells #[.int .i64 0, .slice none 0 0] 39)) 39 #[.int .i64 0, .slice none 0 0]
 refine ⟨(h1.alloc _).alloc _, ?_⟩
 rw [World.size_alloc] at h2
 rw [World.size_alloc, World.size_alloc] at h3
 exact ⟨by omega, by omega, h2.alloc _, h3, VRow.nil _ _ _ _, ((GD.refl hd).bw (((Bw.refl _).alloc _).alloc _)).bw ((Bw.refl _).alloc _)⟩
theorem out5 {w W : World} {b : Nat} {x : Int} {s : Value} {l : List V} (hb : b < w.heap.size) (hg : GD b w W) (h : KAt W (fun c => w.heap.size + 1 + 1 ≤ c ∧ c < W.heap.size) s l) :
   KAt ((W.setCell ⟨w.heap.size + 1, 0, none⟩ (.int .i64 x)).setCell ⟨w.heap.size + 1, 1, none⟩ s) (FB w ((W.setCell ⟨w.heap.size + 1, 0, none⟩ (.int .i64 x)).setCell ⟨w.heap.size + 1, 1, none⟩ s)) s l ∧ GD b w ((W.setCell ⟨w.heap.size + 1, 0, none⟩ (.int .i64 x)).setCell ⟨w.heap.size + 1, 1, none⟩ s) := by
 have e1 := grownBy_setCell (p := ⟨w.heap.size + 1, 1, none⟩) (grownBy_setCell (p := ⟨w.heap.size + 1, 0, none⟩) (World.grownBy.refl W (some (w.heap.size + 1))) (.inl rfl) (.int .i64 x)) (.inl rfl) s
 refine ⟨h.keep (fun c hc => ⟨by have := hc.1; omega, by have := hc.2; simp [World.setCell]; exact this⟩) (fun q hq => ?_), hg.own e1 (fun r e => by injection e with e; omega) hb⟩
 exact World.cell?_of_block (e1.block q.block hq.2 (fun e => by injection e with e; have := hq.1; omega))
theorem oneZ_snoc {f : T → V → Bool} {p : T} {v : V} : ∀ {ps : List T} {vs : List V}, oneZ f ps vs = true → f p v = true → oneZ f (ps ++ [p]) (vs ++ [v]) = true
 | [], [], _, h => by simp [oneZ, h]
 | q :: ps, u :: vs, h, h2 => by
   simp only [oneZ, Bool.and_eq_true] at h
   simp only [List.cons_append, oneZ, Bool.and_eq_true]
   exact ⟨h.1, oneZ_snoc h.2 h2⟩
 | [], _ :: _, h, _ => by simp [oneZ] at h
 | _ :: _, [], h, _ => by simp [oneZ] at h
theorem tvb2 {b : Nat} {w W : World} {kd z : Int} {r p : Value} (hb : b < w.heap.size) (h : GD b ((w.alloc (.cells #[.int .i64 kd, .int .i64 z, r, p] 29)).alloc (.cells #[.int .i64 0, .slice none 0 0] 39)) W) :
   w.heap.size + 2 ≤ W.heap.size ∧ Blk W w.heap.size 29 #[.int .i64 kd, .int .i64 z, r, p] ∧ Blk W (w.heap.size + 1) 39 #[.int .i64 0, .slice none 0 0] := by
 have h1 := Blk.new w 29 #[.int .i64 kd, .int .i64 z, r, p]
 have h2 := Blk.new (w.alloc (.cells #[.int .i64 kd, .int .i64 z, r, p] 29)) 39 #[.int .i64 0, .slice none 0 0]
 rw [World.size_alloc] at h2
 exact ⟨by have := h.size; simp at this; omega, h.blk (h1.alloc _) (by omega), h.blk h2 (by omega)⟩

theorem dloose_step (b d : Nat) (t : T) (ht : rightP (d + 1) t = true) (m : Nat) (hm : m ≤ 12) (rv pv : Value) (w : World) (hd : DeckOk w b) (hT : TAt w (TD b w) rv pv t)
   (ih : ∀ (m' : Nat) (t' : T) (rv' pv' : Value) (W : World), m' ≤ 12 → rightP d t' = true → DeckOk W b → TAt W (TD b W) rv' pv' t' → Calls Tryz.prog 52 #[.pointer (some ⟨b, 0, none⟩), .agg #[.int .i64 t'.kind, .int .i64 t'.size, rv', pv'], .int .i64 m'] W (MadePost W b (fun v => loosP d m' t' v = true))) :
   Calls Tryz.prog 52 #[.pointer (some ⟨b, 0, none⟩), .agg #[.int .i64 t.kind, .int .i64 t.size, rv, pv], .int .i64 m] w (MadePost w b (fun v => loosP (d + 1) m t v = true)) := by
 have hbl := hd.lt
 obtain ⟨A1, rn, c1, rfl, _, _⟩ := hT.1.form'
 obtain ⟨A2, pn, c2, rfl, lpn, _, _⟩ := hT.2.form
 have HIH := Lib.hid ih
 have HD := Lib.hid hd
 have HT := Lib.hid hT
 have HG0 : Hid (GD b w ((w.alloc (.cells #[.int .i64 t.kind, .int .i64 t.size, .slice A1 rn c1, .slice A2 pn c2] 29)).alloc (.cells #[.int .i64 0, .slice none 0 0] 39))) := Lib.hid ((GD.refl hd).bw (((Bw.refl _).alloc _).alloc _))
 have HB : Hid (∀ W, GD b ((w.alloc (.cells #[.int .i64 t.kind, .int .i64 t.size, .slice A1 rn c1, .slice A2 pn c2] 29)).alloc (.cells #[.int .i64 0, .slice none 0 0] 39)) W → _) := Lib.hid (fun W h => tvb2 hbl h)
 have HST := Lib.hid (LooI.start (w := w) (W := w) (kd := t.kind) (z := t.size) (r := .slice A1 rn c1) (p := .slice A2 pn c2) hd)
 have CN := Lib.hid (fun W (h : DeckOk W b) (m : Int) (h1 : 1 ≤ m) (h2 : m < 100) => next_any W b h m h1 (by omega))
 simp only [rightP, Bool.and_eq_true] at ht
 have hr := ht.2
 clear hd hT ih ht
 by_cases k1 : t.kind = 1
 · have hP : Hid (∀ r : Int, 0 ≤ r → r < 4 → loosP (d + 1) m t (.mk r []) = true) := Lib.hid (fun r h0 h4 => by unfold loosP; rw [if_pos k1]; show (decide (0 ≤ r) && decide (r ≤ 3) && true) = true; simp; omega)
   generalize t.size = z at *
   generalize t.kind = kd at *
   subst k1
   clear HIH HT HST hr
   unfold MadePost
   go_enter Tryz.func52, Tryz.ntmps52
   go_wp2_with fail
   refine (CN.out _ HG0.out.2 4 (by omega) (by omega)).mono ?_
   rintro e w6 ⟨r, rfl, hr0, hr1, hd6, hg6⟩
   obtain ⟨y1, y2, y3⟩ := HB.out _ ⟨hg6, hd6⟩
   have HG6 := Lib.hid (HG0.out.trans ⟨hg6, hd6⟩)
   have c0 := y3.cell 0
   have c1 := y3.cell 1
   have f0 := y3.frozen 0
   have f1 := y3.frozen 1
   have HBB := Lib.hid (blk_set (i := 1) (.slice none 0 0) (blk_set (i := 0) (.int .i64 r) y3))
   clear y3 y2 hd6 hg6
   go_wp2
   refine bodyPost_ret (results_cell_row (p := 6) (ty := 39) rfl _ _ (w.heap.size + 1) 39 _ (0, 0) _ rfl HBB.out Tryz.underlying39 rfl (by kernel_rfl)) rfl ?_
   have := out5 (x := r) (s := .slice none 0 0) (l := []) hbl HG6.out (KAt.nil 0 none (by unfold maxLen; omega))
   exact ⟨.mk r [], _, rfl, hP.out r hr0 hr1, this.1, this.2⟩
 by_cases k2 : t.kind = 2
 · rw [if_neg k1, if_pos (.inl k2)] at hr
   have hz : 1 ≤ t.size ∧ t.size ≤ 16 := by simp at hr; omega
   have hP : Hid (∀ r : Int, 0 ≤ r → r < t.size → loosP (d + 1) m t (.mk r []) = true) := Lib.hid (fun r h0 h4 => by unfold loosP; rw [if_neg k1, if_pos k2]; show (decide (0 ≤ r) && decide (r < t.size) && true) = true; simp; omega)
   generalize t.size = z at *
   generalize t.kind = kd at *
   subst k2
   clear HIH HT HST hr k1
   unfold MadePost
   have CN2 := Lib.hid (CN.out _ HG0.out.2 z (by omega) (by omega))
   go_enter Tryz.func52, Tryz.ntmps52
   go_wp2_with fail
   refine CN2.out.mono ?_
   rintro e w6 ⟨r, rfl, hr0, hr1, hd6, hg6⟩
   obtain ⟨y1, y2, y3⟩ := HB.out _ ⟨hg6, hd6⟩
   have HG6 := Lib.hid (HG0.out.trans ⟨hg6, hd6⟩)
   have c0 := y3.cell 0
   have c1 := y3.cell 1
   have f0 := y3.frozen 0
   have f1 := y3.frozen 1
   have HBB := Lib.hid (blk_set (i := 1) (.slice none 0 0) (blk_set (i := 0) (.int .i64 r) y3))
   clear y3 y2 hd6 hg6
   go_wp2
   refine bodyPost_ret (results_cell_row (p := 6) (ty := 39) rfl _ _ (w.heap.size + 1) 39 _ (0, 0) _ rfl HBB.out Tryz.underlying39 rfl (by kernel_rfl)) rfl ?_
   have := out5 (x := r) (s := .slice none 0 0) (l := []) hbl HG6.out (KAt.nil 0 none (by unfold maxLen; omega))
   exact ⟨.mk r [], _, rfl, hP.out r hr0 hr1, this.1, this.2⟩
 by_cases k6 : t.kind = 6
 · rw [if_neg k1, if_pos (.inr k6)] at hr
   have hz : 1 ≤ t.size ∧ t.size ≤ 16 := by simp at hr; omega
   have hP : Hid (∀ v, TreeOkP t.size 4 v → loosP (d + 1) m t v = true) := Lib.hid (fun v h => by unfold loosP; rw [if_neg k1, if_neg k2, if_pos k6, h.1]; have := h.2; simpa using this)
   generalize t.size = z at *
   generalize t.kind = kd at *
   subst k6
   clear HIH HT HST hr k1 k2
   unfold MadePost
   have CT : Hid (∀ (k : Nat), k ≤ 3 → ∀ W, DeckOk W b → Calls Tryz.prog 87 #[.pointer (some ⟨b, 0, none⟩), .int .i64 z, .int .i64 (IntKind.i64.wrap (1 + (k : Int)))] W (MadePost W b (TreeOkP z (k + 1)))) := Lib.hid (fun k hk W hW => by
     have := dtree_any b z hz.1 (by omega) k (by omega) W hW
     rw [wI64 (1 + (k : Int)) (by omega) (by omega)]
     rwa [Int.add_comm (k : Int) 1] at this)
   have B0 := HB.out _ (GD.refl HG0.out.2)
   have z0 := B0.2.1.cell 1
   have CM := Lib.hid (fun (v : V) (hv : v.size ≤ 4) s W (hk : KB W W.heap.size s v.ks) => mvalue_any v (by omega) s W hk)
   clear B0
   go_enter Tryz.func52, Tryz.ntmps52
   go_wp2_with fail
   generalize (w.alloc (.cells #[.int .i64 6, .int .i64 z, .slice A1 rn c1, .slice A2 pn c2] 29)).alloc (.cells #[.int .i64 0, .slice none 0 0] 39) = W1 at *
   have CN4 := Lib.hid (CN.out W1.drew HG0.out.drew.2 4 (by omega) (by omega))
   unfold NextPost at CN4
   unfold MadePost at CT
   unfold ValPost at CM
   go_region_law (first
     | (go_simp; go_at_call 38; have hq := CN4.out; refine hq.mono ?_; clear hq; rintro e w6 ⟨r, rfl, hr0, hr1, hd6, hg6⟩; obtain ⟨k, rfl⟩ : (∃ k : Nat, r = (k : Int)) := ⟨r.toNat, by omega⟩; have hk3 : k ≤ 3 := (by omega); have HG6 := Lib.hid (GD.ofDrew ⟨hg6, hd6⟩); have x6 := (HB.out _ HG6.out).2.1.cell 1; clear hr0 hr1 hd6 hg6)
     | (go_simp; go_at_call 87; have hq := CT.out k hk3 w6 HG6.out.2; refine hq.mono ?_; clear hq; rintro e w7 ⟨v, s7, rfl, hv7, hk7, hg7⟩; obtain ⟨A7, n7, c7, rfl, -, -, -⟩ := hk7.form; have HV7 := Lib.hid hv7; have HK7 := Lib.hid hk7; have HG7 := Lib.hid hg7; clear hv7 hk7 hg7)
     | (go_simp; go_at_call 86; have hq := CM.out v (by have := HV7.out.2; omega) _ w7 (HK7.out.keep (fun x hx => hx.2) (fun _ _ => rfl)); refine hq.mono ?_; clear hq; rintro e w8 ⟨s8, rfl, hk8, hg8⟩; obtain ⟨A8, n8, c8, rfl, -, -, -⟩ := hk8.form; have HG7' := Lib.hid ((HG6.out.trans HG7.out).bw hg8); have hb := (HB.out _ HG7'.out).2.2; have HK8 := Lib.hid hk8; have x8 := hb.cell 0; have y8 := hb.cell 1; have f8 := hb.frozen 0; have g8 := hb.frozen 1; have HBB := Lib.hid (blk_set (i := 1) (.slice A8 n8 c8) (blk_set (i := 0) (.int .i64 v.n) hb)); clear hb hk8 hg8))
   all_goals
     go_wp2
     refine bodyPost_ret (results_cell_row (p := 6) (ty := 39) rfl _ _ (w.heap.size + 1) 39 _ (0, 0) _ rfl HBB.out Tryz.underlying39 rfl (by kernel_rfl)) rfl ?_
     have hs7 := (HB.out _ (HG6.out.trans HG7.out)).1
     have := out5 (x := v.n) (s := .slice A8 n8 c8) (l := v.ks) hbl (HG0.out.trans HG7'.out) (HK8.out.keep (fun c hc => ⟨by have := hc.1; omega, hc.2⟩) (fun _ _ => rfl))
     refine ⟨v, _, rfl, hP.out v ⟨HV7.out.1, by have := HV7.out.2; omega⟩, this.1, this.2⟩
 by_cases k7 : t.kind = 7
 · rw [if_neg k1, if_neg (by omega), if_pos k7] at hr
   have hz : 1 ≤ t.size ∧ t.size ≤ 6 := by
     simp [rankedP] at hr; omega
   have hP : Hid (∀ xs : List Int, xs.length ≤ m → (∀ x ∈ xs, 0 ≤ x ∧ x < t.size) → loosP (d + 1) m t (wordV xs) = true) := Lib.hid (fun xs h0 h4 => by
     unfold loosP
     rw [if_neg k1, if_neg k2, if_neg k6, if_pos k7]
     have h5 : ((wordV xs).ks.all (labelP t.size)) = true := by
       rw [List.all_eq_true]
       intro x hx
       obtain ⟨y, hy, rfl⟩ := List.mem_map.1 hx
       have := h4 y hy
       show (decide (0 ≤ y) && decide (y < t.size) && true) = true
       simp; omega
     rw [h5]
     have h6 : (wordV xs).ks.length = xs.length := by simp [wordV]
     have h7 : (wordV xs).n = 0 := rfl
     rw [h7]
     simp [h6]; omega)
   generalize t.size = z at *
   generalize t.kind = kd at *
   subst k7
   clear HIH HT HST hr k1 k2 k6
   unfold MadePost
   have CW := Lib.hid (fun W (h : DeckOk W b) => dword_any W b h z m (by omega) (by omega) (by omega) (by omega))
   have CR := Lib.hid (fun (xs : List Int) (h : xs.length ≤ 12) s W (hk : IB W W.heap.size s xs) => r6Word_any xs (by omega) s W hk)
   go_enter Tryz.func52, Tryz.ntmps52
   have B0 := HB.out _ (GD.refl HG0.out.2)
   have z0 := B0.2.1.cell 1
   clear B0
   go_wp2_with fail
   refine (CW.out _ HG0.out.2).mono ?_
   rintro e w6 ⟨s6, xs, rfl, hl6, hx6, hk6, hg6⟩
   obtain ⟨A6, n6, c6, rfl, -, -, -⟩ := hk6.form
   have HXS : Hid (loosP (d + 1) m t (wordV xs) = true) := Lib.hid (hP.out xs (by omega) hx6)
   have CR6 := Lib.hid (CR.out xs (by omega) _ w6 (hk6.keep (fun x hx => hx.2) (fun _ _ => rfl)))
   have HG6 := Lib.hid hg6
   clear hl6 hx6 hk6 hg6
   go_wp2_with fail
   refine CR6.out.mono ?_
   rintro e w7 ⟨s7, rfl, hk7, hg7⟩
   obtain ⟨A7, n7, c7, rfl, -, -, -⟩ := hk7.form
   obtain ⟨y1, y2, y3⟩ := HB.out _ (HG6.out.bw hg7)
   have HG7 := Lib.hid (HG0.out.trans (HG6.out.bw hg7))
   have HK7 := Lib.hid (hk7.keep (S' := fun c => w.heap.size + 1 + 1 ≤ c ∧ c < w7.heap.size) (fun c hc => ⟨by have := hc.1; have := (HB.out _ HG6.out).1; omega, hc.2⟩) (fun _ _ => rfl))
   have c0 := y3.cell 0
   have c1 := y3.cell 1
   have f0 := y3.frozen 0
   have f1 := y3.frozen 1
   have HBB := Lib.hid (blk_set (i := 1) (.slice A7 n7 c7) (blk_set (i := 0) (.int .i64 0) y3))
   clear y3 y2 hg7 hk7
   have hn0 : (wordV xs).n = 0 := rfl
   rw [hn0]
   go_wp2
   refine bodyPost_ret (results_cell_row (p := 6) (ty := 39) rfl _ _ (w.heap.size + 1) 39 _ (0, 0) _ rfl HBB.out Tryz.underlying39 rfl (by kernel_rfl)) rfl ?_
   have := out5 (x := 0) (s := .slice A7 n7 c7) (l := (wordV xs).ks) hbl HG7.out HK7.out
   exact ⟨wordV xs, _, rfl, HXS.out, this.1, this.2⟩
 by_cases k3 : t.kind = 3
 · rw [if_neg k1, if_neg (by omega), if_neg k7, if_pos k3] at hr
   simp only [Bool.and_eq_true, decide_eq_true_eq] at hr
   have hp8 : pn ≤ 8 := by rw [← lpn]; exact hr.1.2
   have hP : Hid (∀ l : List V, oneZ (loosP d m) t.parts l = true → loosP (d + 1) m t (.mk 0 l) = true) := Lib.hid (fun l h => by
     have h1 := oneZ_length h
     unfold loosP
     rw [if_neg k1, if_neg k2, if_neg k6, if_neg k7, if_pos k3]
     show ((0 : Int) == 0 && l.length == t.parts.length && oneZ (loosP d m) t.parts l) = true
     rw [h, h1]; simp)
   have HR8 := Lib.hid (fun p hp => List.all_eq_true.1 hr.2 p hp)
   have LPN := Lib.hid lpn
   generalize t.size = z at *
   generalize t.kind = kd at *
   subst k3
   clear hr k1 k2 k6 k7 lpn HB HG0
   obtain ⟨i0, hi, hz0, hz1, hz2⟩ := info_parts infoVal
   unfold MadePost
   have B0 := HST.out.box
   have b0 := B0.cell 0
   clear B0
   go_enter Tryz.func52, Tryz.ntmps52
   go_wp2_with fail
   go_loopw [8] (fun i wr => ∃ k : Nat, k ≤ pn ∧ i = .int .i64 k ∧ Hid (∃ sv l ss, LooI b wr w 3 z (.slice A1 rn c1) (.slice A2 pn c2) sv l ss ∧ l.length = k ∧ oneZ (loosP d m) (t.parts.take k) l = true)) (fun i _ => pn - (intOf i).toNat)
   case atStart => exact ⟨0, by omega, by go_num, Lib.hid ⟨_, [], [], HST.out, rfl, by simp [oneZ]⟩⟩
   case round =>
     obtain ⟨k, hk, rfl, HR⟩ := hrel
     obtain ⟨sv, l, ss, hI, hl, ho⟩ := HR.out
     have HI0 := Lib.hid hI
     have HO := Lib.hid ho
     obtain ⟨VA, vc, rfl, vb1, vb2⟩ := hI.mi.row.form
     have w2 := hI.mi.b2.lt
     have q0 := hI.box.cell 0
     have q3 := hI.box.cell 3
     have r1 := hI.mi.b2.cell 1
     have f1 := hI.mi.b2.frozen 1
     have HL := Lib.hid hl
     have hlb : l.length ≤ 12 := by omega
     clear HR hl
     by_cases hlt : k < pn
     · have e1 : k < t.parts.length := by rw [LPN.out]; exact hlt
       obtain ⟨ad, A', n', c', A'', n'', c'', rfl, hb, p0, p1, p2, p3, hpt⟩ := (HT.out.td hI.mi.gd).2.at_ e1
       have HTK : Hid (t.parts.take (k + 1) = t.parts.take k ++ [t.parts[k]]) := Lib.hid (List.take_succ_eq_append_getElem e1)
       have CP : Hid (∀ W, GD b wr W → Calls Tryz.prog 52 #[.pointer (some ⟨b, 0, none⟩), .agg #[.int .i64 t.parts[k].kind, .int .i64 t.parts[k].size, .slice A' n' c', .slice A'' n'' c''], .int .i64 m] W (MadePost W b (fun v => loosP d m t.parts[k] v = true))) := Lib.hid (fun W g => HIH.out m _ _ _ W hm (HR8.out _ (List.getElem_mem e1)) g.2 (hpt.td g))
       unfold MadePost at CP
       have ADB : Hid (ad.block ≠ b ∧ ad.block < wr.heap.size) := Lib.hid hb
       have dz : (0 : Int) ≤ (k : Int) := by omega
       have dz1 : (k : Int) < (pn : Int) := by omega
       clear hI ho hpt hb
       generalize t.parts[k] = tk at *
       generalize tk.kind = kk at *
       generalize tk.size = kz at *
       go_wp2_with fail
       have KS : Hid (∀ W', GD b wr.drew W' → w.heap.size + 1 + 1 < W'.heap.size ∧ W'.cell? ⟨w.heap.size + 1 + 1, 1, none⟩ = some (.slice VA l.length vc) ∧ LooI b W' w 3 z (.slice A1 rn c1) (.slice (some ad) pn c2) (.slice VA l.length vc) l ss) := Lib.hid (fun W' g => by
         have h2 := HI0.out.keep hbl g.ofDrew
         exact ⟨h2.mi.b2.lt, h2.mi.b2.cell 1, h2⟩)
       have CP2 := Lib.hid (CP.out wr.drew (GD.refl HI0.out.mi.gd.2).drew)
       have hsz9 : wr.drew.heap.size = wr.heap.size := rfl
       go_region_law (first
         | (refine step_append_any _ rfl (.tmp 53) (.tmp 62) 31 rfl (w.heap.size + 1 + 1 + 1) 39 i0 _ 2 32 Tryz.underlying31 hi hz0 hz1 hz2 rfl (by decide) (.slice VA l.length vc) l.length (vCells l ss) (by simp [Act.eval, Act.put]) (HI9.out.mi.row.own.alloc (.cells #[.int .i64 yn, .slice A9 n9 c9] 39)) (w9.heap.size + 1) (some ⟨w9.heap.size, 0, none⟩) 1 1 [.int .i64 yn, .slice A9 n9 c9] (by simp [Act.eval, Act.put]) (reads_new2 w9 _ _ _) (one2 _ _ _ _) (by unfold maxLen; omega) (by omega) (by simp <;> omega) ?_; intro v7 w10 hown7 hgr7 hl7; obtain ⟨A7, c7, rfl⟩ := own_form hown7; have hne7 : some (w.heap.size + 1 + 1) ≠ (Value.slice VA l.length vc).ownBlock := (fun e => by have := (HI9.out.mi.row.own.lt _ e.symm).1; omega); have k7 := (HI9.out.mi.b2.alloc (.cells #[.int .i64 yn, .slice A9 n9 c9] 39)).grown hgr7 hne7; have y7 := k7.cell 1; have z7 := k7.frozen 1; have l7 := k7.lt; have HO7 := Lib.hid hown7; have HG7 := Lib.hid hgr7; have HL7 := Lib.hid hl7; clear hown7 hgr7 hl7 k7 hne7)
         | (go_simp; go_at_call 52; refine CP2.out.mono ?_; rintro e w9 ⟨y, s9, rfl, hy9, hk9, hg9⟩; obtain ⟨A9, n9, c9, rfl, ln9, _, _⟩ := hk9.form; obtain ⟨yn, hyn⟩ : (∃ yn, y.n = yn) := ⟨_, rfl⟩; rw [hyn]; have HYN := Lib.hid hyn; have HY9 := Lib.hid hy9; have HK9 := Lib.hid hk9; obtain ⟨u0, u1, u2⟩ := KS.out _ hg9; have HI9 := Lib.hid u2; have HG9 := Lib.hid hg9; have hs9 := hg9.size; clear hyn hy9 hk9 hg9 ln9 u2))
       all_goals
         go_wp2
         go_roundw
         case rel =>
           refine ⟨k + 1, by omega, by go_num, Lib.hid ⟨.slice A7 (l.length + 1) c7, l ++ [y], ss ++ [.slice A9 n9 c9], ?_, by have := HL.out; simp; omega, by rw [HTK.out]; exact oneZ_snoc HO.out HY9.out⟩⟩
           have hI9 := HI9.out
           have g1 : GD b w9 (w9.alloc (.cells #[.int .i64 yn, .slice A9 n9 c9] 39)) := (GD.refl hI9.mi.gd.2).bw ((Bw.refl _).alloc _)
           refine (hI9.keep hbl g1).push hbl (y := y) (s := .slice A9 n9 c9) ?_ (by rw [HYN.out]; exact HO7.out) HG7.out HL7.out
           refine HK9.out.keep (fun c hc => ⟨by have := hc.1; have := HI0.out.mi.b2.lt; omega, by simp; have := hc.2; omega, fun e => ?_⟩) (fun p hp => World.cell?_alloc_lt w9 _ p hp.2)
           have h3 := (HI0.out.mi.row.own.lt c e).2
           have := hc.1
           omega
         case measure => simp [intOf]; omega
     · obtain rfl : k = pn := by omega
       have s0 := hI.mi.b2.cell 0
       have u0 := hI.mi.b1.cell 0
       have u1 := hI.mi.b1.cell 1
       have g0 := hI.mi.b1.frozen 0
       have g1 := hI.mi.b1.frozen 1
       have HBB := Lib.hid (blk_set (i := 1) (.slice VA l.length vc) (blk_set (i := 0) (.int .i64 0) hI.mi.b1))
       have HP := Lib.hid (hP.out l (by rw [List.take_of_length_le (by rw [LPN.out]; omega)] at ho; exact ho))
       clear hI ho hP
       go_wp2
       refine bodyPost_ret (results_cell_row (p := 6) (ty := 39) rfl _ _ (w.heap.size + 1) 39 _ (0, 0) _ rfl HBB.out Tryz.underlying39 rfl (by kernel_rfl)) rfl ?_
       have := HI0.out.mi.out hbl
       exact ⟨.mk 0 l, _, rfl, HP.out, this.1, this.2⟩
 · rw [if_neg k1, if_neg (by omega), if_neg k7, if_neg k3] at hr
   have k45 : t.kind = 4 ∨ t.kind = 5 := by
     by_cases k : t.kind = 4 ∨ t.kind = 5
     · exact k
     · rw [if_neg k] at hr; simp at hr
   rw [if_pos k45] at hr
   simp only [Bool.and_eq_true, beq_iff_eq] at hr
   have hpn : pn = 1 := by rw [← lpn]; exact hr.1.2
   have hP : Hid (∀ l : List V, l.length ≤ m → l.all (loosP d (m - 1) t.p0) = true → loosP (d + 1) m t (.mk 0 l) = true) := Lib.hid (fun l h h2 => by
     unfold loosP
     rw [if_neg k1, if_neg k2, if_neg k6, if_neg k7, if_neg k3]
     show ((0 : Int) == 0 && decide (l.length ≤ m) && l.all (loosP d (m - 1) t.p0)) = true
     rw [h2]; simp [h])
   have HR8 : Hid (rightP d t.p0 = true) := Lib.hid (List.all_eq_true.1 hr.2 _ (p0_mem hr.1.2))
   have e1 : 0 < t.parts.length := by rw [hr.1.2]; exact Nat.one_pos
   have hp0 : Hid (t.parts[0] = t.p0) := Lib.hid (p0_get e1)
   subst hpn
   generalize t.size = z at *
   generalize t.kind = kd at *
   have d1 : (kd == 1) = false := by simpa using k1
   have d2 : (kd == 2) = false := by simpa using k2
   have d3 : (kd == 3) = false := by simpa using k3
   have d6 : (kd == 6) = false := by simpa using k6
   have d7 : (kd == 7) = false := by simpa using k7
   clear hr k45 lpn HB
   obtain ⟨i0, hi, hz0, hz1, hz2⟩ := info_parts infoVal
   unfold MadePost
   have B0 := HST.out.box
   have b0 := B0.cell 0
   clear B0
   have CN2 := Lib.hid (fun W (h : DeckOk W b) => CN.out W h ((m : Int) + 1) (by omega) (by omega))
   go_enter Tryz.func52, Tryz.ntmps52
   go_wp2_with fail
   have CN3 := Lib.hid (CN2.out _ HST.out.mi.gd.2)
   refine CN3.out.mono ?_
   rintro e w6 ⟨r, rfl, hr0, hr1, hd6, hg6⟩
   have HST6 := Lib.hid (HST.out.keep hbl ⟨hg6, hd6⟩)
   obtain ⟨m0, rfl⟩ : ∃ m0 : Nat, r = (m0 : Int) := ⟨r.toNat, by omega⟩
   have hm0 : m0 ≤ m := by omega
   clear hr0 hr1 hd6 hg6 HST HG0 CN3 CN2 CN
   go_wp2_with fail
   go_loopw [9] (fun i wr => ∃ k : Nat, k ≤ m ∧ i = .int .i64 k ∧ Hid (∃ sv l ss, LooI b wr w kd z (.slice A1 rn c1) (.slice A2 1 c2) sv l ss ∧ l.length + k ≤ m ∧ l.all (loosP d (m - 1) t.p0) = true)) (fun i _ => (intOf i).toNat)
   case atStart => exact ⟨m0, hm0, by go_num, Lib.hid ⟨_, [], [], HST6.out, by simpa using hm0, rfl⟩⟩
   case round =>
     obtain ⟨k, hk, rfl, HR⟩ := hrel
     obtain ⟨sv, l, ss, hI, hl, ho⟩ := HR.out
     have HI0 := Lib.hid hI
     have HO := Lib.hid ho
     obtain ⟨VA, vc, rfl, vb1, vb2⟩ := hI.mi.row.form
     have w2 := hI.mi.b2.lt
     have q0 := hI.box.cell 0
     have q3 := hI.box.cell 3
     have r1 := hI.mi.b2.cell 1
     have f1 := hI.mi.b2.frozen 1
     have HL := Lib.hid hl
     have hlb : l.length ≤ 12 := by omega
     clear HR hl
     by_cases hk0 : 0 < k
     · obtain ⟨ad, A', n', c', A'', n'', c'', rfl, hb, p0, p1, p2, p3, hpt⟩ := (HT.out.td hI.mi.gd).2.at_ e1
       have e0 : ad.add (0 * 4) = ad := by simp [Addr.add]
       rw [e0] at p0 p1 p2 p3
       rw [hp0.out] at p0 p1 hpt
       have CP : Hid (∀ W, GD b wr W → Calls Tryz.prog 52 #[.pointer (some ⟨b, 0, none⟩), .agg #[.int .i64 t.p0.kind, .int .i64 t.p0.size, .slice A' n' c', .slice A'' n'' c''], .int .i64 ((m - 1 : Nat) : Int)] W (MadePost W b (fun v => loosP d (m - 1) t.p0 v = true))) := Lib.hid (fun W g => HIH.out (m - 1) _ _ _ W (by omega) HR8.out g.2 (hpt.td g))
       unfold MadePost at CP
       have ADB : Hid (ad.block ≠ b ∧ ad.block < wr.heap.size) := Lib.hid hb
       have dmx : max 0 ((m : Int) - 1) = ((m - 1 : Nat) : Int) := by omega
       have dmw : IntKind.i64.wrap ((m : Int) - 1) = (m : Int) - 1 := wI64 _ (by omega) (by omega)
       clear hI ho hpt hb e0 hp0 e1
       generalize t.p0 = tk at *
       generalize tk.kind = kk at *
       generalize tk.size = kz at *
       go_wp2_with fail
       have KS : Hid (∀ W', GD b wr.drew W' → w.heap.size + 1 + 1 < W'.heap.size ∧ W'.cell? ⟨w.heap.size + 1 + 1, 1, none⟩ = some (.slice VA l.length vc) ∧ LooI b W' w kd z (.slice A1 rn c1) (.slice (some ad) 1 c2) (.slice VA l.length vc) l ss) := Lib.hid (fun W' g => by
         have h2 := HI0.out.keep hbl g.ofDrew
         exact ⟨h2.mi.b2.lt, h2.mi.b2.cell 1, h2⟩)
       have CP2 := Lib.hid (CP.out wr.drew (GD.refl HI0.out.mi.gd.2).drew)
       have hsz9 : wr.drew.heap.size = wr.heap.size := rfl
       go_region_law (first
         | (refine step_append_any _ rfl (.tmp 75) (.tmp 85) 31 rfl (w.heap.size + 1 + 1 + 1) 39 i0 _ 2 32 Tryz.underlying31 hi hz0 hz1 hz2 rfl (by decide) (.slice VA l.length vc) l.length (vCells l ss) (by simp [Act.eval, Act.put]) (HI9.out.mi.row.own.alloc (.cells #[.int .i64 yn, .slice A9 n9 c9] 39)) (w9.heap.size + 1) (some ⟨w9.heap.size, 0, none⟩) 1 1 [.int .i64 yn, .slice A9 n9 c9] (by simp [Act.eval, Act.put]) (reads_new2 w9 _ _ _) (one2 _ _ _ _) (by unfold maxLen; omega) (by omega) (by simp <;> omega) ?_; intro v7 w10 hown7 hgr7 hl7; obtain ⟨A7, c7, rfl⟩ := own_form hown7; have hne7 : some (w.heap.size + 1 + 1) ≠ (Value.slice VA l.length vc).ownBlock := (fun e => by have := (HI9.out.mi.row.own.lt _ e.symm).1; omega); have k7 := (HI9.out.mi.b2.alloc (.cells #[.int .i64 yn, .slice A9 n9 c9] 39)).grown hgr7 hne7; have y7 := k7.cell 1; have z7 := k7.frozen 1; have l7 := k7.lt; have HO7 := Lib.hid hown7; have HG7 := Lib.hid hgr7; have HL7 := Lib.hid hl7; clear hown7 hgr7 hl7 k7 hne7)
         | (go_simp; go_at_call 52; refine CP2.out.mono ?_; rintro e w9 ⟨y, s9, rfl, hy9, hk9, hg9⟩; obtain ⟨A9, n9, c9, rfl, ln9, _, _⟩ := hk9.form; obtain ⟨yn, hyn⟩ : (∃ yn, y.n = yn) := ⟨_, rfl⟩; rw [hyn]; have HYN := Lib.hid hyn; have HY9 := Lib.hid hy9; have HK9 := Lib.hid hk9; obtain ⟨u0, u1, u2⟩ := KS.out _ hg9; have HI9 := Lib.hid u2; have HG9 := Lib.hid hg9; have hs9 := hg9.size; clear hyn hy9 hk9 hg9 ln9 u2))
       all_goals
         go_wp2
         go_roundw
         case rel =>
           refine ⟨k - 1, by omega, by go_num, Lib.hid ⟨.slice A7 (l.length + 1) c7, l ++ [y], ss ++ [.slice A9 n9 c9], ?_, by have := HL.out; simp; omega, by rw [List.all_append, HO.out]; simp [HY9.out]⟩⟩
           have hI9 := HI9.out
           have g1 : GD b w9 (w9.alloc (.cells #[.int .i64 yn, .slice A9 n9 c9] 39)) := (GD.refl hI9.mi.gd.2).bw ((Bw.refl _).alloc _)
           refine (hI9.keep hbl g1).push hbl (y := y) (s := .slice A9 n9 c9) ?_ (by rw [HYN.out]; exact HO7.out) HG7.out HL7.out
           refine HK9.out.keep (fun c hc => ⟨by have := hc.1; have := HI0.out.mi.b2.lt; omega, by simp; have := hc.2; omega, fun e => ?_⟩) (fun p hp => World.cell?_alloc_lt w9 _ p hp.2)
           have h3 := (HI0.out.mi.row.own.lt c e).2
           have := hc.1
           omega
         case measure => simp [intOf]; omega
     · obtain rfl : k = 0 := by omega
       have s0 := hI.mi.b2.cell 0
       have u0 := hI.mi.b1.cell 0
       have u1 := hI.mi.b1.cell 1
       have g0 := hI.mi.b1.frozen 0
       have g1 := hI.mi.b1.frozen 1
       have HBB := Lib.hid (blk_set (i := 1) (.slice VA l.length vc) (blk_set (i := 0) (.int .i64 0) hI.mi.b1))
       have HP := Lib.hid (hP.out l (by have := HL.out; omega) ho)
       clear hI ho hP
       go_wp2
       refine bodyPost_ret (results_cell_row (p := 6) (ty := 39) rfl _ _ (w.heap.size + 1) 39 _ (0, 0) _ rfl HBB.out Tryz.underlying39 rfl (by kernel_rfl)) rfl ?_
       have := HI0.out.mi.out hbl
       exact ⟨.mk 0 l, _, rfl, HP.out, this.1, this.2⟩
end Go.Proofs.YtbmheekaclmibaaGreat
