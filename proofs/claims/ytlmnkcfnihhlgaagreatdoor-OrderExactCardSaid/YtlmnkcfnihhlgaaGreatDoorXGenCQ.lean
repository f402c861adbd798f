/- Part of a proof of orderExact_card. -/
import Derived.Test.YtlmnkcfnihhlgaaGreatDoorXRefGQ
set_option maxRecDepth 100000
set_option maxHeartbeats 16000000
namespace Go.Proofs.YtlmnkcfnihhlgaaGreatDoor
open Go.RowKit
set_option linter.unusedSimpArgs false
set_option linter.unusedVariables false
def leafV (x : Int) : V := .mk x []
def wordV (xs : List Int) : V := .mk 0 (xs.map leafV)
structure WordI (W w : World) (sv : Value) (l : List V) (ss : List Value) : Prop where
 b1 : Blk W w.heap.size 28 #[.int .i64 0, .slice none 0 0]
 b2 : Blk W (w.heap.size + 1) 28 #[.int .i64 0, sv]
 row : VRow W 28 (w.heap.size + 1 + 1) (w.heap.size + 1 + 1) sv l ss
 bw : Bw w W
theorem WordI.keep {W W' w : World} {sv : Value} {l : List V} {ss : List Value} (h : WordI W w sv l ss) (g : Bw W W') : WordI W' w sv l ss :=
 ⟨h.b1.below g.b h.b1.lt, h.b2.below g.b h.b2.lt, h.row.bw g, h.bw.trans g⟩
theorem WordI.start (w : World) : WordI ((w.alloc (.cells #[.int .i64 0, .slice none 0 0] 28)).alloc (.cells #[.int .i64 0, .slice none 0 0] 28)) w (.slice none 0 0) [] [] :=
 ⟨(Blk.new _ _ _).alloc _, by have := Blk.new (w.alloc (.cells #[.int .i64 0, .slice none 0 0] 28)) 28 #[.int .i64 0, .slice none 0 0]; simpa only [World.size_alloc] using this, VRow.nil _ _ _ _, ((Bw.refl _).alloc _).alloc _⟩
theorem WordI.push {W w w7 : World} {sv v7 : Value} {l : List V} {ss : List Value} (h : WordI W w sv l ss) {y : Int} (hown : w7.ownsRow (w.heap.size + 1 + 1) 28 2 v7 (l.length + 1) (vCells l ss ++ [.int .i64 y, .slice none 0 0])) (hg : W.grownBy w7 sv.ownBlock) (hv : v7.ownBlock = sv.ownBlock ∨ v7.ownBlock = some W.heap.size) :
   WordI (w7.setCell ⟨w.heap.size + 1, 1, none⟩ v7) w v7 (l ++ [leafV y]) (ss ++ [.slice none 0 0]) := by
 have hr : ∀ r, sv.ownBlock = some r → w.heap.size + 1 + 1 ≤ r := fun r e => (h.row.own.lt r e).1
 have ne : ∀ r, r < w.heap.size + 1 + 1 → some r ≠ sv.ownBlock := fun r hr' e => by have := hr r e.symm; omega
 have hrow := h.row.push (x := leafV y) (s := .slice none 0 0) (KAt.nil 0 none (Nat.zero_le _)) hown hg hv
 have e1 := grownBy_setCell (p := ⟨w.heap.size + 1, 1, none⟩) (World.grownBy.refl w7 (some (w.heap.size + 1))) (.inl rfl) v7
 have hl := h.b2.lt
 refine ⟨(h.b1.grown hg (ne _ (by omega))).far (by dsimp only; omega) _, (h.b2.grown hg (ne _ (by omega))).set_ 1 v7, hrow.keep e1 (fun r e => by
   injection e with e; subst e
   exact ⟨fun e => by have := (hown.lt _ e).1; omega, by omega⟩), ?_⟩
 have h1 : Below w.heap.size w w7 := below_own (h.bw.b) (own_base h.row.own (by omega)) hg h.bw.size
 exact Below.setCell h1 (by dsimp only; omega) v7
theorem WordI.out {W w : World} {sv : Value} {l : List V} {ss : List Value} (h : WordI W w sv l ss) :
   KAt ((W.setCell ⟨w.heap.size, 0, none⟩ (.int .i64 0)).setCell ⟨w.heap.size, 1, none⟩ sv) (fun b => w.heap.size ≤ b ∧ b < ((W.setCell ⟨w.heap.size, 0, none⟩ (.int .i64 0)).setCell ⟨w.heap.size, 1, none⟩ sv).heap.size) sv l ∧
   Bw w ((W.setCell ⟨w.heap.size, 0, none⟩ (.int .i64 0)).setCell ⟨w.heap.size, 1, none⟩ sv) :=
 ⟨(h.row.kat (Nat.le_refl _)).keep (fun b hb => ⟨by have := hb.1; omega, by have := hb.2; simp [World.setCell]; exact this⟩) (fun p hp => by
   have hp1 := hp.1
   rw [World.cell?_setCell_other _ _ _ _ (by intro e; subst e; simp at hp1; omega), World.cell?_setCell_other _ _ _ _ (by intro e; subst e; simp at hp1; omega)]),
  (h.bw.setCell (p := ⟨w.heap.size, 0, none⟩) (by dsimp only; omega) _).setCell (p := ⟨w.heap.size, 1, none⟩) (by dsimp only; omega) _⟩
theorem r6Word_any (xs : List Int) (h10 : xs.length ≤ 1000000) (s : Value) (w : World) (h : IB w w.heap.size s xs) :
   Calls Tryz.prog 64 #[s] w (ValPost w (wordV xs)) := by
 obtain ⟨A, n, c, rfl, ln, bn, mn⟩ := h.form
 unfold maxLen at mn
 rw [ln] at h10
 have HK := Lib.hid h
 have LN := Lib.hid ln
 unfold ValPost
 have HST := Lib.hid (WordI.start w)
 clear h ln
 obtain ⟨i0, hi, hz0, hz1, hz2⟩ := info_parts infoVal
 show Calls _ _ _ _ (fun e w' => ∃ s, e = .returned (.agg #[.int .i64 0, s]) ∧ KAt w' (fun b => w.heap.size ≤ b ∧ b < w'.heap.size) s (xs.map leafV) ∧ Bw w w')
 go_enter Tryz.func64, Tryz.ntmps64
 go_wp2
 go_loopw [4] (fun i wr => ∃ k : Nat, k ≤ n ∧ i = .int .i64 k ∧ Hid (∃ sv ss, WordI wr w sv ((xs.map leafV).take k) ss)) (fun i _ => n - (intOf i).toNat)
 case atStart => exact ⟨0, by omega, by go_num, Lib.hid ⟨_, [], HST.out⟩⟩
 case round =>
   obtain ⟨k, hk, rfl, HR⟩ := hrel
   obtain ⟨sv, ss, hI⟩ := HR.out
   have HI0 := Lib.hid hI
   obtain ⟨VA, vc, rfl, vb1, vb2⟩ := hI.row.form
   have hlk : ((xs.map leafV).take k).length = k := by rw [List.length_take, List.length_map, LN.out]; omega
   have w2 := hI.b2.lt
   have q2 := hI.b2.cell 0
   have q3 := hI.b2.cell 1
   have f3 := hI.b2.frozen 1
   rw [hlk] at q3 HI0 vb1
   by_cases hlt : k < n
   · have e1 : k < xs.length := by rw [LN.out]; exact hlt
     obtain ⟨ad, rfl, hb, q0⟩ := (HK.out.bw hI.bw).at_ e1
     have HT : Hid ((xs.map leafV).take (k + 1) = (xs.map leafV).take k ++ [leafV xs[k]]) := Lib.hid (by rw [List.take_succ_eq_append_getElem (by simpa using e1)]; simp)
     clear hI HR hlk
     generalize xs[k] = y at *
     go_wp2_with fail
     have KS : Hid (∀ W', Bw wr.drew W' → WordI W' w (.slice VA k vc) ((xs.map leafV).take k) ss) := Lib.hid (fun W' g => HI0.out.keep ((Bw.refl _).drew.trans g))
     have HLK : Hid (((xs.map leafV).take k).length = k) := Lib.hid (by rw [List.length_take, List.length_map, LN.out]; omega)
     have HI6 := Lib.hid (KS.out wr.drew (Bw.refl _))
     have HQ0 := Lib.hid q0
     have hsz9 : wr.drew.heap.size = wr.heap.size := rfl
     have dz : (0 : Int) ≤ (k : Int) := by omega
     have dz1 : (k : Int) < (n : Int) := by omega
     go_region_law (refine step_append_any _ rfl (.tmp 12) (.tmp 18) 26 rfl (w.heap.size + 1 + 1) 28 i0 _ 2 32 Tryz.underlying26 hi hz0 hz1 hz2 rfl (by decide) (.slice VA k vc) k (vCells ((xs.map leafV).take k) ss) (by simp [Act.eval, Act.put]) (by have := (HI6.out.row.own.alloc (.cells #[.int .i64 y, .slice none 0 0] 28)); rwa [HLK.out] at this) (wr.heap.size + 1) (some ⟨wr.heap.size, 0, none⟩) 1 1 [.int .i64 y, .slice none 0 0] (by simp [Act.eval, Act.put]) (reads_new2 wr.drew 28 _ _) (one2 _ _ _ _) (by unfold maxLen; omega) (by omega) (by simp <;> omega) ?_; intro v7 w7 hown7 hgr7 hl7; obtain ⟨A7, c7, rfl⟩ := own_form hown7; have hne7 : some (w.heap.size + 1) ≠ (Value.slice VA k vc).ownBlock := (fun e => by have := (HI6.out.row.own.lt _ e.symm).1; omega); have k7 := (HI6.out.b2.alloc (.cells #[.int .i64 y, .slice none 0 0] 28)).grown hgr7 hne7; have y7 := k7.cell 1; have z7 := k7.frozen 1; have l7 := k7.lt; have HO7 := Lib.hid hown7; have HG7 := Lib.hid hgr7; have HL7 := Lib.hid hl7; clear hown7 hgr7 hl7 k7 hne7)
     all_goals
       go_wp2
       go_roundw
       case rel =>
         refine ⟨k + 1, by omega, by go_num, Lib.hid ⟨.slice A7 (k + 1) c7, ss ++ [.slice none 0 0], ?_⟩⟩
         rw [HT.out]
         have hI6 := HI6.out
         exact (hI6.keep ((Bw.refl wr.drew).alloc (.cells #[.int .i64 y, .slice none 0 0] 28))).push (by rw [HLK.out]; exact HO7.out) HG7.out HL7.out
       case measure => simp [intOf]; omega
   · obtain rfl : k = n := by omega
     have r0 := hI.b1.cell 0
     have r1 := hI.b1.cell 1
     have g0 := hI.b1.frozen 0
     have g1 := hI.b1.frozen 1
     have HBB := Lib.hid (blk_set (i := 1) (.slice VA k vc) (blk_set (i := 0) (.int .i64 0) hI.b1))
     clear hI HR
     go_wp2
     refine bodyPost_ret (results_cell_row (p := 2) (ty := 28) rfl _ _ w.heap.size 28 _ (0, 0) _ rfl HBB.out Tryz.underlying28 rfl (by kernel_rfl)) rfl ?_
     have := HI0.out.out
     rw [List.take_of_length_le (by rw [List.length_map, LN.out]; omega)] at this
     exact ⟨_, rfl, this.1, this.2⟩
theorem dtype_any (b : Nat) (flat : Bool) : ∀ (n : Nat), n ≤ 9 → ∀ (w : World), DeckOk w b → Calls Tryz.prog 14 #[.pointer (some ⟨b, 0, none⟩), .int .i64 ((n : Int) + 1), .bool flat] w (TypePost w b (n + 1))
 | 0, _, w, hd => dtype_step b 0 (by omega) flat (fun h => absurd h (by omega)) w hd
 | n + 1, hn, w, hd => by
   refine dtype_step b (n + 1) (by omega) flat (fun _ W hW => ?_) w hd
   have := dtype_any b flat n (by omega) W hW
   simpa using this
abbrev TD (b : Nat) (w : World) : Nat → Prop := fun x => x ≠ b ∧ x < w.heap.size
theorem TAt.td {b : Nat} {w w' : World} {r p : Value} {t : T} (h : TAt w (TD b w) r p t) (g : GD b w w') : TAt w' (TD b w') r p t := h.keep (fun x hx => ⟨hx.1, Nat.lt_of_lt_of_le hx.2 g.size⟩) (fun q hq => g.cell hq.2 hq.1)
theorem PAt.td {b : Nat} {w w' : World} {p : Value} {l : List T} (h : PAt w (TD b w) p l) (g : GD b w w') : PAt w' (TD b w') p l := h.keep (fun x hx => ⟨hx.1, Nat.lt_of_lt_of_le hx.2 g.size⟩) (fun q hq => g.cell hq.2 hq.1)
structure LooI (b : Nat) (W w : World) (kd z : Int) (r p sv : Value) (l : List V) (ss : List Value) : Prop where
 box : Blk W w.heap.size 25 #[.int .i64 kd, .int .i64 z, r, p]
 mi : MakeI b W w 28 (w.heap.size + 1) (w.heap.size + 1 + 1) 0 sv l ss
section
variable {b : Nat} {W W' w w7 : World} {kd z : Int} {r p sv v7 : Value} {l : List V} {ss : List Value}
theorem LooI.keep (h : LooI b W w kd z r p sv l ss) (hb : b < w.heap.size) (g : GD b W W') : LooI b W' w kd z r p sv l ss :=
 ⟨g.blk h.box (by omega), h.mi.keep hb g⟩
theorem LooI.push (h : LooI b W w kd z r p sv l ss) (hb : b < w.heap.size) {y : V} {s : Value}
   (hs : KAt W (fun c => w.heap.size + 1 + 1 + 1 ≤ c ∧ c < W.heap.size ∧ sv.ownBlock ≠ some c) s y.ks) (hown : w7.ownsRow (w.heap.size + 1 + 1 + 1) 28 2 v7 (l.length + 1) (vCells l ss ++ [.int .i64 y.n, s])) (hg : W.grownBy w7 sv.ownBlock) (hv : v7.ownBlock = sv.ownBlock ∨ v7.ownBlock = some W.heap.size) :
   LooI b (w7.setCell ⟨w.heap.size + 1 + 1, 1, none⟩ v7) w kd z r p v7 (l ++ [y]) (ss ++ [s]) := by
 refine ⟨?_, h.mi.push hb hs hown hg hv⟩
 have hr : ∀ r, sv.ownBlock = some r → w.heap.size + 1 + 1 + 1 ≤ r := fun r e => (h.mi.row.own.lt r e).1
 exact (h.box.grown hg (fun e => by have := hr _ e.symm; omega)).far (by dsimp only; omega) _
end
theorem LooI.start {b : Nat} {w W : World} {kd z : Int} {r p : Value} (hd : DeckOk w b) :
   LooI b (((w.alloc (.cells #[.int .i64 kd, .int .i64 z, r, p] 25)).alloc (.cells #[.int .i64 0, .slice none 0 0] 28)).alloc (.cells #[.int .i64 0, .slice none 0 0] 28)) w kd z r p (.slice none 0 0) [] [] := by
 have h1 := Blk.new w 25 #[.int .i64 kd, .int .i64 z, r, p]
 have h2 := Blk.new (w.alloc (.cells #[.int .i64 kd, .int .i64 z, r, p] 25)) 28 #[.int .i64 0, .slice none 0 0]
 have h3 := Blk.new ((w.alloc (.cells #[.int .i64 kd, .int .i64 z, r, p] 25)).alloc (.cells #[.int .i64 0, .slice none 0 0] 28)) 28 #[.int .i64 0, .slice none 0 0]
 refine ⟨(h1.alloc _).alloc _, ?_⟩
 rw [World.size_alloc] at h2
 rw [World.size_alloc, World.size_alloc] at h3
 exact ⟨by omega, by omega, h2.alloc _, h3, VRow.nil _ _ _ _, ((GD.refl hd).bw (((Bw.refl _).alloc _).alloc _)).bw ((Bw.refl _).alloc _)⟩
theorem out5 {w W : World} {b : Nat} {x : Int} {s : Value} {l : List V} (hb : b < w.heap.size) (hg : GD b w W) (h : KAt W (fun c => w.heap.size + 1 + 1 ≤ c ∧ c < W.heap.size) s l) :
   KAt ((W.setCell ⟨w.heap.size + 1, 0, none⟩ (.int .i64 x)).setCell ⟨w.heap.size + 1, 1, none⟩ s) (FB w ((W.setCell ⟨w.heap.size + 1, 0, none⟩ (.int .i64 x)).setCell ⟨w.heap.size + 1, 1, none⟩ s)) s l ∧ GD b w ((W.setCell ⟨w.heap.size + 1, 0, none⟩ (.int .i64 x)).setCell ⟨w.heap.size + 1, 1, none⟩ s) := by
 have e1 := grownBy_setCell (p := ⟨w.heap.size + 1, 1, none⟩) (grownBy_setCell (p := ⟨w.heap.size + 1, 0, none⟩) (World.grownBy.refl W (some (w.heap.size + 1))) (.inl rfl) (.int .i64 x)) (.inl rfl) s
 refine ⟨h.keep (fun c hc => ⟨by have := hc.1; omega, by have := hc.2; simp [World.setCell]; exact this⟩) (fun q hq => ?_), hg.own e1 (fun r e => by injection e with e; omega) hb⟩
 exact World.cell?_of_block (e1.block q.block hq.2 (fun e => by injection e with e; have := hq.1; omega))
theorem oneZ_snoc {f : T → V → Bool} {p : T} {v : V} : ∀ {ps : List T} {vs : List V}, oneZ f ps vs = true → f p v = true → oneZ f (ps ++ [p]) (vs ++ [v]) = true
 | [], [], _, h => by simp [oneZ, h]
 | q :: ps, u :: vs, h, h2 => by
   simp only [oneZ, Bool.and_eq_true] at h
   simp only [List.cons_append, oneZ, Bool.and_eq_true]
   exact ⟨h.1, oneZ_snoc h.2 h2⟩
 | [], _ :: _, h, _ => by simp [oneZ] at h
 | _ :: _, [], h, _ => by simp [oneZ] at h
theorem tvb2 {b : Nat} {w W : World} {kd z : Int} {r p : Value} (hb : b < w.heap.size) (h : GD b ((w.alloc (.cells #[.int .i64 kd, .int .i64 z, r, p] 25)).alloc (.cells #[.int .i64 0, .slice none 0 0] 28)) W) :
   w.heap.size + 2 ≤ W.heap.size ∧ Blk W w.heap.size 25 #[.int .i64 kd, .int .i64 z, r, p] ∧ Blk W (w.heap.size + 1) 28 #[.int .i64 0, .slice none 0 0] := by
 have h1 := Blk.new w 25 #[.int .i64 kd, .int .i64 z, r, p]
 have h2 := Blk.new (w.alloc (.cells #[.int .i64 kd, .int .i64 z, r, p] 25)) 28 #[.int .i64 0, .slice none 0 0]
 rw [World.size_alloc] at h2
 exact ⟨by have := h.size; simp at this; omega, h.blk (h1.alloc _) (by omega), h.blk h2 (by omega)⟩

theorem dloose_step (b d : Nat) (t : T) (ht : rightP (d + 1) t = true) (m : Nat) (hm : m ≤ 12) (rv pv : Value) (w : World) (hd : DeckOk w b) (hT : TAt w (TD b w) rv pv t)
   (ih : ∀ (m' : Nat) (t' : T) (rv' pv' : Value) (W : World), m' ≤ 12 → rightP d t' = true → DeckOk W b → TAt W (TD b W) rv' pv' t' → Calls Tryz.prog 39 #[.pointer (some ⟨b, 0, none⟩), .agg #[.int .i64 t'.kind, .int .i64 t'.size, rv', pv'], .int .i64 m'] W (MadePost W b (fun v => loosP d m' t' v = true))) :
   Calls Tryz.prog 39 #[.pointer (some ⟨b, 0, none⟩), .agg #[.int .i64 t.kind, .int .i64 t.size, rv, pv], .int .i64 m] w (MadePost w b (fun v => loosP (d + 1) m t v = true)) := by
 have hbl := hd.lt
 obtain ⟨A1, rn, c1, rfl, _, _⟩ := hT.1.form'
 obtain ⟨A2, pn, c2, rfl, lpn, _, _⟩ := hT.2.form
 have HIH := Lib.hid ih
 have HD := Lib.hid hd
 have HT := Lib.hid hT
 have HG0 : Hid (GD b w ((w.alloc (.cells #[.int .i64 t.kind, .int .i64 t.size, .slice A1 rn c1, .slice A2 pn c2] 25)).alloc (.cells #[.int .i64 0, .slice none 0 0] 28))) := Lib.hid ((GD.refl hd).bw (((Bw.refl _).alloc _).alloc _))
 have HB : Hid (∀ W, GD b ((w.alloc (.cells #[.int .i64 t.kind, .int .i64 t.size, .slice A1 rn c1, .slice A2 pn c2] 25)).alloc (.cells #[.int .i64 0, .slice none 0 0] 28)) W → _) := Lib.hid (fun W h => tvb2 hbl h)
 have HST := Lib.hid (LooI.start (w := w) (W := w) (kd := t.kind) (z := t.size) (r := .slice A1 rn c1) (p := .slice A2 pn c2) hd)
 have CN := Lib.hid (fun W (h : DeckOk W b) (m : Int) (h1 : 1 ≤ m) (h2 : m < 100) => next_any W b h m h1 (by omega))
 simp only [rightP, Bool.and_eq_true] at ht
 have hr := ht.2
 clear hd hT ih ht
 by_cases k1 : t.kind = 1
 · have hP : Hid (∀ r : Int, 0 ≤ r → r < 4 → loosP (d + 1) m t (.mk r []) = true) := Lib.hid (fun r h0 h4 => by unfold loosP; rw [if_pos k1]; show (decide (0 ≤ r) && decide (r ≤ 3) && true) = true; simp; omega)
   generalize t.size = z at *
   generalize t.kind = kd at *
   subst k1
   clear HIH HT HST hr
   unfold MadePost
   go_enter Tryz.func39, Tryz.ntmps39
   go_wp2_with fail
   refine (CN.out _ HG0.out.2 4 (by omega) (by omega)).mono ?_
   rintro e w6 ⟨r, rfl, hr0, hr1, hd6, hg6⟩
   obtain ⟨y1, y2, y3⟩ := HB.out _ ⟨hg6, hd6⟩
   have HG6 := Lib.hid (HG0.out.trans ⟨hg6, hd6⟩)
   have c0 := y3.cell 0
   have c1 := y3.cell 1
   have f0 := y3.frozen 0
   have f1 := y3.frozen 1
   have HBB := Lib.hid (blk_set (i := 1) (.slice none 0 0) (blk_set (i := 0) (.int .i64 r) y3))
   clear y3 y2 hd6 hg6
   go_wp2
   refine bodyPost_ret (results_cell_row (p := 6) (ty := 28) rfl _ _ (w.heap.size + 1) 28 _ (0, 0) _ rfl HBB.out Tryz.underlying28 rfl (by kernel_rfl)) rfl ?_
   have := out5 (x := r) (s := .slice none 0 0) (l := []) hbl HG6.out (KAt.nil 0 none (by unfold maxLen; omega))
   exact ⟨.mk r [], _, rfl, hP.out r hr0 hr1, this.1, this.2⟩
 by_cases k2 : t.kind = 2
 · rw [if_neg k1, if_pos (.inl k2)] at hr
   have hz : 1 ≤ t.size ∧ t.size ≤ 16 := by simp at hr; omega
   have hP : Hid (∀ r : Int, 0 ≤ r → r < t.size → loosP (d + 1) m t (.mk r []) = true) := Lib.hid (fun r h0 h4 => by unfold loosP; rw [if_neg k1, if_pos k2]; show (decide (0 ≤ r) && decide (r < t.size) && true) = true; simp; omega)
   generalize t.size = z at *
   generalize t.kind = kd at *
   subst k2
   clear HIH HT HST hr k1
   unfold MadePost
   have CN2 := Lib.hid (CN.out _ HG0.out.2 z (by omega) (by omega))
   go_enter Tryz.func39, Tryz.ntmps39
   go_wp2_with fail
   refine CN2.out.mono ?_
   rintro e w6 ⟨r, rfl, hr0, hr1, hd6, hg6⟩
   obtain ⟨y1, y2, y3⟩ := HB.out _ ⟨hg6, hd6⟩
   have HG6 := Lib.hid (HG0.out.trans ⟨hg6, hd6⟩)
   have c0 := y3.cell 0
   have c1 := y3.cell 1
   have f0 := y3.frozen 0
   have f1 := y3.frozen 1
   have HBB := Lib.hid (blk_set (i := 1) (.slice none 0 0) (blk_set (i := 0) (.int .i64 r) y3))
   clear y3 y2 hd6 hg6
   go_wp2
   refine bodyPost_ret (results_cell_row (p := 6) (ty := 28) rfl _ _ (w.heap.size + 1) 28 _ (0, 0) _ rfl HBB.out Tryz.underlying28 rfl (by kernel_rfl)) rfl ?_
   have := out5 (x := r) (s := .slice none 0 0) (l := []) hbl HG6.out (KAt.nil 0 none (by unfold maxLen; omega))
   exact ⟨.mk r [], _, rfl, hP.out r hr0 hr1, this.1, this.2⟩
 by_cases k6 : t.kind = 6
 · rw [if_neg k1, if_pos (.inr k6)] at hr
   have hz : 1 ≤ t.size ∧ t.size ≤ 16 := by simp at hr; omega
   have hP : Hid (∀ v, TreeOkP t.size 4 v → loosP (d + 1) m t v = true) := Lib.hid (fun v h => by unfold loosP; rw [if_neg k1, if_neg k2, if_pos k6, h.1]; have := h.2; simpa using this)
   generalize t.size = z at *
   generalize t.kind = kd at *
   subst k6
   clear HIH HT HST hr k1 k2
   unfold MadePost
   have CT : Hid (∀ (k : Nat), k ≤ 3 → ∀ W, DeckOk W b → Calls Tryz.prog 63 #[.pointer (some ⟨b, 0, none⟩), .int .i64 z, .int .i64 (IntKind.i64.wrap (1 + (k : Int)))] W (MadePost W b (TreeOkP z (k + 1)))) := Lib.hid (fun k hk W hW => by
     have := dtree_any b z hz.1 (by omega) k (by omega) W hW
     rw [wI64 (1 + (k : Int)) (by omega) (by omega)]
     rwa [Int.add_comm (k : Int) 1] at this)
   have B0 := HB.out _ (GD.refl HG0.out.2)
   have z0 := B0.2.1.cell 1
   have CM := Lib.hid (fun (v : V) (hv : v.size ≤ 4) s W (hk : KB W W.heap.size s v.ks) => mvalue_any v (by omega) s W hk)
   clear B0
   go_enter Tryz.func39, Tryz.ntmps39
   go_wp2_with fail
   generalize (w.alloc (.cells #[.int .i64 6, .int .i64 z, .slice A1 rn c1, .slice A2 pn c2] 25)).alloc (.cells #[.int .i64 0, .slice none 0 0] 28) = W1 at *
   have CN4 := Lib.hid (CN.out W1.drew HG0.out.drew.2 4 (by omega) (by omega))
   unfold NextPost at CN4
   unfold MadePost at CT
   unfold ValPost at CM
   go_region_law (first
     | (go_simp; go_at_call 17; have hq := CN4.out; refine hq.mono ?_; clear hq; rintro e w6 ⟨r, rfl, hr0, hr1, hd6, hg6⟩; obtain ⟨k, rfl⟩ : (∃ k : Nat, r = (k : Int)) := ⟨r.toNat, by omega⟩; have hk3 : k ≤ 3 := (by omega); have HG6 := Lib.hid (GD.ofDrew ⟨hg6, hd6⟩); have x6 := (HB.out _ HG6.out).2.1.cell 1; clear hr0 hr1 hd6 hg6)
     | (go_simp; go_at_call 63; have hq := CT.out k hk3 w6 HG6.out.2; refine hq.mono ?_; clear hq; rintro e w7 ⟨v, s7, rfl, hv7, hk7, hg7⟩; obtain ⟨A7, n7, c7, rfl, -, -, -⟩ := hk7.form; have HV7 := Lib.hid hv7; have HK7 := Lib.hid hk7; have HG7 := Lib.hid hg7; clear hv7 hk7 hg7)
     | (go_simp; go_at_call 62; have hq := CM.out v (by have := HV7.out.2; omega) _ w7 (HK7.out.keep (fun x hx => hx.2) (fun _ _ => rfl)); refine hq.mono ?_; clear hq; rintro e w8 ⟨s8, rfl, hk8, hg8⟩; obtain ⟨A8, n8, c8, rfl, -, -, -⟩ := hk8.form; have HG7' := Lib.hid ((HG6.out.trans HG7.out).bw hg8); have hb := (HB.out _ HG7'.out).2.2; have HK8 := Lib.hid hk8; have x8 := hb.cell 0; have y8 := hb.cell 1; have f8 := hb.frozen 0; have g8 := hb.frozen 1; have HBB := Lib.hid (blk_set (i := 1) (.slice A8 n8 c8) (blk_set (i := 0) (.int .i64 v.n) hb)); clear hb hk8 hg8))
   all_goals
     go_wp2
     refine bodyPost_ret (results_cell_row (p := 6) (ty := 28) rfl _ _ (w.heap.size + 1) 28 _ (0, 0) _ rfl HBB.out Tryz.underlying28 rfl (by kernel_rfl)) rfl ?_
     have hs7 := (HB.out _ (HG6.out.trans HG7.out)).1
     have := out5 (x := v.n) (s := .slice A8 n8 c8) (l := v.ks) hbl (HG0.out.trans HG7'.out) (HK8.out.keep (fun c hc => ⟨by have := hc.1; omega, hc.2⟩) (fun _ _ => rfl))
     refine ⟨v, _, rfl, hP.out v ⟨HV7.out.1, by have := HV7.out.2; omega⟩, this.1, this.2⟩
 by_cases k7 : t.kind = 7
 · rw [if_neg k1, if_neg (by omega), if_pos k7] at hr
   have hz : 1 ≤ t.size ∧ t.size ≤ 6 := by
     simp [rankedP] at hr; omega
   have hP : Hid (∀ xs : List Int, xs.length ≤ m → (∀ x ∈ xs, 0 ≤ x ∧ x < t.size) → loosP (d + 1) m t (wordV xs) = true) := Lib.hid (fun xs h0 h4 => by
     unfold loosP
     rw [if_neg k1, if_neg k2, if_neg k6, if_pos k7]
     have h5 : ((wordV xs).ks.all (labelP t.size)) = true := by
       rw [List.all_eq_true]
       intro x hx
       obtain ⟨y, hy, rfl⟩ := List.mem_map.1 hx
       have := h4 y hy
       show (decide (0 ≤ y) && decide (y < t.size) && true) = true
       simp; omega
     rw [h5]
     have h6 : (wordV xs).ks.length = xs.length := by simp [wordV]
     have h7 : (wordV xs).n = 0 := rfl
     rw [h7]
     simp [h6]; omega)
   generalize t.size = z at *
   generalize t.kind = kd at *
   subst k7
   clear HIH HT HST hr k1 k2 k6
   unfold MadePost
   have CW := Lib.hid (fun W (h : DeckOk W b) => dword_any W b h z m (by omega) (by omega) (by omega) (by omega))
   have CR := Lib.hid (fun (xs : List Int) (h : xs.length ≤ 12) s W (hk : IB W W.heap.size s xs) => r6Word_any xs (by omega) s W hk)
   go_enter Tryz.func39, Tryz.ntmps39
   have B0 := HB.out _ (GD.refl HG0.out.2)
   have z0 := B0.2.1.cell 1
   clear B0
   go_wp2_with fail
   refine (CW.out _ HG0.out.2).mono ?_
   rintro e w6 ⟨s6, xs, rfl, hl6, hx6, hk6, hg6⟩
   obtain ⟨A6, n6, c6, rfl, -, -, -⟩ := hk6.form
   have HXS : Hid (loosP (d + 1) m t (wordV xs) = true) := Lib.hid (hP.out xs (by omega) hx6)
   have CR6 := Lib.hid (CR.out xs (by omega) _ w6 (hk6.keep (fun x hx => hx.2) (fun _ _ => rfl)))
   have HG6 := Lib.hid hg6
   clear hl6 hx6 hk6 hg6
   go_wp2_with fail
   refine CR6.out.mono ?_
   rintro e w7 ⟨s7, rfl, hk7, hg7⟩
   obtain ⟨A7, n7, c7, rfl, -, -, -⟩ := hk7.form
   obtain ⟨y1, y2, y3⟩ := HB.out _ (HG6.out.bw hg7)
   have HG7 := Lib.hid (HG0.out.trans (HG6.out.bw hg7))
   have HK7 := Lib.hid (hk7.keep (S' := fun c => w.heap.size + 1 + 1 ≤ c ∧ c < w7.heap.size) (fun c hc => ⟨by have := hc.1; have := (HB.out _ HG6.out).1; omega, hc.2⟩) (fun _ _ => rfl))
   have c0 := y3.cell 0
   have c1 := y3.cell 1
   have f0 := y3.frozen 0
   have f1 := y3.frozen 1
   have HBB := Lib.hid (blk_set (i := 1) (.slice A7 n7 c7) (blk_set (i := 0) (.int .i64 0) y3))
   clear y3 y2 hg7 hk7
   have hn0 : (wordV xs).n = 0 := rfl
   rw [hn0]
   go_wp2
   refine bodyPost_ret (results_cell_row (p := 6) (ty := 28) rfl _ _ (w.heap.size + 1) 28 _ (0, 0) _ rfl HBB.out Tryz.underlying28 rfl (by kernel_rfl)) rfl ?_
   have := out5 (x := 0) (s := .slice A7 n7 c7) (l := (wordV xs).ks) hbl HG7.out HK7.out
   exact ⟨wordV xs, _, rfl, HXS.out, this.1, this.2⟩
 by_cases k3 : t.kind = 3
 · rw [if_neg k1, if_neg (by omega), if_neg k7, if_pos k3] at hr
   simp only [Bool.and_eq_true, decide_eq_true_eq] at hr
   have hp8 : pn ≤ 8 := by rw [← lpn]; exact hr.1.2
   have hP : Hid (∀ l : List V, oneZ (loosP d m) t.parts l = true → loosP (d + 1) m t (.mk 0 l) = true) := Lib.hid (fun l h => by
     have h1 := oneZ_length h
     unfold loosP
     rw [if_neg k1, if_neg k2, if_neg k6, if_neg k7, if_pos k3]
     show ((0 : Int) == 0 && l.length == t.parts.length && oneZ (loosP d m) t.parts l) = true
     rw [h, h1]; simp)
   have HR8 := Lib.hid (fun p hp => List.all_eq_true.1 hr.2 p hp)
   have LPN := Lib.hid lpn
   generalize t.size = z at *
   generalize t.kind = kd at *
   subst k3
   clear hr k1 k2 k6 k7 lpn HB HG0
   obtain ⟨i0, hi, hz0, hz1, hz2⟩ := info_parts infoVal
   unfold MadePost
   have B0 := HST.out.box
   have b0 := B0.cell 0
   clear B0
   go_enter Tryz.func39, Tryz.ntmps39
   go_wp2_with fail
   go_loopw [8] (fun i wr => ∃ k : Nat, k ≤ pn ∧ i = .int .i64 k ∧ Hid (∃ sv l ss, LooI b wr w 3 z (.slice A1 rn c1) (.slice A2 pn c2) sv l ss ∧ l.length = k ∧ oneZ (loosP d m) (t.parts.take k) l = true)) (fun i _ => pn - (intOf i).toNat)
   case atStart => exact ⟨0, by omega, by go_num, Lib.hid ⟨_, [], [], HST.out, rfl, by simp [oneZ]⟩⟩
   case round =>
     obtain ⟨k, hk, rfl, HR⟩ := hrel
     obtain ⟨sv, l, ss, hI, hl, ho⟩ := HR.out
     have HI0 := Lib.hid hI
     have HO := Lib.hid ho
     obtain ⟨VA, vc, rfl, vb1, vb2⟩ := hI.mi.row.form
     have w2 := hI.mi.b2.lt
     have q0 := hI.box.cell 0
     have q3 := hI.box.cell 3
     have r1 := hI.mi.b2.cell 1
     have f1 := hI.mi.b2.frozen 1
     have HL := Lib.hid hl
     have hlb : l.length ≤ 12 := by omega
     clear HR hl
     by_cases hlt : k < pn
     · have e1 : k < t.parts.length := by rw [LPN.out]; exact hlt
       obtain ⟨ad, A', n', c', A'', n'', c'', rfl, hb, p0, p1, p2, p3, hpt⟩ := (HT.out.td hI.mi.gd).2.at_ e1
       have HTK : Hid (t.parts.take (k + 1) = t.parts.take k ++ [t.parts[k]]) := Lib.hid (List.take_succ_eq_append_getElem e1)
       have CP : Hid (∀ W, GD b wr W → Calls Tryz.prog 39 #[.pointer (some ⟨b, 0, none⟩), .agg #[.int .i64 t.parts[k].kind, .int .i64 t.parts[k].size, .slice A' n' c', .slice A'' n'' c''], .int .i64 m] W (MadePost W b (fun v => loosP d m t.parts[k] v = true))) := Lib.hid (fun W g => HIH.out m _ _ _ W hm (HR8.out _ (List.getElem_mem e1)) g.2 (hpt.td g))
       unfold MadePost at CP
       have ADB : Hid (ad.block ≠ b ∧ ad.block < wr.heap.size) := Lib.hid hb
       have dz : (0 : Int) ≤ (k : Int) := by omega
       have dz1 : (k : Int) < (pn : Int) := by omega
       clear hI ho hpt hb
       generalize t.parts[k] = tk at *
       generalize tk.kind = kk at *
       generalize tk.size = kz at *
       go_wp2_with fail
       have KS : Hid (∀ W', GD b wr.drew W' → w.heap.size + 1 + 1 < W'.heap.size ∧ W'.cell? ⟨w.heap.size + 1 + 1, 1, none⟩ = some (.slice VA l.length vc) ∧ LooI b W' w 3 z (.slice A1 rn c1) (.slice (some ad) pn c2) (.slice VA l.length vc) l ss) := Lib.hid (fun W' g => by
         have h2 := HI0.out.keep hbl g.ofDrew
         exact ⟨h2.mi.b2.lt, h2.mi.b2.cell 1, h2⟩)
       have CP2 := Lib.hid (CP.out wr.drew (GD.refl HI0.out.mi.gd.2).drew)
       have hsz9 : wr.drew.heap.size = wr.heap.size := rfl
       go_region_law (first
         | (refine step_append_any _ rfl (.tmp 53) (.tmp 62) 26 rfl (w.heap.size + 1 + 1 + 1) 28 i0 _ 2 32 Tryz.underlying26 hi hz0 hz1 hz2 rfl (by decide) (.slice VA l.length vc) l.length (vCells l ss) (by simp [Act.eval, Act.put]) (HI9.out.mi.row.own.alloc (.cells #[.int .i64 yn, .slice A9 n9 c9] 28)) (w9.heap.size + 1) (some ⟨w9.heap.size, 0, none⟩) 1 1 [.int .i64 yn, .slice A9 n9 c9] (by simp [Act.eval, Act.put]) (reads_new2 w9 _ _ _) (one2 _ _ _ _) (by unfold maxLen; omega) (by omega) (by simp <;> omega) ?_; intro v7 w10 hown7 hgr7 hl7; obtain ⟨A7, c7, rfl⟩ := own_form hown7; have hne7 : some (w.heap.size + 1 + 1) ≠ (Value.slice VA l.length vc).ownBlock := (fun e => by have := (HI9.out.mi.row.own.lt _ e.symm).1; omega); have k7 := (HI9.out.mi.b2.alloc (.cells #[.int .i64 yn, .slice A9 n9 c9] 28)).grown hgr7 hne7; have y7 := k7.cell 1; have z7 := k7.frozen 1; have l7 := k7.lt; have HO7 := Lib.hid hown7; have HG7 := Lib.hid hgr7; have HL7 := Lib.hid hl7; clear hown7 hgr7 hl7 k7 hne7)
         | (go_simp; go_at_call 39; refine CP2.out.mono ?_; rintro e w9 ⟨y, s9, rfl, hy9, hk9, hg9⟩; obtain ⟨A9, n9, c9, rfl, ln9, _, _⟩ := hk9.form; obtain ⟨yn, hyn⟩ : (∃ yn, y.n = yn) := ⟨_, rfl⟩; rw [hyn]; have HYN := Lib.hid hyn; have HY9 := Lib.hid hy9; have HK9 := Lib.hid hk9; obtain ⟨u0, u1, u2⟩ := KS.out _ hg9; have HI9 := Lib.hid u2; have HG9 := Lib.hid hg9; have hs9 := hg9.size; clear hyn hy9 hk9 hg9 ln9 u2))
       all_goals
         go_wp2
         go_roundw
         case rel =>
           refine ⟨k + 1, by omega, by go_num, Lib.hid ⟨.slice A7 (l.length + 1) c7, l ++ [y], ss ++ [.slice A9 n9 c9], ?_, by have := HL.out; simp; omega, by rw [HTK.out]; exact oneZ_snoc HO.out HY9.out⟩⟩
           have hI9 := HI9.out
           have g1 : GD b w9 (w9.alloc (.cells #[.int .i64 yn, .slice A9 n9 c9] 28)) := (GD.refl hI9.mi.gd.2).bw ((Bw.refl _).alloc _)
           refine (hI9.keep hbl g1).push hbl (y := y) (s := .slice A9 n9 c9) ?_ (by rw [HYN.out]; exact HO7.out) HG7.out HL7.out
           refine HK9.out.keep (fun c hc => ⟨by have := hc.1; have := HI0.out.mi.b2.lt; omega, by simp; have := hc.2; omega, fun e => ?_⟩) (fun p hp => World.cell?_alloc_lt w9 _ p hp.2)
           have h3 := (HI0.out.mi.row.own.lt c e).2
           have := hc.1
           omega
         case measure => simp [intOf]; omega
     · obtain rfl : k = pn := by omega
       have s0 := hI.mi.b2.cell 0
       have u0 := hI.mi.b1.cell 0
       have u1 := hI.mi.b1.cell 1
       have g0 := hI.mi.b1.frozen 0
       have g1 := hI.mi.b1.frozen 1
       have HBB := Lib.hid (blk_set (i := 1) (.slice VA l.length vc) (blk_set (i := 0) (.int .i64 0) hI.mi.b1))
       have HP := Lib.hid (hP.out l (by rw [List.take_of_length_le (by rw [LPN.out]; omega)] at ho; exact ho))
       clear hI ho hP
       go_wp2
       refine bodyPost_ret (results_cell_row (p := 6) (ty := 28) rfl _ _ (w.heap.size + 1) 28 _ (0, 0) _ rfl HBB.out Tryz.underlying28 rfl (by kernel_rfl)) rfl ?_
       have := HI0.out.mi.out hbl
       exact ⟨.mk 0 l, _, rfl, HP.out, this.1, this.2⟩
 · rw [if_neg k1, if_neg (by omega), if_neg k7, if_neg k3] at hr
   have k45 : t.kind = 4 ∨ t.kind = 5 := by
     by_cases k : t.kind = 4 ∨ t.kind = 5
     · exact k
     · rw [if_neg k] at hr; simp at hr
   rw [if_pos k45] at hr
   simp only [Bool.and_eq_true, beq_iff_eq] at hr
   have hpn : pn = 1 := by rw [← lpn]; exact hr.1.2
   have hP : Hid (∀ l : List V, l.length ≤ m → l.all (loosP d (m - 1) t.p0) = true → loosP (d + 1) m t (.mk 0 l) = true) := Lib.hid (fun l h h2 => by
     unfold loosP
     rw [if_neg k1, if_neg k2, if_neg k6, if_neg k7, if_neg k3]
     show ((0 : Int) == 0 && decide (l.length ≤ m) && l.all (loosP d (m - 1) t.p0)) = true
     rw [h2]; simp [h])
   have HR8 : Hid (rightP d t.p0 = true) := Lib.hid (List.all_eq_true.1 hr.2 _ (p0_mem hr.1.2))
   have e1 : 0 < t.parts.length := by rw [hr.1.2]; exact Nat.one_pos
   have hp0 : Hid (t.parts[0] = t.p0) := Lib.hid (p0_get e1)
   subst hpn
   generalize t.size = z at *
   generalize t.kind = kd at *
   have d1 : (kd == 1) = false := by simpa using k1
   have d2 : (kd == 2) = false := by simpa using k2
   have d3 : (kd == 3) = false := by simpa using k3
   have d6 : (kd == 6) = false := by simpa using k6
   have d7 : (kd == 7) = false := by simpa using k7
   clear hr k45 lpn HB
   obtain ⟨i0, hi, hz0, hz1, hz2⟩ := info_parts infoVal
   unfold MadePost
   have B0 := HST.out.box
   have b0 := B0.cell 0
   clear B0
   have CN2 := Lib.hid (fun W (h : DeckOk W b) => CN.out W h ((m : Int) + 1) (by omega) (by omega))
   go_enter Tryz.func39, Tryz.ntmps39
   go_wp2_with fail
   have CN3 := Lib.hid (CN2.out _ HST.out.mi.gd.2)
   refine CN3.out.mono ?_
   rintro e w6 ⟨r, rfl, hr0, hr1, hd6, hg6⟩
   have HST6 := Lib.hid (HST.out.keep hbl ⟨hg6, hd6⟩)
   obtain ⟨m0, rfl⟩ : ∃ m0 : Nat, r = (m0 : Int) := ⟨r.toNat, by omega⟩
   have hm0 : m0 ≤ m := by omega
   clear hr0 hr1 hd6 hg6 HST HG0 CN3 CN2 CN
   go_wp2_with fail
   go_loopw [9] (fun i wr => ∃ k : Nat, k ≤ m ∧ i = .int .i64 k ∧ Hid (∃ sv l ss, LooI b wr w kd z (.slice A1 rn c1) (.slice A2 1 c2) sv l ss ∧ l.length + k ≤ m ∧ l.all (loosP d (m - 1) t.p0) = true)) (fun i _ => (intOf i).toNat)
   case atStart => exact ⟨m0, hm0, by go_num, Lib.hid ⟨_, [], [], HST6.out, by simpa using hm0, rfl⟩⟩
   case round =>
     obtain ⟨k, hk, rfl, HR⟩ := hrel
     obtain ⟨sv, l, ss, hI, hl, ho⟩ := HR.out
     have HI0 := Lib.hid hI
     have HO := Lib.hid ho
     obtain ⟨VA, vc, rfl, vb1, vb2⟩ := hI.mi.row.form
     have w2 := hI.mi.b2.lt
     have q0 := hI.box.cell 0
     have q3 := hI.box.cell 3
     have r1 := hI.mi.b2.cell 1
     have f1 := hI.mi.b2.frozen 1
     have HL := Lib.hid hl
     have hlb : l.length ≤ 12 := by omega
     clear HR hl
     by_cases hk0 : 0 < k
     · obtain ⟨ad, A', n', c', A'', n'', c'', rfl, hb, p0, p1, p2, p3, hpt⟩ := (HT.out.td hI.mi.gd).2.at_ e1
       have e0 : ad.add (0 * 4) = ad := by simp [Addr.add]
       rw [e0] at p0 p1 p2 p3
       rw [hp0.out] at p0 p1 hpt
       have CP : Hid (∀ W, GD b wr W → Calls Tryz.prog 39 #[.pointer (some ⟨b, 0, none⟩), .agg #[.int .i64 t.p0.kind, .int .i64 t.p0.size, .slice A' n' c', .slice A'' n'' c''], .int .i64 ((m - 1 : Nat) : Int)] W (MadePost W b (fun v => loosP d (m - 1) t.p0 v = true))) := Lib.hid (fun W g => HIH.out (m - 1) _ _ _ W (by omega) HR8.out g.2 (hpt.td g))
       unfold MadePost at CP
       have ADB : Hid (ad.block ≠ b ∧ ad.block < wr.heap.size) := Lib.hid hb
       have dmx : max 0 ((m : Int) - 1) = ((m - 1 : Nat) : Int) := by omega
       have dmw : IntKind.i64.wrap ((m : Int) - 1) = (m : Int) - 1 := wI64 _ (by omega) (by omega)
       clear hI ho hpt hb e0 hp0 e1
       generalize t.p0 = tk at *
       generalize tk.kind = kk at *
       generalize tk.size = kz at *
       go_wp2_with fail
       have KS : Hid (∀ W', GD b wr.drew W' → w.heap.size + 1 + 1 < W'.heap.size ∧ W'.cell? ⟨w.heap.size + 1 + 1, 1, none⟩ = some (.slice VA l.length vc) ∧ LooI b W' w kd z (.slice A1 rn c1) (.slice (some ad) 1 c2) (.slice VA l.length vc) l ss) := Lib.hid (fun W' g => by
         have h2 := HI0.out.keep hbl g.ofDrew
         exact ⟨h2.mi.b2.lt, h2.mi.b2.cell 1, h2⟩)
       have CP2 := Lib.hid (CP.out wr.drew (GD.refl HI0.out.mi.gd.2).drew)
       have hsz9 : wr.drew.heap.size = wr.heap.size := rfl
       go_region_law (first
         | (refine step_append_any _ rfl (.tmp 75) (.tmp 85) 26 rfl (w.heap.size + 1 + 1 + 1) 28 i0 _ 2 32 Tryz.underlying26 hi hz0 hz1 hz2 rfl (by decide) (.slice VA l.length vc) l.length (vCells l ss) (by simp [Act.eval, Act.put]) (HI9.out.mi.row.own.alloc (.cells #[.int .i64 yn, .slice A9 n9 c9] 28)) (w9.heap.size + 1) (some ⟨w9.heap.size, 0, none⟩) 1 1 [.int .i64 yn, .slice A9 n9 c9] (by simp [Act.eval, Act.put]) (reads_new2 w9 _ _ _) (one2 _ _ _ _) (by unfold maxLen; omega) (by omega) (by simp <;> omega) ?_; intro v7 w10 hown7 hgr7 hl7; obtain ⟨A7, c7, rfl⟩ := own_form hown7; have hne7 : some (w.heap.size + 1 + 1) ≠ (Value.slice VA l.length vc).ownBlock := (fun e => by have := (HI9.out.mi.row.own.lt _ e.symm).1; omega); have k7 := (HI9.out.mi.b2.alloc (.cells #[.int .i64 yn, .slice A9 n9 c9] 28)).grown hgr7 hne7; have y7 := k7.cell 1; have z7 := k7.frozen 1; have l7 := k7.lt; have HO7 := Lib.hid hown7; have HG7 := Lib.hid hgr7; have HL7 := Lib.hid hl7; clear hown7 hgr7 hl7 k7 hne7)
         | (go_simp; go_at_call 39; refine CP2.out.mono ?_; rintro e w9 ⟨y, s9, rfl, hy9, hk9, hg9⟩; obtain ⟨A9, n9, c9, rfl, ln9, _, _⟩ := hk9.form; obtain ⟨yn, hyn⟩ : (∃ yn, y.n = yn) := ⟨_, rfl⟩; rw [hyn]; have HYN := Lib.hid hyn; have HY9 := Lib.hid hy9; have HK9 := Lib.hid hk9; obtain ⟨u0, u1, u2⟩ := KS.out _ hg9; have HI9 := Lib.hid u2; have HG9 := Lib.hid hg9; have hs9 := hg9.size; clear hyn hy9 hk9 hg9 ln9 u2))
       all_goals
         go_wp2
         go_roundw
         case rel =>
           refine ⟨k - 1, by omega, by go_num, Lib.hid ⟨.slice A7 (l.length + 1) c7, l ++ [y], ss ++ [.slice A9 n9 c9], ?_, by have := HL.out; simp; omega, by rw [List.all_append, HO.out]; simp [HY9.out]⟩⟩
           have hI9 := HI9.out
           have g1 : GD b w9 (w9.alloc (.cells #[.int .i64 yn, .slice A9 n9 c9] 28)) := (GD.refl hI9.mi.gd.2).bw ((Bw.refl _).alloc _)
           refine (hI9.keep hbl g1).push hbl (y := y) (s := .slice A9 n9 c9) ?_ (by rw [HYN.out]; exact HO7.out) HG7.out HL7.out
           refine HK9.out.keep (fun c hc => ⟨by have := hc.1; have := HI0.out.mi.b2.lt; omega, by simp; have := hc.2; omega, fun e => ?_⟩) (fun p hp => World.cell?_alloc_lt w9 _ p hp.2)
           have h3 := (HI0.out.mi.row.own.lt c e).2
           have := hc.1
           omega
         case measure => simp [intOf]; omega
     · obtain rfl : k = 0 := by omega
       have s0 := hI.mi.b2.cell 0
       have u0 := hI.mi.b1.cell 0
       have u1 := hI.mi.b1.cell 1
       have g0 := hI.mi.b1.frozen 0
       have g1 := hI.mi.b1.frozen 1
       have HBB := Lib.hid (blk_set (i := 1) (.slice VA l.length vc) (blk_set (i := 0) (.int .i64 0) hI.mi.b1))
       have HP := Lib.hid (hP.out l (by have := HL.out; omega) ho)
       clear hI ho hP
       go_wp2
       refine bodyPost_ret (results_cell_row (p := 6) (ty := 28) rfl _ _ (w.heap.size + 1) 28 _ (0, 0) _ rfl HBB.out Tryz.underlying28 rfl (by kernel_rfl)) rfl ?_
       have := HI0.out.mi.out hbl
       exact ⟨.mk 0 l, _, rfl, HP.out, this.1, this.2⟩
theorem dloose_any (b d : Nat) : ∀ (t : T), rightP d t = true → ∀ (m : Nat) (rv pv : Value) (w : World), m ≤ 12 → DeckOk w b → TAt w (TD b w) rv pv t → Calls Tryz.prog 39 #[.pointer (some ⟨b, 0, none⟩), .agg #[.int .i64 t.kind, .int .i64 t.size, rv, pv], .int .i64 m] w (MadePost w b (fun v => loosP d m t v = true)) := by
 induction d with
 | zero => intro t ht; simp [rightP] at ht
 | succ d ih => exact fun t ht m rv pv w hm hd hT => dloose_step b d t ht m hm rv pv w hd hT (fun m' t' rv' pv' W hm' ht' hd' hT' => ih t' ht' m' rv' pv' W hm' hd' hT')
theorem dsort_any (b : Nat) (t : T) (u : V) (rv pv s : Value) (W : World) (hT : TAt W (TD b W) rv pv t) (h : KB W W.heap.size s u.ks) : Calls Tryz.prog 31 #[.agg #[.int .i64 t.kind, .int .i64 t.size, rv, pv], .agg #[.int .i64 u.n, s]] W (SortedPost W (sortedP t u).1 (sortedP t u).2) :=
 r6Sorted_any t u rv pv s W (hT.keep (fun x hx => hx.2) (fun _ _ => rfl)) h _ rfl

theorem box_store {b : Nat} {W1 W : World} {g : Nat} {x : Int} {u0 u1 s : Value} {l : List V} (hb : b < W1.heap.size) (hg : GD b W1 W) (hB : Blk W g 28 #[u0, u1]) (hge : W1.heap.size ≤ g) (hk : KAt W (fun c => W1.heap.size ≤ c ∧ c < W.heap.size ∧ c ≠ g) s l) :
   W1.heap.size ≤ g ∧ Blk ((W.setCell ⟨g, 0, none⟩ (.int .i64 x)).setCell ⟨g, 1, none⟩ s) g 28 #[.int .i64 x, s] ∧ KAt ((W.setCell ⟨g, 0, none⟩ (.int .i64 x)).setCell ⟨g, 1, none⟩ s) (fun c => W1.heap.size ≤ c ∧ c < ((W.setCell ⟨g, 0, none⟩ (.int .i64 x)).setCell ⟨g, 1, none⟩ s).heap.size ∧ c ≠ g) s l ∧ GD b W1 ((W.setCell ⟨g, 0, none⟩ (.int .i64 x)).setCell ⟨g, 1, none⟩ s) := by
 have e1 := grownBy_setCell (p := ⟨g, 1, none⟩) (grownBy_setCell (p := ⟨g, 0, none⟩) (World.grownBy.refl W (some g)) (.inl rfl) (.int .i64 x)) (.inl rfl) s
 refine ⟨hge, blk_set (i := 1) s (blk_set (i := 0) (.int .i64 x) hB), hk.keep (fun c hc => ⟨hc.1, by have := hc.2.1; simp [World.setCell]; exact this, hc.2.2⟩) (fun q hq => ?_), hg.own e1 (fun r e => by injection e with e; omega) hb⟩
 exact World.cell?_of_block (e1.block q.block hq.2.1 (fun e => hq.2.2 (by injection e)))
theorem box_new {b : Nat} {W1 W : World} {x : Int} {s : Value} {l : List V} (hg : GD b W1 W) (hk : KAt W (fun c => W1.heap.size ≤ c ∧ c < W.heap.size) s l) :
   W1.heap.size ≤ W.heap.size ∧ Blk (W.alloc (.cells #[.int .i64 x, s] 28)) W.heap.size 28 #[.int .i64 x, s] ∧ KAt (W.alloc (.cells #[.int .i64 x, s] 28)) (fun c => W1.heap.size ≤ c ∧ c < (W.alloc (.cells #[.int .i64 x, s] 28)).heap.size ∧ c ≠ W.heap.size) s l ∧ GD b W1 (W.alloc (.cells #[.int .i64 x, s] 28)) :=
 ⟨hg.size, Blk.new _ _ _, hk.keep (fun c hc => ⟨hc.1, by have := hc.2; simp; omega, by have := hc.2; omega⟩) (fun p hp => World.cell?_alloc_lt W _ p hp.2), hg.bw ((Bw.refl _).alloc _)⟩
theorem dvalue_any (b : Nat) (t : T) (ht : rightP 8 t = true) (rv pv : Value) (w : World) (hd : DeckOk w b) (hT : TAt w (TD b w) rv pv t) :
   Calls Tryz.prog 15 #[.pointer (some ⟨b, 0, none⟩), .agg #[.int .i64 t.kind, .int .i64 t.size, rv, pv]] w (MadePost w b (fun v => lsz 8 3 t ≤ 128 → validP t v = true)) := by
 have hbl := hd.lt
 obtain ⟨A1, rn, c1, rfl, _, _⟩ := hT.1.form'
 obtain ⟨A2, pn, c2, rfl, lpn, _, _⟩ := hT.2.form
 have HG0 : Hid (GD b w ((w.alloc (.cells #[.int .i64 t.kind, .int .i64 t.size, .slice A1 rn c1, .slice A2 pn c2] 25)).alloc (.cells #[.int .i64 0, .slice none 0 0] 28))) := Lib.hid ((GD.refl hd).bw (((Bw.refl _).alloc _).alloc _))
 have HB := Lib.hid (fun W (h : GD b ((w.alloc (.cells #[.int .i64 t.kind, .int .i64 t.size, .slice A1 rn c1, .slice A2 pn c2] 25)).alloc (.cells #[.int .i64 0, .slice none 0 0] 28)) W) => tvb2 hbl h)
 have CL : Hid (∀ (m : Nat) W, m ≤ 12 → GD b w W → Calls Tryz.prog 39 #[.pointer (some ⟨b, 0, none⟩), .agg #[.int .i64 t.kind, .int .i64 t.size, .slice A1 rn c1, .slice A2 pn c2], .int .i64 m] W (MadePost W b (fun v => loosP 8 m t v = true))) := Lib.hid (fun m W hm g => dloose_any b 8 t ht m _ _ W hm g.2 (hT.td g))
 have CL3 : Hid (∀ W, GD b w W → Calls Tryz.prog 39 #[.pointer (some ⟨b, 0, none⟩), .agg #[.int .i64 t.kind, .int .i64 t.size, .slice A1 rn c1, .slice A2 pn c2], .int .i64 3] W (MadePost W b (fun v => loosP 8 3 t v = true))) := Lib.hid (fun W g => CL.out 3 W (by omega) g)
 have CL0 : Hid (∀ W, GD b w W → Calls Tryz.prog 39 #[.pointer (some ⟨b, 0, none⟩), .agg #[.int .i64 t.kind, .int .i64 t.size, .slice A1 rn c1, .slice A2 pn c2], .int .i64 0] W (MadePost W b (fun v => loosP 8 0 t v = true))) := Lib.hid (fun W g => CL.out 0 W (by omega) g)
 have CS : Hid (∀ (u : V) s W, GD b w W → KB W W.heap.size s u.ks → Calls Tryz.prog 31 #[.agg #[.int .i64 t.kind, .int .i64 t.size, .slice A1 rn c1, .slice A2 pn c2], .agg #[.int .i64 u.n, s]] W (SortedPost W (sortedP t u).1 (sortedP t u).2)) := Lib.hid (fun u s W g h => dsort_any b t u _ _ s W (hT.td g) h)
 have CV : Hid (∀ (u : V) s W, GD b w W → KB W W.heap.size s u.ks → Calls Tryz.prog 21 #[.agg #[.int .i64 t.kind, .int .i64 t.size, .slice A1 rn c1, .slice A2 pn c2], .agg #[.int .i64 u.n, s]] W (BoolPost W (validP t u))) := Lib.hid (fun u s W g h => r6Valid_any t u _ _ _ W ((hT.td g).keep (fun x hx => hx.2) (fun _ _ => rfl)) h _ rfl)
 have HLS : Hid (∀ u, loosP 8 3 t u = true → lsz 8 3 t ≤ 128 → sortedP t u = (srtP 8 t u, 0) ∧ validP t (srtP 8 t u) = true) := Lib.hid (fun u h h2 => loose_sorted (by omega) ht h2 h)
 clear hd hT
 unfold MadePost
 have hP : Hid (∀ u, (lsz 8 3 t ≤ 128 → validP t u = true) → (lsz 8 3 t ≤ 128 → validP t u = true)) := Lib.hid (fun u h => h)
 unfold MadePost at CL CL3 CL0
 unfold SortedPost at CS
 generalize hz : t.size = z at *
 generalize hkd : t.kind = kd at *
 clear hz hkd
 have B0 := HB.out _ (GD.refl HG0.out.2)
 have q0 := B0.2.1.cell 0
 have q1 := B0.2.1.cell 1
 have q2 := B0.2.1.cell 2
 have q3 := B0.2.1.cell 3
 clear B0
 go_enter Tryz.func15, Tryz.ntmps15
 go_upto_region 1 with fail
 generalize (w.alloc (.cells #[.int .i64 kd, .int .i64 z, .slice A1 rn c1, .slice A2 pn c2] 25)).alloc (.cells #[.int .i64 0, .slice none 0 0] 28) = W1 at *
 go_cut [5, 6] (fun s5 s6 wx => ∃ (g : Nat) (er : Int) (u : V) (s : Value), s5 = .pointer (some ⟨g, 0, none⟩) ∧ s6 = .int .i64 er ∧ Hid (loosP 8 3 t u = true ∧ W1.heap.size ≤ g ∧ Blk wx g 28 #[.int .i64 (sortedP t u).1.n, s] ∧ KAt wx (fun c => W1.heap.size ≤ c ∧ c < wx.heap.size ∧ c ≠ g) s (sortedP t u).1.ks ∧ GD b W1 wx))
 case first =>
   have HX0 : Hid (GD b W1 W1.drew) := Lib.hid (GD.refl HG0.out.2).drew
   have HX1 : Hid (GD b W1 (W1.alloc (.cells #[.int .i64 0, .slice none 0 0] 28)).drew) := Lib.hid ((GD.refl HG0.out.2).bw ((Bw.refl _).alloc _).drew)
   have QA := (fun o => (HB.out _ ((GD.refl HG0.out.2).bw ((Bw.refl _).alloc o))).2.1)
   have qa0 := (fun o => (QA o).cell 0)
   have qa1 := (fun o => (QA o).cell 1)
   have qa2 := (fun o => (QA o).cell 2)
   have qa3 := (fun o => (QA o).cell 3)
   clear QA
   have hbl1 : b < W1.heap.size := Nat.lt_of_lt_of_le hbl HG0.out.size
   go_region_law (first
     | (go_simp; go_at_call 39; have hq := CL3.out W1.drew (HG0.out.trans HX0.out); with_reducible refine hq.mono ?_; clear hq; rintro e w6 ⟨u, s6, rfl, hv6, hk6, hg6⟩; obtain ⟨A6, n6, c6, rfl, -, -, -⟩ := hk6.form; have HU := Lib.hid hv6; have HG6 := Lib.hid (HX0.out.trans hg6); have HK6 := Lib.hid (hk6.keep (S' := fun x => x < w6.heap.size) (fun x hx => hx.2) (fun _ _ => rfl)); have hsz6 := HG6.out.size; have yb := (HB.out _ HG6.out).2.1; have y0 := yb.cell 0; have y1 := yb.cell 1; have y2 := yb.cell 2; have y3 := yb.cell 3; have YA := (fun o => (HB.out _ (HG6.out.bw ((Bw.refl _).alloc o))).2.1); have ya0 := (fun o => (YA o).cell 0); have ya1 := (fun o => (YA o).cell 1); have ya2 := (fun o => (YA o).cell 2); have ya3 := (fun o => (YA o).cell 3); clear YA; clear hv6 hk6 hg6 yb)
     | (go_simp; go_at_call 39; have hq := CL3.out _ (HG0.out.trans HX1.out); with_reducible refine hq.mono ?_; clear hq; rintro e w6 ⟨u, s6, rfl, hv6, hk6, hg6⟩; obtain ⟨A6, n6, c6, rfl, -, -, -⟩ := hk6.form; have HU := Lib.hid hv6; have HG6 := Lib.hid (HX1.out.trans hg6); have HK6 := Lib.hid (hk6.keep (S' := fun x => x < w6.heap.size) (fun x hx => hx.2) (fun _ _ => rfl)); have hsz6 := HG6.out.size; have yb := (HB.out _ HG6.out).2.1; have y0 := yb.cell 0; have y1 := yb.cell 1; have y2 := yb.cell 2; have y3 := yb.cell 3; have YA := (fun o => (HB.out _ (HG6.out.bw ((Bw.refl _).alloc o))).2.1); have ya0 := (fun o => (YA o).cell 0); have ya1 := (fun o => (YA o).cell 1); have ya2 := (fun o => (YA o).cell 2); have ya3 := (fun o => (YA o).cell 3); clear YA; have hbx6 := (hg6.blk ((Blk.new W1 28 #[.int .i64 0, .slice none 0 0]).drew) (by omega)); have l6 := hbx6.lt; have HBX := Lib.hid hbx6; clear hbx6; clear hv6 hk6 hg6 yb)
     | (go_simp; go_at_call 31; have hq := CS.out u _ w6 (HG0.out.trans HG6.out) HK6.out; with_reducible refine hq.mono ?_; clear hq; rintro e w8 ⟨s8, rfl, hk8, hg8⟩; obtain ⟨A8, n8, c8, rfl, -, -, -⟩ := hk8.form; have HG8 := Lib.hid (HG6.out.bw hg8); have HK8 := Lib.hid hk8; have hsz8 := hg8.b.size; try (have hbx := HBX.out.below hg8.b HBX.out.lt; have e0 := hbx.cell 0; have e1 := hbx.cell 1; have f0 := hbx.frozen 0; have f1 := hbx.frozen 1; have HBX8 := Lib.hid hbx; have l8 := hbx.lt; clear hbx); clear hk8 hg8)
     | (go_simp; go_at_call 31; have hq := CS.out u _ (w6.alloc (.cells #[.int .i64 0, .slice none 0 0] 28)) (HG0.out.trans (HG6.out.bw ((Bw.refl _).alloc _))) (KAt.bw HK6.out ((Bw.refl _).alloc _)); with_reducible refine hq.mono ?_; clear hq; rintro e w8 ⟨s8, rfl, hk8, hg8⟩; obtain ⟨A8, n8, c8, rfl, -, -, -⟩ := hk8.form; have HG8 := Lib.hid ((HG6.out.bw ((Bw.refl _).alloc _)).bw hg8); have HK8 := Lib.hid hk8; have hsz8 := hg8.b.size; have hbx := (Blk.new w6 28 #[.int .i64 0, .slice none 0 0]).below hg8.b (by simp); have e0 := hbx.cell 0; have e1 := hbx.cell 1; have f0 := hbx.frozen 0; have f1 := hbx.frozen 1; have HBX8 := Lib.hid hbx; have l8 := hbx.lt; clear hbx hk8 hg8))
   all_goals
     go_wp2_with fail
     go_meet
     first
       | exact ⟨_, _, u, _, rfl, rfl, Lib.hid ⟨HU.out, box_store hbl1 HG8.out HBX8.out (by omega) (HK8.out.keep (fun c hc => ⟨by have h1 := hc.1; first | omega | (simp at h1; omega), hc.2, by have h1 := hc.1; first | omega | (simp at h1; omega)⟩) (fun _ _ => rfl))⟩⟩
       | exact ⟨_, _, u, _, rfl, rfl, Lib.hid ⟨HU.out, box_new HG8.out (HK8.out.keep (fun c hc => ⟨by have h1 := hc.1; omega, hc.2⟩) (fun _ _ => rfl))⟩⟩
 case rest =>
   obtain ⟨g, er, u, s, rfl, rfl, HC⟩ := hcut
   obtain ⟨hu, hge, hgb, hk, hg⟩ := HC.out
   obtain ⟨A8, n8, c8, rfl, -, -, -⟩ := hk.form
   obtain ⟨y1, y2, y3⟩ := HB.out _ hg
   have hs1 := (HB.out _ (GD.refl HG0.out.2)).1
   have x0 := y2.cell 0
   have x1 := y2.cell 1
   have x2 := y2.cell 2
   have x3 := y2.cell 3
   have g0 := hgb.cell 0
   have g1 := hgb.cell 1
   have CVC := Lib.hid (CV.out (sortedP t u).1 _ wc (HG0.out.trans hg) (hk.keep (fun x hx => hx.2.1) (fun _ _ => rfl)))
   have HVV : Hid (lsz 8 3 t ≤ 128 → validP t (sortedP t u).1 = true) := Lib.hid (fun h => by
     have := HLS.out u hu h
     rw [this.1]; exact this.2)
   have HK := Lib.hid hk
   have HG := Lib.hid hg
   have HGB := Lib.hid hgb
   clear HC hu hk hg y2 y3 hgb
   generalize (sortedP t u).1 = v at *
   rcases hv : validP t v with _ | _
   · rw [hv] at CVC
     have hns : Hid (¬ lsz 8 3 t ≤ 128) := Lib.hid (fun h => by have := HVV.out h; rw [hv] at this; exact absurd this (by simp))
     clear HVV
     go_wp2_with fail
     refine CVC.out.mono ?_
     rintro e w6 ⟨rfl, hg6⟩
     have hG6 := HG.out.bw hg6
     obtain ⟨y1, y2, y3⟩ := HB.out _ hG6
     have u0 := y2.cell 0
     have u1 := y2.cell 1
     have u2 := y2.cell 2
     have u3 := y2.cell 3
     have HGB6 := Lib.hid (HGB.out.below hg6.b HGB.out.lt)
     have HD6 : Hid (GD b W1 w6.drew) := Lib.hid hG6.drew
     have hbl1 : b < W1.heap.size := Nat.lt_of_lt_of_le hbl HG0.out.size
     clear hG6 y2 y3 hg6 HG HK HGB CVC
     go_wp2_with fail
     go_region_law (first
       | (go_simp; go_at_call 39; have hq := CL0.out w6.drew (HG0.out.trans HD6.out); with_reducible refine hq.mono ?_; clear hq; rintro e w7 ⟨u', s7, rfl, hv7, hk7, hg7⟩; obtain ⟨A7, n7, c7, rfl, -, -, -⟩ := hk7.form; have HG7 := Lib.hid (HD6.out.trans hg7); have HK7 := Lib.hid (hk7.keep (S' := fun x => x < w7.heap.size) (fun x hx => hx.2) (fun _ _ => rfl)); have yb := (HB.out _ HG7.out).2.1; have z0 := yb.cell 0; have z1 := yb.cell 1; have z2 := yb.cell 2; have z3 := yb.cell 3; have HGB7 := Lib.hid (hg7.blk HGB6.out.drew (by omega)); have l7 := HGB7.out.lt; clear hv7 hk7 hg7 yb)
       | (go_simp; go_at_call 31; have hq := CS.out u' _ w7 (HG0.out.trans HG7.out) HK7.out; with_reducible refine hq.mono ?_; clear hq; rintro e w8 ⟨s8, rfl, hk8, hg8⟩; obtain ⟨A9, n9, c9, rfl, -, -, -⟩ := hk8.form; have HG8 := Lib.hid (HG7.out.bw hg8); have HK8 := Lib.hid hk8; have hb8 := HGB7.out.below hg8.b HGB7.out.lt; have e0 := hb8.cell 0; have e1 := hb8.cell 1; have i0 := hb8.frozen 0; have i1 := hb8.frozen 1; have HB8 := Lib.hid hb8; have l8 := hb8.lt; clear hb8 hk8 hg8))
     all_goals
       have hst := box_store (x := (sortedP t u').1.n) hbl1 HG8.out HB8.out hge (HK8.out.keep (S' := fun c => W1.heap.size ≤ c ∧ c < w8.heap.size ∧ c ≠ g) (fun c hc => ⟨by have h1 := hc.1; omega, hc.2, by have h1 := hc.1; omega⟩) (fun _ _ => rfl))
       obtain ⟨-, ha, hka, hga⟩ := hst
       have a0 := ha.cell 0
       have a1 := ha.cell 1
       have yb := (HB.out _ hga).2.2
       have b0 := yb.cell 0
       have b1 := yb.cell 1
       have f0 := yb.frozen 0
       have f1 := yb.frozen 1
       have HBB := Lib.hid (blk_set (i := 1) (.slice A9 n9 c9) (blk_set (i := 0) (.int .i64 (sortedP t u').1.n) yb))
       have HGA := Lib.hid hga
       have HKA := Lib.hid hka
       clear ha hka hga yb
       go_wp2
       refine bodyPost_ret (results_cell_row (p := 4) (ty := 28) rfl _ _ (w.heap.size + 1) 28 _ (0, 0) _ rfl HBB.out Tryz.underlying28 rfl (by kernel_rfl)) rfl ?_
       have := out5 (x := (sortedP t u').1.n) (s := .slice A9 n9 c9) (l := (sortedP t u').1.ks) hbl (HG0.out.trans HGA.out) (HKA.out.keep (fun c hc => ⟨by have := hc.1; omega, hc.2.1⟩) (fun _ _ => rfl))
       exact ⟨(sortedP t u').1, _, rfl, fun h => absurd h hns.out, this.1, this.2⟩
   · rw [hv] at CVC
     go_wp2_with fail
     refine CVC.out.mono ?_
     rintro e w6 ⟨rfl, hg6⟩
     have hG6 := HG.out.bw hg6
     obtain ⟨y1, y2, y3⟩ := HB.out _ hG6
     have hb6 := HGB.out.below hg6.b HGB.out.lt
     have a0 := hb6.cell 0
     have a1 := hb6.cell 1
     have b0 := y3.cell 0
     have b1 := y3.cell 1
     have f0 := y3.frozen 0
     have f1 := y3.frozen 1
     have HBB := Lib.hid (blk_set (i := 1) (.slice A8 n8 c8) (blk_set (i := 0) (.int .i64 v.n) y3))
     have HG6 := Lib.hid (HG0.out.trans hG6)
     have HK6 := Lib.hid (HK.out.keep (w' := w6) (S' := fun c => w.heap.size + 1 + 1 ≤ c ∧ c < w6.heap.size) (fun c hc => ⟨by have := hc.1; omega, Nat.lt_of_lt_of_le hc.2.1 hg6.size⟩) (fun p hp => hg6.b.cell hp.2.1))
     clear hG6 y2 y3 hb6 hg6
     go_wp2
     refine bodyPost_ret (results_cell_row (p := 4) (ty := 28) rfl _ _ (w.heap.size + 1) 28 _ (0, 0) _ rfl HBB.out Tryz.underlying28 rfl (by kernel_rfl)) rfl ?_
     have := out5 (x := v.n) (s := .slice A8 n8 c8) (l := v.ks) hbl HG6.out HK6.out
     exact ⟨v, _, rfl, fun _ => hv, this.1, this.2⟩
def IntsArg (w : World) (A : Option Addr) (n : Nat) : Prop := ∃ zs : List Int, ∀ k, k < n → ∃ ad : Addr, A = some ad ∧ ad.block < w.heap.size ∧ w.cell? (ad.add k) = some (.int .i64 (zs.getD k 0))
theorem new_arg (w W : World) (A : Option Addr) (n c : Nat) (hn : n ≤ 400) (h : IntsArg w A n) (g : Bw w W) : Calls Tryz.prog 13 #[.slice A n c] W (NewPost W) := by
 obtain ⟨zs, hz⟩ := h
 refine new_any W A n c zs hn (fun k hk => ?_)
 obtain ⟨ad, e, hl, hc⟩ := hz k hk
 exact ⟨ad, e, Nat.lt_of_lt_of_le hl g.size, (g.b.cell (by rw [add_block]; exact hl)).trans hc⟩
def DealtT (w : World) (b : Nat) (e : Ending) (w' : World) : Prop := ∃ t A1 rn c1 A2 pn c2, e = .returned (.agg #[.int .i64 t.kind, .int .i64 t.size, .slice A1 rn c1, .slice A2 pn c2]) ∧ rightP 8 t = true ∧ lsz 8 3 t ≤ 128 ∧ TAt w' (TD b w') (.slice A1 rn c1) (.slice A2 pn c2) t ∧ GD b w w'
theorem dealt_any (w : World) (b : Nat) (flat : Bool) (hd : DeckOk w b) : Calls Tryz.prog 14 #[.pointer (some ⟨b, 0, none⟩), .int .i64 3, .bool flat] w (DealtT w b) := by
 have hb := hd.lt
 have := dtype_any b flat 2 (by omega) w hd
 refine Calls.mono (show Calls Tryz.prog 14 #[.pointer (some ⟨b, 0, none⟩), .int .i64 3, .bool flat] w (TypePost w b 3) from by simpa using this) ?_
 rintro e w' ⟨t, r, p, rfl, hm, hT, hg⟩
 obtain ⟨A1, rn, c1, rfl, _, _⟩ := hT.1.form'
 obtain ⟨A2, pn, c2, rfl, _, _, _⟩ := hT.2.form
 have h1 := made_lsz (m := 3) (by omega) hm
 exact ⟨t, A1, rn, c1, A2, pn, c2, rfl, h1.1, h1.2, hT.keep (fun x hx => ⟨by have := hx.1; omega, hx.2⟩) (fun _ _ => rfl), hg⟩
theorem KAt.td {b : Nat} {w w' : World} {v : Value} {l : List V} (h : KAt w (TD b w) v l) (g : GD b w w') : KAt w' (TD b w') v l := h.keep (fun x hx => ⟨hx.1, Nat.lt_of_lt_of_le hx.2 g.size⟩) (fun q hq => g.cell hq.2 hq.1)
theorem KAt.kb_ {b : Nat} {w : World} {v : Value} {l : List V} (h : KAt w (TD b w) v l) : KB w w.heap.size v l := h.keep (fun x hx => hx.2) (fun _ _ => rfl)
end Go.Proofs.YtlmnkcfnihhlgaaGreatDoor
