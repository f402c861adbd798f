/- Part of a proof of basisSets_holds. -/
import Derived.Test.YtbmheekaclmibaaGreatXKidAQ
set_option maxRecDepth 100000
set_option maxHeartbeats 16000000
namespace Go.Proofs.YtbmheekaclmibaaGreat
open Go.RowKit
set_option linter.unusedSimpArgs false
set_option linter.unusedVariables false
def GD (b : Nat) (w w' : World) : Prop := w.grownBy w' (some b) ∧ DeckOk w' b
section
variable {b : Nat} {w w' w'' : World}
theorem GD.size (h : GD b w w') : w.heap.size ≤ w'.heap.size := h.1.size
theorem GD.refl (h : DeckOk w b) : GD b w w := ⟨World.grownBy.refl _ _, h⟩
theorem GD.trans (h : GD b w w') (k : GD b w' w'') : GD b w w'' := ⟨grownBy_trans h.1 k.1, k.2⟩
theorem GD.bw (h : GD b w w') (k : Bw w' w'') : GD b w w'' := ⟨grownBy_trans h.1 ⟨k.os, k.tape, k.output, k.size, fun i hi _ => k.block i hi⟩, h.2.below k.b h.2.lt⟩
theorem GD.own (h : GD b w w') {row : Option Nat} (k : w'.grownBy w'' row) (hr : ∀ r, row = some r → w.heap.size ≤ r) (hb : b < w.heap.size) : GD b w w'' :=
 ⟨⟨k.os.trans h.1.os, k.tape.trans h.1.tape, k.output.trans h.1.output, Nat.le_trans h.1.size k.size, fun i hi hne => (k.block i (Nat.lt_of_lt_of_le hi h.1.size) (fun e => by have := hr i e.symm; omega)).trans (h.1.block i hi hne)⟩,
  by
   have hlt := h.2.lt
   obtain ⟨A, n, c, zs, at_, st, hd⟩ := h.2
   have hbb : w''.heap[b]? = w'.heap[b]? := k.block b hlt (fun e => by have := hr b e.symm; omega)
   refine ⟨A, n, c, zs, at_, st, hbb.trans hd.blk, fun j hj => ?_, hd.le, hd.small, hd.st0, hd.st1⟩
   obtain ⟨ad, e, hl, hc⟩ := hd.rd j hj
   exact ⟨ad, e, hl, (World.cell?_of_block (k.block _ (by rw [add_block]; omega) (fun e => by have := hr _ e.symm; rw [add_block] at this; omega))).trans hc⟩⟩
theorem GD.cell (h : GD b w w') {p : Addr} (hp : p.block < w.heap.size) (hne : p.block ≠ b) : w'.cell? p = w.cell? p := World.cell?_of_block (h.1.block _ hp (fun e => hne (by injection e)))
theorem GD.blk (h : GD b w w') {g : Nat} {t : TypeId} {cs : Array Value} (hg : Blk w g t cs) (hne : g ≠ b) : Blk w' g t cs := hg.grown h.1 (fun e => hne (by injection e))
end
abbrev AB (b : Nat) (w : World) : Nat → Prop := fun x => b < x ∧ x < w.heap.size
theorem KAt.gd {b : Nat} {w w' : World} {s : Value} {l : List V} (h : KAt w (AB b w) s l) (g : GD b w w') : KAt w' (AB b w') s l := h.keep (fun x hx => ⟨hx.1, Nat.lt_of_lt_of_le hx.2 g.size⟩) (fun p hp => g.cell hp.2 (by have := hp.1; omega))
theorem TAt.gd {b : Nat} {w w' : World} {r p : Value} {t : T} (h : TAt w (AB b w) r p t) (g : GD b w w') : TAt w' (AB b w') r p t := h.keep (fun x hx => ⟨hx.1, Nat.lt_of_lt_of_le hx.2 g.size⟩) (fun q hq => g.cell hq.2 (by have := hq.1; omega))
theorem PAt.gd {b : Nat} {w w' : World} {p : Value} {l : List T} (h : PAt w (AB b w) p l) (g : GD b w w') : PAt w' (AB b w') p l := h.keep (fun x hx => ⟨hx.1, Nat.lt_of_lt_of_le hx.2 g.size⟩) (fun q hq => g.cell hq.2 (by have := hq.1; omega))
theorem KAt.ab {b : Nat} {w : World} {s : Value} {l : List V} (h : KAt w (AB b w) s l) : KB w w.heap.size s l := h.keep (fun x hx => hx.2) (fun _ _ => rfl)
theorem TAt.ab {b : Nat} {w : World} {r p : Value} {t : T} (h : TAt w (AB b w) r p t) : TB w w.heap.size r p t := h.keep (fun x hx => hx.2) (fun _ _ => rfl)
abbrev FB (w w' : World) : Nat → Prop := fun x => w.heap.size ≤ x ∧ x < w'.heap.size

def OnePost (w : World) (b : Nat) (e : Ending) (w' : World) : Prop := ∃ r : Bool, e = .returned (.bool r) ∧ GD b w w'
theorem one_any (w : World) (b : Nat) (hd : DeckOk w b) (n : Int) (h1 : 1 ≤ n) (hn : n < 9223372036854775808) : Calls Tryz.prog 118 #[.pointer (some ⟨b, 0, none⟩), .int .i64 n] w (OnePost w b) := by
 go_enter Tryz.func118, Tryz.ntmps118
 go_wp2_with (go_at_call 38; go_must (refine (next_any _ _ hd n h1 hn).mono ?_; rintro e w' ⟨r, rfl, hr0, hr1, hd', hg⟩))
 go_ret
 exact ⟨_, rfl, hg, hd'⟩
def SmallPost (w : World) (b : Nat) (n : Nat) (most : Int) (e : Ending) (w' : World) : Prop := ∃ s xs, e = .returned s ∧ xs.length = n ∧ (∀ x ∈ xs, 0 ≤ x ∧ x ≤ most) ∧ IAt w' (FB w w') s xs ∧ GD b w w'
theorem small_any (w : World) (b : Nat) (hd : DeckOk w b) (n : Nat) (hn : n ≤ 1000) (most : Int) (h0 : 0 ≤ most) (h1 : most ≤ 1000) :
   Calls Tryz.prog 39 #[.pointer (some ⟨b, 0, none⟩), .int .i64 n, .int .i64 most] w (SmallPost w b n most) := by
 have hbl := hd.lt
 have HD := Lib.hid hd
 clear hd
 obtain ⟨i0, hi, hz0, hz1, hz2⟩ := info_parts infoInt
 go_enter Tryz.func39, Tryz.ntmps39
 go_wp2
 go_loopw [7, 8] (fun s7 i wr => ∃ k : Nat, k ≤ n ∧ i = .int .i64 k ∧ Hid (∃ xs : List Int, xs.length = k ∧ (∀ x ∈ xs, 0 ≤ x ∧ x ≤ most) ∧ wr.ownsRow w.heap.size 3 1 s7 k (intVs xs) ∧ GD b w wr)) (fun _ i _ => n - (intOf i).toNat)
 case atStart => exact ⟨0, by omega, by go_num, Lib.hid ⟨[], rfl, by simp, World.ownsRow_nil _ _ _ _, GD.refl HD.out⟩⟩
 case round =>
   obtain ⟨k, hk, rfl, HR⟩ := hrel
   obtain ⟨xs, hl, hx, ho, hg⟩ := HR.out
   obtain ⟨VA, vc, rfl⟩ := own_form ho
   by_cases hlt : k < n
   · have CN := Lib.hid (next_any wr b hg.2 (most + 1) (by omega) (by omega))
     have HL := Lib.hid hl
     have HX := Lib.hid hx
     have HO := Lib.hid ho
     have HG := Lib.hid hg
     clear hl hx ho hg HR
     go_wp2_with (first
       | (go_at_call 38; go_must (refine CN.out.mono ?_; rintro e w6 ⟨r, rfl, hr0, hr1, hd6, hg6⟩; (have HR0 := Lib.hid hr0); (have HR1 := Lib.hid hr1); (have HG6 : Hid (GD b wr w6) := Lib.hid ⟨hg6, hd6⟩); (have HO6 : Hid (w6.ownsRow w.heap.size 3 1 (.slice VA k vc) k (intVs xs)) := Lib.hid (HO.out.kept hg6 (.inr (fun e => by have := (HO.out.lt _ e).1; omega)))); (have hs6 : w.heap.size ≤ w6.heap.size := (HG.out.trans HG6.out).size); clear hr0 hr1 hd6 hg6))
       | (at_builtin; go_must (refine wpList_append_any _ rfl _ _ 22 rfl w.heap.size 3 i0 _ 1 8 Tryz.underlying22 hi hz0 hz1 hz2 rfl (by decide) (.slice VA k vc) k (intVs xs) rfl (HO6.out.alloc _) (w6.heap.size + 1) (some ⟨w6.heap.size, 0, none⟩) 1 1 [.int .i64 r] rfl (reads_new1 w6 _) (by simp [Value.oneCell']) (by unfold maxLen; omega) (by omega) (by simp; omega) ?_; intro v7 w7 hown7 hgr7 hl7; obtain ⟨A7, c7, rfl⟩ := own_form hown7; (have HO7 := Lib.hid hown7); (have HG7 := Lib.hid hgr7); clear hown7 hgr7 hl7)))
     go_roundw
     case rel =>
       refine ⟨k + 1, by omega, by go_num, Lib.hid ⟨xs ++ [r], by simp [HL.out], fun x hx => ?_, ?_, ?_⟩⟩
       · rcases List.mem_append.1 hx with hx | hx
         · exact HX.out x hx
         · obtain rfl := List.mem_singleton.1 hx
           have := HR0.out; have := HR1.out; omega
       · rw [← intVs_append]; exact HO7.out
       · exact ((HG.out.trans HG6.out).bw ((Bw.refl _).alloc _)).own HG7.out (fun r e => (HO6.out.lt r e).1) hbl
     case measure => simp [intOf]; omega
   · obtain rfl : k = n := by omega
     have HL := Lib.hid hl
     have HX := Lib.hid hx
     have HO := Lib.hid ho
     have HG := Lib.hid hg
     clear hl hx ho hg HR
     go_wp2
     go_ret
     exact ⟨_, xs, rfl, HL.out, HX.out, own_IB HO.out HL.out, HG.out⟩
def DWordPost (w : World) (b : Nat) (letters most : Int) (e : Ending) (w' : World) : Prop := ∃ s xs, e = .returned s ∧ (xs.length : Int) ≤ most ∧ (∀ x ∈ xs, 0 ≤ x ∧ x < letters) ∧ IAt w' (FB w w') s xs ∧ GD b w w'
theorem dword_any (w : World) (b : Nat) (hd : DeckOk w b) (letters most : Int) (h0 : 1 ≤ letters) (h1 : letters ≤ 1000) (h2 : 0 ≤ most) (h3 : most ≤ 900) :
   Calls Tryz.prog 89 #[.pointer (some ⟨b, 0, none⟩), .int .i64 letters, .int .i64 most] w (DWordPost w b letters most) := by
 have CN := Lib.hid (next_any w b hd (most + 1) (by omega) (by omega))
 have CS := Lib.hid (fun W (hd : DeckOk W b) (n : Nat) (hn : n ≤ 1000) => small_any W b hd n hn (letters - 1) (by omega) (by omega))
 clear hd
 go_enter Tryz.func89, Tryz.ntmps89
 go_wp2_with (first
   | (go_at_call 38; go_must (refine CN.out.mono ?_; rintro e w6 ⟨r, rfl, hr0, hr1, hd6, hg6⟩; obtain ⟨m, rfl⟩ : (∃ m : Nat, r = (m : Int)) := ⟨r.toNat, by omega⟩; (have HD6 := Lib.hid hd6); (have HG6 : Hid (GD b w w6) := Lib.hid ⟨hg6, hd6⟩); clear hd6 hg6))
   | (go_at_call 39; go_must (refine (CS.out _ HD6.out m (by omega)).mono ?_; rintro e w7 ⟨s7, xs, rfl, hl7, hx7, hk7, hg7⟩; obtain ⟨A7, n7, c7, rfl, _, _, _⟩ := hk7.form; (have HL7 := Lib.hid hl7); (have HX7 := Lib.hid hx7); (have HK7 := Lib.hid hk7); (have HG7 := Lib.hid hg7); clear hl7 hx7 hk7 hg7)))
 go_ret
 exact ⟨_, xs, rfl, by rw [HL7.out]; omega, fun x hx => by have := HX7.out x hx; omega, HK7.out.keep (fun x hx => ⟨Nat.le_trans HG6.out.size hx.1, hx.2⟩) (fun _ _ => rfl), HG6.out.trans HG7.out⟩
def RowPost (w : World) (v : V) (e : Ending) (w' : World) : Prop := ∃ s ss, e = .returned (.agg #[.int .i64 v.n, s]) ∧ VRow w' 39 w.heap.size w.heap.size s v.ks ss ∧ Bw w w'
theorem VRow.more {w : World} {e L B L' B' : Nat} {v : Value} {l : List V} {ss : List Value} (h : VRow w e L B v l ss) (hL : L' ≤ L) (hB : B' ≤ B) : VRow w e L' B' v l ss :=
 ⟨own_base h.own hB, h.len, fun k h1 h2 => (h.kid k h1 h2).keep (fun b hb => ⟨by omega, hb.2⟩) (fun _ _ => rfl)⟩
theorem KidsI.row_out {W w : World} {P E : TypeId} {x : Int} {A : Option Addr} {n c : Nat} {sv : Value} {l : List V} {ss : List Value} (h : KidsI W w P E x A n c sv l ss) :
   VRow ((W.setCell ⟨w.heap.size + 1, 0, none⟩ (.int .i64 x)).setCell ⟨w.heap.size + 1, 1, none⟩ sv) E w.heap.size w.heap.size sv l ss := by
 have e1 := grownBy_setCell (p := ⟨w.heap.size + 1, 1, none⟩) (grownBy_setCell (p := ⟨w.heap.size + 1, 0, none⟩) (World.grownBy.refl W (some (w.heap.size + 1))) (.inl rfl) (.int .i64 x)) (.inl rfl) sv
 refine VRow.more (h.row.keep e1 (fun r e => ?_)) (by omega) (by omega)
 injection e with e; subst e
 exact ⟨fun e => by have := (h.row.own.lt _ e).1; omega, by omega⟩
theorem r6CopyS_step (v : V) (h9 : v.size ≤ 1000000) (ih : ∀ k ∈ v.ks, ∀ (s : Value) (W : World), KB W W.heap.size s k.ks → Calls Tryz.prog 117 #[aggV k s] W (ValPost W k)) (s : Value) (w : World) (h : KB w w.heap.size s v.ks) :
   Calls Tryz.prog 117 #[.agg #[.int .i64 v.n, s]] w (RowPost w v) := by
 obtain ⟨A, n, c, rfl, ln, bn, mn⟩ := h.form
 unfold maxLen at mn
 have h10 : v.ks.length ≤ 1000000 := by have := sizeL_length v.ks; have := v.size_eq; omega
 rw [ln] at h10
 have HK := Lib.hid h
 have HIH := Lib.hid ih
 have LN := Lib.hid ln
 unfold RowPost
 have HST := Lib.hid (KidsI.start w 39 39 v.n A n c)
 clear h ih ln h9
 obtain ⟨i0, hi, hz0, hz1, hz2⟩ := info_parts infoVal
 generalize v.n = x at *
 go_enter Tryz.func117, Tryz.ntmps117
 go_wp2
 go_loopw [4] (fun i wr => ∃ k : Nat, k ≤ n ∧ i = .int .i64 k ∧ Hid (∃ sv ss, KidsI wr w 39 39 x A n c sv (v.ks.take k) ss)) (fun i _ => n - (intOf i).toNat)
 case atStart => exact ⟨0, by omega, rfl, Lib.hid ⟨_, [], HST.out⟩⟩
 case round =>
   obtain ⟨k, hk, rfl, HR⟩ := hrel
   obtain ⟨sv, ss, hI⟩ := HR.out
   have HI0 := Lib.hid hI
   obtain ⟨VA, vc, rfl, vb1, vb2⟩ := hI.row.form
   have hlk : (v.ks.take k).length = k := by rw [List.length_take, LN.out]; omega
   have w2 := hI.b2.lt
   have q2 := hI.b2.cell 0
   have q3 := hI.b2.cell 1
   have f3 := hI.b2.frozen 1
   rw [hlk] at q3 HI0 vb1
   by_cases hlt : k < n
   · have e1 : k < v.ks.length := by rw [LN.out]; exact hlt
     obtain ⟨ad, sA, sn, sc, rfl, hb, q0, q1, sl, hs⟩ := (HK.out.bw hI.bw).at_ e1
     have HT : Hid (v.ks.take (k + 1) = v.ks.take k ++ [v.ks[k]]) := Lib.hid (List.take_succ_eq_append_getElem e1)
     have CP : Hid (∀ W, Bw wr W → Calls Tryz.prog 117 #[.agg #[.int .i64 v.ks[k].n, .slice sA sn sc]] W (ValPost W v.ks[k])) := Lib.hid (fun W g => HIH.out _ (List.getElem_mem e1) _ _ (hs.bw g))
     have b1 := hI.b0.cell 1
     have lb0 := hI.b0.lt
     clear hs sl hI HR hlk
     generalize hy : v.ks[k] = y at *
     clear hy
     obtain ⟨yn, hyn⟩ : ∃ yn, y.n = yn := ⟨_, rfl⟩
     unfold ValPost at CP
     rw [hyn] at CP q0
     have HYN := Lib.hid hyn
     clear hyn
     go_wp2_with fail
     have HGW : Hid (Bw wr wr) := Lib.hid (Bw.refl _)
     have KS : Hid (∀ W', Bw wr.drew W' → w.heap.size + 1 + 1 < W'.heap.size ∧ W'.cell? ⟨w.heap.size + 1 + 1, 1, none⟩ = some (.slice VA k vc) ∧ KidsI W' w 39 39 x (some ad) n c (.slice VA k vc) (v.ks.take k) ss) := Lib.hid (fun W' g => by
       have h2 := (HI0.out.keep HGW.out).keep ((Bw.refl _).drew.trans g)
       exact ⟨h2.b2.lt, h2.b2.cell 1, h2⟩)
     have CP2 : Hid (Calls Tryz.prog 117 #[.agg #[.int .i64 yn, .slice sA sn sc]] wr.drew _) := Lib.hid (CP.out _ (HGW.out.drew))
     clear CP
     have HLK : Hid ((v.ks.take k).length = k) := Lib.hid (by rw [List.length_take, LN.out]; omega)
     have hsz9 : wr.drew.heap.size = wr.heap.size := rfl
     go_region_law (first
       | (refine step_append_any _ rfl (.tmp 16) (.tmp 23) 31 rfl (w.heap.size + 1 + 1 + 1) 39 i0 _ 2 32 Tryz.underlying31 hi hz0 hz1 hz2 rfl (by decide) (.slice VA k vc) k (vCells (v.ks.take k) ss) (by simp [Act.eval, Act.put]) (by have := (HI6.out.row.own.alloc (.cells #[.int .i64 yn, .slice A6 n6 c6] 39)); rwa [HLK.out] at this) (w6.heap.size + 1) (some ⟨w6.heap.size, 0, none⟩) 1 1 [.int .i64 yn, .slice A6 n6 c6] (by simp [Act.eval, Act.put]) (reads_new2 w6 _ _ _) (one2 _ _ _ _) (by unfold maxLen; omega) (by omega) (by simp <;> omega) ?_; intro v7 w7 hown7 hgr7 hl7; obtain ⟨A7, c7, rfl⟩ := own_form hown7; have hne7 : some (w.heap.size + 1 + 1) ≠ (Value.slice VA k vc).ownBlock := (fun e => by have := (HI6.out.row.own.lt _ e.symm).1; omega); have k7 := (HI6.out.b2.alloc (.cells #[.int .i64 yn, .slice A6 n6 c6] 39)).grown hgr7 hne7; have y7 := k7.cell 1; have z7 := k7.frozen 1; have l7 := k7.lt; have HO7 := Lib.hid hown7; have HG7 := Lib.hid hgr7; have HL7 := Lib.hid hl7; clear hown7 hgr7 hl7 k7 hne7)
       | (go_simp; go_at_call 117; refine CP2.out.mono ?_; rintro e w6 ⟨s6, rfl, hk6, hg6⟩; obtain ⟨A6, n6, c6, rfl, ln6, _, _⟩ := hk6.form; have HK6 := Lib.hid hk6; obtain ⟨u0, u1, u2⟩ := KS.out _ hg6; have HI6 := Lib.hid u2; have HG6 := Lib.hid hg6; have hs6 := hg6.size; clear hk6 hg6 ln6 u2))
     all_goals
       go_wp2
       go_roundw
       case rel =>
         refine ⟨k + 1, by omega, by go_num, Lib.hid ⟨.slice A7 (k + 1) c7, ss ++ [.slice A6 n6 c6], ?_⟩⟩
         rw [HT.out]
         have hI6 := HI6.out
         refine (hI6.keep ((Bw.refl w6).alloc (.cells #[.int .i64 yn, .slice A6 n6 c6] 39))).push (y := y) (s := .slice A6 n6 c6) ?_ ?_ HG7.out HL7.out
         · refine KAt.keep (S := fun b => wr.heap.size ≤ b ∧ b < w6.heap.size) ?_ (fun b hb => ⟨by have := HI0.out.b2.lt; have := HGW.out.size; omega, by simp; omega, fun e => ?_⟩) (fun p hp => World.cell?_alloc_lt w6 _ p hp.2)
           · exact HK6.out.keep (fun b hb => hb) (fun _ _ => rfl)
           · have h3 := (HI0.out.row.own.lt b e).2; have := HGW.out.size; omega
         · rw [HLK.out, HYN.out]; exact HO7.out
       case measure => simp [intOf]; omega
   · obtain rfl : k = n := by omega
     have b0 := hI.b0.cell 1
     have r0 := hI.b1.cell 0
     have r1 := hI.b1.cell 1
     have g0 := hI.b1.frozen 0
     have g1 := hI.b1.frozen 1
     have HBB := Lib.hid (blk_set (i := 1) (.slice VA k vc) (blk_set (i := 0) (.int .i64 x) hI.b1))
     clear hI HR
     go_wp2
     refine bodyPost_ret (results_cell_row (p := 2) (ty := 39) rfl _ _ (w.heap.size + 1) 39 _ (0, 0) _ rfl HBB.out Tryz.underlying39 rfl (by kernel_rfl)) rfl ?_
     have := HI0.out.out
     have h2 := HI0.out.row_out
     rw [List.take_of_length_le (by rw [LN.out]; omega)] at this h2
     exact ⟨_, _, rfl, h2, this.2⟩
theorem r6CopyS_any (v : V) (hv : v.size ≤ 1000000) (s : Value) (w : World) (h : KB w w.heap.size s v.ks) : Calls Tryz.prog 117 #[.agg #[.int .i64 v.n, s]] w (RowPost w v) :=
 r6CopyS_step v hv (fun k hk s' W h2 => r6Copy_any k (by have := V.size_kid hk; omega) s' W h2) s w h
def MadePost (w : World) (b : Nat) (P : V → Prop) (e : Ending) (w' : World) : Prop := ∃ v s, e = .returned (.agg #[.int .i64 v.n, s]) ∧ P v ∧ KAt w' (FB w w') s v.ks ∧ GD b w w'
theorem GD.drew {b : Nat} {w w' : World} (h : GD b w w') : GD b w w'.drew := h.bw (Bw.refl _).drew
theorem GD.ofDrew {b : Nat} {w w' : World} (h : GD b w.drew w') : GD b w w' := ⟨⟨h.1.os, h.1.tape, h.1.output, h.1.size, h.1.block⟩, h.2⟩
structure MakeI (b : Nat) (W w : World) (E : TypeId) (B0 B1 : Nat) (x : Int) (sv : Value) (l : List V) (ss : List Value) : Prop where
 h0 : w.heap.size ≤ B0
 h1 : B0 < B1
 b1 : Blk W B0 E #[.int .i64 0, .slice none 0 0]
 b2 : Blk W B1 E #[.int .i64 x, sv]
 row : VRow W E (B1 + 1) (B1 + 1) sv l ss
 gd : GD b w W
section
variable {b : Nat} {W W' w w7 : World} {E : TypeId} {B0 B1 : Nat} {x : Int} {sv v7 : Value} {l : List V} {ss : List Value}
theorem MakeI.keep (h : MakeI b W w E B0 B1 x sv l ss) (hb : b < w.heap.size) (g : GD b W W') : MakeI b W' w E B0 B1 x sv l ss :=
 ⟨h.h0, h.h1, g.blk h.b1 (by have := h.h0; omega), g.blk h.b2 (by have := h.h0; have := h.h1; omega), h.row.keep g.1 (fun r e => by
   injection e with e; subst e
   have := h.h0; have := h.h1
   exact ⟨fun e => by have := (h.row.own.lt _ e).1; omega, by omega⟩), h.gd.trans g⟩
theorem MakeI.push (h : MakeI b W w E B0 B1 x sv l ss) (hb : b < w.heap.size) {y : V} {s : Value}
   (hs : KAt W (fun c => B1 + 1 ≤ c ∧ c < W.heap.size ∧ sv.ownBlock ≠ some c) s y.ks) (hown : w7.ownsRow (B1 + 1) E 2 v7 (l.length + 1) (vCells l ss ++ [.int .i64 y.n, s])) (hg : W.grownBy w7 sv.ownBlock) (hv : v7.ownBlock = sv.ownBlock ∨ v7.ownBlock = some W.heap.size) :
   MakeI b (w7.setCell ⟨B1, 1, none⟩ v7) w E B0 B1 x v7 (l ++ [y]) (ss ++ [s]) := by
 have hr : ∀ r, sv.ownBlock = some r → B1 + 1 ≤ r := fun r e => (h.row.own.lt r e).1
 have ne : ∀ r, r < B1 + 1 → some r ≠ sv.ownBlock := fun r hr' e => by have := hr r e.symm; omega
 have hrow := h.row.push hs hown hg hv
 have e1 := grownBy_setCell (p := ⟨B1, 1, none⟩) (World.grownBy.refl w7 (some B1)) (.inl rfl) v7
 have hl := h.b2.lt
 have q0 := h.h0
 have q1 := h.h1
 refine ⟨h.h0, h.h1, (h.b1.grown hg (ne _ (by omega))).far (by dsimp only; omega) _, (h.b2.grown hg (ne _ (by omega))).set_ 1 v7, hrow.keep e1 (fun r e => by
   injection e with e; subst e
   exact ⟨fun e => by have := (hown.lt _ e).1; omega, by omega⟩), ?_⟩
 exact (h.gd.own hg (fun r e => by have := hr r e; omega) hb).own e1 (fun r e => by injection e with e; omega) hb
theorem MakeI.out (h : MakeI b W w E B0 B1 x sv l ss) (hb : b < w.heap.size) :
   KAt ((W.setCell ⟨B0, 0, none⟩ (.int .i64 x)).setCell ⟨B0, 1, none⟩ sv) (FB w ((W.setCell ⟨B0, 0, none⟩ (.int .i64 x)).setCell ⟨B0, 1, none⟩ sv)) sv l ∧
   GD b w ((W.setCell ⟨B0, 0, none⟩ (.int .i64 x)).setCell ⟨B0, 1, none⟩ sv) := by
 have q0 := h.h0
 have q1 := h.h1
 refine ⟨(h.row.kat (Nat.le_refl _)).keep (fun c hc => ⟨by have := hc.1; omega, by have := hc.2; simp [World.setCell]; exact this⟩) (fun p hp => by
   have hp1 := hp.1
   rw [World.cell?_setCell_other _ _ _ _ (by intro e; subst e; simp at hp1; omega), World.cell?_setCell_other _ _ _ _ (by intro e; subst e; simp at hp1; omega)]), ?_⟩
 have e1 := grownBy_setCell (p := ⟨B0, 1, none⟩) (grownBy_setCell (p := ⟨B0, 0, none⟩) (World.grownBy.refl W (some B0)) (.inl rfl) (.int .i64 x)) (.inl rfl) sv
 exact h.gd.own e1 (fun r e => by injection e with e; omega) hb
end
theorem MakeI.start {b : Nat} {w w6 : World} {E : TypeId} {x : Int} (g : GD b (w.alloc (.cells #[.int .i64 0, .slice none 0 0] E)) w6) (hd : DeckOk w b) : MakeI b (w6.alloc (.cells #[.int .i64 x, .slice none 0 0] E)) w E w.heap.size w6.heap.size x (.slice none 0 0) [] [] := by
 have hb := hd.lt
 have g0 : GD b w (w.alloc (.cells #[.int .i64 0, .slice none 0 0] E)) := (GD.refl hd).bw ((Bw.refl _).alloc _)
 exact ⟨Nat.le_refl _, by have := g.size; simp at this; omega, (g.blk (Blk.new w E #[.int .i64 0, .slice none 0 0]) (by omega)).alloc _, Blk.new _ _ _, VRow.nil _ _ _ _, (g0.trans g).bw ((Bw.refl _).alloc _)⟩
def TreeOkP (labels : Int) (most : Nat) (v : V) : Prop := taggedP labels v = true ∧ v.size ≤ most
theorem dtree_step (b : Nat) (labels : Int) (h0 : 1 ≤ labels) (h1 : labels ≤ 1000) (most : Nat) (h2 : most ≤ 1000)
   (ih : ∀ m, m < most → ∀ (W : World), DeckOk W b → Calls Tryz.prog 87 #[.pointer (some ⟨b, 0, none⟩), .int .i64 labels, .int .i64 ((m : Int) + 1)] W (MadePost W b (TreeOkP labels (m + 1))))
   (w : World) (hd : DeckOk w b) : Calls Tryz.prog 87 #[.pointer (some ⟨b, 0, none⟩), .int .i64 labels, .int .i64 ((most : Int) + 1)] w (MadePost w b (TreeOkP labels (most + 1))) := by
 have hbl := hd.lt
 have HIH := Lib.hid ih
 have HD := Lib.hid hd
 have CN := Lib.hid (fun W (h : DeckOk W b) => next_any W b h labels (by omega) (by omega))
 have CN2 := Lib.hid (fun W (h : DeckOk W b) (m : Int) (h1 : 1 ≤ m) (h2 : m < 9223372036854775808) => next_any W b h m h1 h2)
 have CO := Lib.hid (fun W (h : DeckOk W b) => one_any W b h 3 (by omega) (by omega))
 have g0 : GD b w (w.alloc (.cells #[.int .i64 0, .slice none 0 0] 95)) := (GD.refl hd).bw ((Bw.refl _).alloc _)
 have HG0 := Lib.hid g0
 clear hd ih g0
 obtain ⟨i0, hi, hz0, hz1, hz2⟩ := info_parts infoTree
 unfold MadePost
 go_enter Tryz.func87, Tryz.ntmps87
 go_wp2_with (go_at_call 38; go_must (refine (CN.out _ HG0.out.2).mono ?_; rintro e w6 ⟨x, rfl, hx0, hx1, hd6, hg6⟩; (have HX : Hid (0 ≤ x ∧ x < labels) := Lib.hid ⟨hx0, hx1⟩); (have HST := Lib.hid (MakeI.start (x := x) (w := w) (E := 95) ⟨hg6, hd6⟩ HD.out)); clear hx0 hx1 hd6 hg6))
 generalize hB1 : w6.heap.size = B1 at *
 clear hB1
 have HX := HX
 go_loopw [8] (fun i wr => ∃ k : Nat, k ≤ most ∧ i = .int .i64 k ∧ Hid (∃ sv l ss, MakeI b wr w 95 w.heap.size B1 x sv l ss ∧ sizeL l + k ≤ most ∧ l.all (taggedP labels) = true)) (fun i _ => (intOf i).toNat)
 case atStart => exact ⟨most, by omega, by go_num, Lib.hid ⟨_, [], [], HST.out, by simp [sizeL], rfl⟩⟩
 case round =>
   obtain ⟨k, hk, rfl, HR⟩ := hrel
   obtain ⟨sv, l, ss, hI, hsz, htg⟩ := HR.out
   have HI0 := Lib.hid hI
   have HSZ := Lib.hid hsz
   have HTG := Lib.hid htg
   obtain ⟨VA, vc, rfl, vb1, vb2⟩ := hI.row.form
   have hll : l.length ≤ most := by have := sizeL_length l; omega
   have w2 := hI.b2.lt
   have FIN : Hid (∀ wr', MakeI b wr' w 95 w.heap.size B1 x (.slice VA l.length vc) l ss → (wr'.cell? ⟨B1, 0, none⟩ = some (.int .i64 x) ∧ wr'.cell? ⟨B1, 1, none⟩ = some (.slice VA l.length vc)) ∧ wr'.cell? ⟨w.heap.size, 0, none⟩ = some (.int .i64 0) ∧ wr'.cell? ⟨w.heap.size, 1, none⟩ = some (.slice none 0 0) ∧ wr'.frozen? ⟨w.heap.size, 0, none⟩ = false ∧ wr'.frozen? ⟨w.heap.size, 1, none⟩ = false ∧ Blk ((wr'.setCell ⟨w.heap.size, 0, none⟩ (.int .i64 x)).setCell ⟨w.heap.size, 1, none⟩ (.slice VA l.length vc)) w.heap.size 95 #[.int .i64 x, .slice VA l.length vc] ∧ w.heap.size < wr'.heap.size ∧ B1 < wr'.heap.size) := Lib.hid (fun wr' h => ⟨⟨h.b2.cell 0, h.b2.cell 1⟩, h.b1.cell 0, h.b1.cell 1, h.b1.frozen 0, h.b1.frozen 1, blk_set (i := 1) (.slice VA l.length vc) (blk_set (i := 0) (.int .i64 x) h.b1), h.b1.lt, h.b2.lt⟩)
   have POST : Hid (∀ wr', MakeI b wr' w 95 w.heap.size B1 x (.slice VA l.length vc) l ss → ∃ v s, Ending.returned (.agg #[.int .i64 x, .slice VA l.length vc]) = .returned (.agg #[.int .i64 v.n, s]) ∧ TreeOkP labels (most + 1) v ∧ KAt ((wr'.setCell ⟨w.heap.size, 0, none⟩ (.int .i64 x)).setCell ⟨w.heap.size, 1, none⟩ (.slice VA l.length vc)) (FB w ((wr'.setCell ⟨w.heap.size, 0, none⟩ (.int .i64 x)).setCell ⟨w.heap.size, 1, none⟩ (.slice VA l.length vc))) s v.ks ∧ GD b w ((wr'.setCell ⟨w.heap.size, 0, none⟩ (.int .i64 x)).setCell ⟨w.heap.size, 1, none⟩ (.slice VA l.length vc))) := Lib.hid (fun wr' h => by
     have := h.out hbl
     refine ⟨.mk x l, _, rfl, ⟨?_, ?_⟩, this.1, this.2⟩
     · rw [taggedP_eq]
       simp only [V.n_mk, V.ks_mk, htg, Bool.and_true, Bool.and_eq_true, decide_eq_true_eq]
       exact ⟨decide_eq_true HX.out.1, decide_eq_true HX.out.2⟩
     · simp only [V.size]; omega)
   have CO2 := Lib.hid (CO.out wr hI.gd.2)
   clear hsz htg hI HR
   by_cases hk0 : 0 < k
   · have d1 : decide ((0 : Int) < (k : Int)) = true := by simpa using hk0
     go_wp2_with fail
     refine CO2.out.mono ?_
     rintro e w7 ⟨r, rfl, hg7⟩
     have hI7 := HI0.out.keep hbl hg7
     have HI7 := Lib.hid hI7
     cases r with
     | true =>
       obtain ⟨⟨r0, r1⟩, r2, r3, r4, r5, r6, r7, r8⟩ := FIN.out w7 hI7
       have HBB := Lib.hid r6
       clear r6 hg7 hI7
       go_wp2
       refine bodyPost_ret (results_cell_row (p := 6) (ty := 95) rfl _ _ w.heap.size 95 _ (0, 0) _ rfl HBB.out Tryz.underlying95 rfl (by kernel_rfl)) rfl ?_
       exact POST.out w7 HI7.out
     | false =>
       have CN3 := Lib.hid (CN2.out w7 hg7.2 (k : Int) (by omega) (by omega))
       clear hg7 hI7 POST FIN CO2
       go_wp2_with fail
       refine CN3.out.mono ?_
       rintro e w8 ⟨r, rfl, hr0, hr1, hd8, hg8⟩
       obtain ⟨m, rfl⟩ : ∃ m : Nat, r = (m : Int) := ⟨r.toNat, by omega⟩
       have hm : m < k := by omega
       have hI8 := HI7.out.keep hbl ⟨hg8, hd8⟩
       have HI8 := Lib.hid hI8
       have q3 := hI8.b2.cell 1
       have f3 := hI8.b2.frozen 1
       have w3 := hI8.b2.lt
       clear hr0 hr1 hd8 hg8 CN3
       go_wp2_with fail
       have KS : Hid (∀ W', GD b w8.drew W' → B1 < W'.heap.size ∧ W'.cell? ⟨B1, 1, none⟩ = some (.slice VA l.length vc) ∧ MakeI b W' w 95 w.heap.size B1 x (.slice VA l.length vc) l ss) := Lib.hid (fun W' g => by
         have h2 := HI8.out.keep hbl g.ofDrew
         exact ⟨h2.b2.lt, h2.b2.cell 1, h2⟩)
       have CP2 : Hid (Calls Tryz.prog 87 #[.pointer (some ⟨b, 0, none⟩), .int .i64 labels, .int .i64 (1 + (m : Int))] w8.drew (MadePost w8.drew b (TreeOkP labels (m + 1)))) := Lib.hid (by
         have := HIH.out m (by omega) w8.drew (HI8.out.gd.drew.2)
         rwa [Int.add_comm (m : Int) 1] at this)
       unfold MadePost at CP2
       have hsz9 : w8.drew.heap.size = w8.heap.size := rfl
       clear hI8
       go_region_law (first
         | (refine step_append_any _ rfl (.tmp 28) (.tmp 33) 93 rfl (B1 + 1) 95 i0 _ 2 32 Tryz.underlying93 hi hz0 hz1 hz2 rfl (by decide) (.slice VA l.length vc) l.length (vCells l ss) (by simp [Act.eval, Act.put]) (HI9.out.row.own.alloc (.cells #[.int .i64 yn, .slice A9 n9 c9] 95)) (w9.heap.size + 1) (some ⟨w9.heap.size, 0, none⟩) 1 1 [.int .i64 yn, .slice A9 n9 c9] (by simp [Act.eval, Act.put]) (reads_new2 w9 _ _ _) (one2 _ _ _ _) (by unfold maxLen; omega) (by omega) (by simp <;> omega) ?_; intro v7 w10 hown7 hgr7 hl7; obtain ⟨A7, c7, rfl⟩ := own_form hown7; have hne7 : some B1 ≠ (Value.slice VA l.length vc).ownBlock := (fun e => by have := (HI9.out.row.own.lt _ e.symm).1; omega); have k7 := (HI9.out.b2.alloc (.cells #[.int .i64 yn, .slice A9 n9 c9] 95)).grown hgr7 hne7; have y7 := k7.cell 1; have z7 := k7.frozen 1; have l7 := k7.lt; have HO7 := Lib.hid hown7; have HG7 := Lib.hid hgr7; have HL7 := Lib.hid hl7; clear hown7 hgr7 hl7 k7 hne7)
         | (go_simp; go_at_call 87; refine CP2.out.mono ?_; rintro e w9 ⟨y, s9, rfl, hy9, hk9, hg9⟩; obtain ⟨A9, n9, c9, rfl, ln9, _, _⟩ := hk9.form; obtain ⟨yn, hyn⟩ : (∃ yn, y.n = yn) := ⟨_, rfl⟩; rw [hyn]; have HYN := Lib.hid hyn; have HY9 := Lib.hid hy9; have HK9 := Lib.hid hk9; obtain ⟨u0, u1, u2⟩ := KS.out _ hg9; have HI9 := Lib.hid u2; have HG9 := Lib.hid hg9; have hs9 := hg9.size; clear hyn hy9 hk9 hg9 ln9 u2))
       all_goals
         have HSL := Lib.hid (show sizeL (l ++ [y]) = sizeL l + y.size by rw [sizeL_append]; simp [sizeL])
         have hysz : y.size ≤ m + 1 := HY9.out.2
         go_wp2
         go_roundw
         case rel =>
           refine ⟨k - (1 + m), by omega, by go_num, Lib.hid ⟨.slice A7 (l.length + 1) c7, l ++ [y], ss ++ [.slice A9 n9 c9], ?_, by rw [HSL.out]; have := HSZ.out; omega, by rw [List.all_append, HTG.out]; simp [HY9.out.1]⟩⟩
           have hI9 := HI9.out
           have g1 : GD b w9 (w9.alloc (.cells #[.int .i64 yn, .slice A9 n9 c9] 95)) := (GD.refl hI9.gd.2).bw ((Bw.refl _).alloc _)
           refine (hI9.keep hbl g1).push hbl (y := y) (s := .slice A9 n9 c9) ?_ (by rw [HYN.out]; exact HO7.out) HG7.out HL7.out
           refine HK9.out.keep (fun c hc => ⟨by have := hc.1; have := HI8.out.b2.lt; omega, by simp; have := hc.2; omega, fun e => ?_⟩) (fun p hp => World.cell?_alloc_lt w9 _ p hp.2)
           have h3 := (HI8.out.row.own.lt c e).2
           have := hc.1
           omega
         case measure => simp [intOf]; omega
   · obtain rfl : k = 0 := by omega
     obtain ⟨⟨r0, r1⟩, r2, r3, r4, r5, r6, r7, r8⟩ := FIN.out wr HI0.out
     have HBB := Lib.hid r6
     clear r6
     go_wp2
     refine bodyPost_ret (results_cell_row (p := 6) (ty := 95) rfl _ _ w.heap.size 95 _ (0, 0) _ rfl HBB.out Tryz.underlying95 rfl (by kernel_rfl)) rfl ?_
     exact POST.out wr HI0.out
theorem dtree_any (b : Nat) (labels : Int) (h0 : 1 ≤ labels) (h1 : labels ≤ 1000) (most : Nat) (h2 : most ≤ 1000) : ∀ (w : World), DeckOk w b → Calls Tryz.prog 87 #[.pointer (some ⟨b, 0, none⟩), .int .i64 labels, .int .i64 ((most : Int) + 1)] w (MadePost w b (TreeOkP labels (most + 1))) := by
 induction most using Nat.strongRecOn with
 | ind most ih => exact fun w hd => dtree_step b labels h0 h1 most h2 (fun m hm W hW => ih m hm (by omega) W hW) w hd
abbrev TS := T × Value × Value
def tCells : List TS → List Value
 | [] => []
 | x :: l => .int .i64 x.1.kind :: .int .i64 x.1.size :: x.2.1 :: x.2.2 :: tCells l
theorem tCells_append : ∀ l l' : List TS, tCells (l ++ l') = tCells l ++ tCells l'
 | [], _ => rfl
 | _ :: l, l' => by simp [tCells, tCells_append l l']
theorem tCells_at : ∀ {l : List TS} {k : Nat} (h : k < l.length), (tCells l)[k * 4]? = some (.int .i64 l[k].1.kind) ∧ (tCells l)[k * 4 + 1]? = some (.int .i64 l[k].1.size) ∧ (tCells l)[k * 4 + 2]? = some l[k].2.1 ∧ (tCells l)[k * 4 + 3]? = some l[k].2.2
 | x :: l, 0, _ => by simp [tCells]
 | x :: l, k + 1, h => by
   have := tCells_at (l := l) (k := k) (by simpa using h)
   simp only [tCells, List.getElem_cons_succ, Nat.add_mul, Nat.one_mul]
   exact this
structure TRow (w : World) (e L B : Nat) (v : Value) (l : List TS) : Prop where
 own : w.ownsRow B e 4 v l.length (tCells l)
 kid : ∀ x ∈ l, TAt w (fun b => L ≤ b ∧ b < w.heap.size ∧ v.ownBlock ≠ some b) x.2.1 x.2.2 x.1
section
variable {w A W : World} {e L B : Nat} {v v' : Value} {l : List TS}
theorem TRow.nil (w : World) (e L B : Nat) : TRow w e L B (.slice none 0 0) [] := ⟨World.ownsRow_nil _ _ _ _, fun x h => absurd h (by simp)⟩
theorem TRow.form (h : TRow w e L B v l) : ∃ A c, v = .slice A l.length c ∧ l.length ≤ c ∧ c ≤ maxLen := own_bounds h.own
theorem TRow.pat (h : TRow w e L B v l) (hL : L ≤ B) : PAt w (fun b => L ≤ b ∧ b < w.heap.size) v (l.map (·.1)) := by
 obtain ⟨A, c, rfl, h1, h2⟩ := h.form
 have kid : ∀ x ∈ l, TAt w (fun b => L ≤ b ∧ b < w.heap.size) x.2.1 x.2.2 x.1 := fun x hx => (h.kid x hx).keep (fun b hb => ⟨hb.1, hb.2.1⟩) (fun _ _ => rfl)
 refine .mk A _ c (l.map (·.1)) (l.map (·.2.1)) (l.map (·.2.2)) (by simp) (by simp) (by simp) h1 h2 (fun hn => ?_) (fun k h h' => ?_) (fun k h h' => ?_)
 · obtain ⟨g, rfl, h3, h4, h5, h6⟩ := own_at h.own hn
   refine ⟨_, rfl, ⟨by have := (h.own.lt g rfl).1; simp; omega, (h.own.lt g rfl).2⟩, fun k hk hk' hk'' => ?_⟩
   have hk0 : k < l.length := by simpa using hk
   obtain ⟨a0, a1, a2, a3⟩ := tCells_at hk0
   have e : ∀ j, (⟨g, 0, none⟩ : Addr).add j = ⟨g, j, none⟩ := fun j => by
     unfold Addr.add
     by_cases h0 : j = 0 <;> simp [h0]
   have b0 := h6 _ _ a0
   have b1 := h6 _ _ a1
   have b2 := h6 _ _ a2
   have b3 := h6 _ _ a3
   rw [e] at b0 b1 b2 b3
   simp only [e, List.getElem_map]
   exact ⟨b0, b1, b2, b3⟩
 · have hk0 : k < l.length := by simpa using h
   simp only [List.getElem_map]
   exact (kid _ (List.getElem_mem hk0)).1
 · have hk0 : k < l.length := by simpa using h
   simp only [List.getElem_map]
   exact (kid _ (List.getElem_mem hk0)).2
theorem TRow.keep (h : TRow A e L B v l) {row : Option Nat} (hg : A.grownBy W row) (hr : ∀ r, row = some r → v.ownBlock ≠ some r ∧ (r < L)) : TRow W e L B v l := by
 refine ⟨h.own.kept hg ?_, fun x hx => (h.kid x hx).keep (fun b hb => ⟨hb.1, Nat.lt_of_lt_of_le hb.2.1 hg.size, hb.2.2⟩) (fun p hp => World.cell?_of_block (hg.block p.block hp.2.1 (fun e => by have := (hr _ e.symm).2; omega)))⟩
 rcases hv : v.ownBlock with _ | k
 · exact .inl rfl
 · right; intro e; exact (hr k e.symm).1 hv
theorem TRow.bw (h : TRow A e L B v l) (hg : Bw A W) : TRow W e L B v l := h.keep hg.gr (fun r e => by cases e)
theorem TRow.push (h : TRow A e L B v l) {x : TS} (hs : TAt A (fun b => L ≤ b ∧ b < A.heap.size ∧ v.ownBlock ≠ some b) x.2.1 x.2.2 x.1) (hown : W.ownsRow B e 4 v' (l.length + 1) (tCells l ++ [.int .i64 x.1.kind, .int .i64 x.1.size, x.2.1, x.2.2])) (hg : A.grownBy W v.ownBlock) (hv : v'.ownBlock = v.ownBlock ∨ v'.ownBlock = some A.heap.size) :
   TRow W e L B v' (l ++ [x]) := by
 have key : ∀ {t : T} {r p : Value}, TAt A (fun b => L ≤ b ∧ b < A.heap.size ∧ v.ownBlock ≠ some b) r p t → TAt W (fun b => L ≤ b ∧ b < W.heap.size ∧ v'.ownBlock ≠ some b) r p t := fun h => h.keep (fun b hb => ⟨hb.1, Nat.lt_of_lt_of_le hb.2.1 hg.size, by
   rcases hv with e | e
   · rw [e]; exact hb.2.2
   · rw [e]; intro e2; injection e2 with e2; have := hb.2.1; omega⟩) (fun p hp => World.cell?_of_block (hg.block p.block hp.2.1 (fun e => hp.2.2 e.symm)))
 refine ⟨by rw [tCells_append]; simpa [tCells] using hown, fun y hy => ?_⟩
 rcases List.mem_append.1 hy with hy | hy
 · exact key (h.kid y hy)
 · obtain rfl := List.mem_singleton.1 hy
   exact key hs
end
theorem TAt.fresh {A : World} {L B : Nat} {v r p : Value} {t : T} (h : TAt A (fun b => B ≤ b ∧ b < A.heap.size) r p t) (hL : L ≤ B) (hv : ∀ b, v.ownBlock = some b → b < B) : TAt A (fun b => L ≤ b ∧ b < A.heap.size ∧ v.ownBlock ≠ some b) r p t :=
 h.keep (fun b hb => ⟨by omega, hb.2, fun e => by have := hv b e; omega⟩) (fun _ _ => rfl)
theorem reads_new4 (W : World) (t : TypeId) (x y : Int) (r p : Value) : Reads (W.alloc (.cells #[.int .i64 x, .int .i64 y, r, p] t)) (W.heap.size + 1) 4 (some ⟨W.heap.size, 0, none⟩) 1 [.int .i64 x, .int .i64 y, r, p] := reads_blk (n := 1) (Blk.new W t #[.int .i64 x, .int .i64 y, r, p]) (by omega) rfl
theorem one4 (x y : Int) (A A' : Option Addr) (n c n' c' : Nat) : ∀ u ∈ [Value.int .i64 x, .int .i64 y, .slice A n c, .slice A' n' c'], u.oneCell' = true := by simp [Value.oneCell']
structure MakeT (b : Nat) (W w : World) (B1 : Nat) (sv : Value) (l : List TS) : Prop where
 h1 : w.heap.size < B1
 b1 : Blk W w.heap.size 29 #[.int .i64 0, .int .i64 0, .slice none 0 0, .slice none 0 0]
 b2 : Blk W B1 29 #[.int .i64 3, .int .i64 0, .slice none 0 0, sv]
 row : TRow W 29 (B1 + 1) (B1 + 1) sv l
 gd : GD b w W
section
variable {b : Nat} {W W' w w7 : World} {B1 : Nat} {sv v7 : Value} {l : List TS}
theorem MakeT.keep (h : MakeT b W w B1 sv l) (hb : b < w.heap.size) (g : GD b W W') : MakeT b W' w B1 sv l :=
 ⟨h.h1, g.blk h.b1 (by omega), g.blk h.b2 (by have := h.h1; omega), h.row.keep g.1 (fun r e => by
   injection e with e; subst e
   have := h.h1
   exact ⟨fun e => by have := (h.row.own.lt _ e).1; omega, by omega⟩), h.gd.trans g⟩
theorem MakeT.push (h : MakeT b W w B1 sv l) (hb : b < w.heap.size) {x : TS}
   (hs : TAt W (fun c => B1 + 1 ≤ c ∧ c < W.heap.size ∧ sv.ownBlock ≠ some c) x.2.1 x.2.2 x.1) (hown : w7.ownsRow (B1 + 1) 29 4 v7 (l.length + 1) (tCells l ++ [.int .i64 x.1.kind, .int .i64 x.1.size, x.2.1, x.2.2])) (hg : W.grownBy w7 sv.ownBlock) (hv : v7.ownBlock = sv.ownBlock ∨ v7.ownBlock = some W.heap.size) :
   MakeT b (w7.setCell ⟨B1, 3, none⟩ v7) w B1 v7 (l ++ [x]) := by
 have hr : ∀ r, sv.ownBlock = some r → B1 + 1 ≤ r := fun r e => (h.row.own.lt r e).1
 have ne : ∀ r, r < B1 + 1 → some r ≠ sv.ownBlock := fun r hr' e => by have := hr r e.symm; omega
 have hrow := h.row.push hs hown hg hv
 have e1 := grownBy_setCell (p := ⟨B1, 3, none⟩) (World.grownBy.refl w7 (some B1)) (.inl rfl) v7
 have hl := h.b2.lt
 have q1 := h.h1
 refine ⟨h.h1, (h.b1.grown hg (ne _ (by omega))).far (by dsimp only; omega) _, (h.b2.grown hg (ne _ (by omega))).set_ 3 v7, hrow.keep e1 (fun r e => by
   injection e with e; subst e
   exact ⟨fun e => by have := (hown.lt _ e).1; omega, by omega⟩), ?_⟩
 exact (h.gd.own hg (fun r e => by have := hr r e; omega) hb).own e1 (fun r e => by injection e with e; omega) hb
theorem MakeT.tat (h : MakeT b W w B1 sv l) : TAt W (fun c => w.heap.size + 1 ≤ c ∧ c < W.heap.size) (.slice none 0 0) sv (.mk 3 0 [] (l.map (·.1))) :=
 ⟨IAt.nil 0 none (by unfold maxLen; omega), (h.row.pat (Nat.le_refl _)).keep (fun c hc => ⟨by have := hc.1; have := h.h1; omega, hc.2⟩) (fun _ _ => rfl)⟩
end
theorem MakeT.start {b : Nat} {w W : World} (g : GD b w W) (h : Blk W w.heap.size 29 #[.int .i64 0, .int .i64 0, .slice none 0 0, .slice none 0 0]) : MakeT b (W.alloc (.cells #[.int .i64 3, .int .i64 0, .slice none 0 0, .slice none 0 0] 29)) w W.heap.size (.slice none 0 0) [] :=
 ⟨h.lt, h.alloc _, Blk.new _ _ _, TRow.nil _ _ _ _, g.bw ((Bw.refl _).alloc _)⟩
end Go.Proofs.YtbmheekaclmibaaGreat
