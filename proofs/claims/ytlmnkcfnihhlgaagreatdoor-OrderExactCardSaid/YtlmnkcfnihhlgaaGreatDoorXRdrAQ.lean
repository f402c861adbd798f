/- Part of a proof of orderExact_card. -/
import Derived.Test.YtlmnkcfnihhlgaaGreatDoorXBldAQ
import Derived.Test.YtlmnkcfnihhlgaaGreatDoorXRefGQ
import Derived.Deep.RegionWith
import Derived.Deep.CutRange
import Derived.IntWalk
set_option maxRecDepth 100000
set_option maxHeartbeats 16000000
namespace Go.Proofs.YtlmnkcfnihhlgaaGreatDoor
open Go.RowKit
set_option linter.unusedSimpArgs false
set_option linter.unusedVariables false
def RdAt (w : World) (b : Nat) (s : ByteArray) (a m : Nat) (bad : Bool) : Prop := Blk w b 77 #[.string s, .int .i64 (a : Int), .int .i64 (m : Int), .bool bad]
def tkB (s : ByteArray) (a : Nat) (c : UInt8) : Bool := decide (s.data.toList[a]? = some c)
def TakePost (b : Nat) (s : ByteArray) (a m : Nat) (bad ok : Bool) (w : World) (e : Ending) (w' : World) : Prop := e = .returned (.bool ok) ∧ RdAt w' b s (if ok then a + 1 else a) m bad ∧ w.grownBy w' (some b)
theorem byte_at {s : ByteArray} {a : Nat} (h : a < s.size) : s.data.toList[a]? = some s[a] := by
 rw [List.getElem?_eq_getElem (by simpa using h)]; rfl
theorem otake_any (b : Nat) (s : ByteArray) (a m : Nat) (c : UInt8) (x : Int) (hx : (c.toNat : Int) = x) (bad : Bool) (w : World) (h : RdAt w b s a m bad) (hs : s.size ≤ 1000000) (ok : Bool) (hok : tkB s a c = ok) :
   Calls Tryz.prog 97 #[.pointer (some ⟨b, 0, none⟩), .int .u8 x] w (TakePost b s a m bad ok w) := by
 subst hok
 have q0 := h.cell 0
 have q1 := h.cell 1
 have f1 := h.frozen 1
 have hbl := h.lt
 have HB := Lib.hid h
 unfold tkB
 by_cases ha : a < s.size
 · have hb := byte_at ha
   have HE : Hid (decide (s.data.toList[a]? = some c) = ((s[a].toNat : Int) == x)) := Lib.hid (by
     rw [hb, ← hx, Bool.eq_iff_iff]
     simp only [Option.some.injEq, decide_eq_true_eq, beq_iff_eq]
     exact ⟨fun e => by rw [e], fun e => UInt8.toNat_inj.1 (by omega)⟩)
   rw [HE.out]
   clear hb h hx
   rcases hq : ((s[a].toNat : Int) == x) with _ | _
   · go_enter Tryz.func97, Tryz.ntmps97
     go_wp2_with fail
     go_quiet (fail)
     go_wp2
     go_ret
     exact ⟨rfl, HB.out.drewN _, grownBy_drewN (World.grownBy.refl _ _) _⟩
   · go_enter Tryz.func97, Tryz.ntmps97
     go_wp2_with fail
     go_quiet (fail)
     go_wp2
     go_ret
     refine ⟨rfl, ?_, grownBy_setCell (p := ⟨b, 1, none⟩) (grownBy_drewN (World.grownBy.refl _ _) _) (.inl rfl) _⟩
     exact blk_set (i := 1) _ (HB.out.drewN _)
 · have hz : ¬ ((a : Int) < (s.size : Int)) := by omega
   have HE : Hid (decide (s.data.toList[a]? = some c) = false) := Lib.hid (by
     rw [List.getElem?_eq_none (by simp; omega)]; simp)
   rw [HE.out]
   clear h hx
   go_enter Tryz.func97, Tryz.ntmps97
   go_wp2_with fail
   go_quiet (fail)
   go_wp2
   go_ret
   exact ⟨rfl, HB.out.drewN _, grownBy_drewN (World.grownBy.refl _ _) _⟩
theorem RdAt.bw {w w' : World} {b : Nat} {s : ByteArray} {a m : Nat} {bad : Bool} (h : RdAt w b s a m bad) (g : Bw w w') : RdAt w' b s a m bad := Blk.below h g.b h.lt
def rdN (w : World) (b i : Nat) : Nat := match w.cell? ⟨b, i, none⟩ with | some (.int _ x) => x.toNat | _ => 0
def rdBad (w : World) (b : Nat) : Bool := match w.cell? ⟨b, 3, none⟩ with | some (.bool x) => x | _ => true
theorem RdAt.n1 {w : World} {b : Nat} {s : ByteArray} {a m : Nat} {bad : Bool} (h : RdAt w b s a m bad) : rdN w b 1 = a := by
 have := h.cell 1
 unfold rdN; rw [this]; simp
theorem RdAt.n2 {w : World} {b : Nat} {s : ByteArray} {a m : Nat} {bad : Bool} (h : RdAt w b s a m bad) : rdN w b 2 = m := by
 have := h.cell 2
 unfold rdN; rw [this]; simp
theorem RdAt.n3 {w : World} {b : Nat} {s : ByteArray} {a m : Nat} {bad : Bool} (h : RdAt w b s a m bad) : rdBad w b = bad := by
 have := h.cell 3
 unfold rdBad; rw [this]; rfl
def kidsLeft (more : Value) (w : World) (b : Nat) : Nat := match more with | .bool true => if rdBad w b then 0 else 200 - rdN w b 2 | _ => 0
theorem gb_below {w w' : World} {b B : Nat} (h : w.grownBy w' (some b)) (hb : B ≤ b) (hw : B ≤ w.heap.size) : Below B w w' :=
 ⟨h.os, h.tape, h.output, h.size, fun k hk => h.block k (by omega) (fun e => by injection e; omega)⟩
theorem minus_tk (s : ByteArray) (a : Nat) : (if tkB s a 45 then a + 1 else a) = minusAt s.data.toList a := by
 unfold tkB minusAt
 by_cases h : s.data.toList[a]? = some 45 <;> simp [h]
def ValRd (b : Nat) (s : ByteArray) (w : World) (r : Option (V × Nat × Nat)) (e : Ending) (w' : World) : Prop :=
 ∃ v A n c, e = .returned (.agg #[.int .i64 v.n, .slice A n c]) ∧ KAt w' (fun x => w.heap.size ≤ x ∧ x < w'.heap.size) (.slice A n c) v.ks ∧ w.grownBy w' (some b) ∧
   match r with
   | none => ∃ a m, RdAt w' b s a m true
   | some (u, a, m) => v = u ∧ RdAt w' b s a m false
def ValSays (b : Nat) (s : ByteArray) (f : Nat) : Prop := ∀ (a m : Nat) (w : World), RdAt w b s a m false → a ≤ s.size → m ≤ 128 → 129 ≤ f + m → GlobO w → GLt b →
 Calls Tryz.prog 60 #[.pointer (some ⟨b, 0, none⟩)] w (ValRd b s w (pv s.data.toList f a m))
theorem rv_end {b : Nat} {s : ByteArray} {w W : World} {x : Int} {sv u0 u1 : Value} {l : List V} {a m : Nat} {bad : Bool} (hb : b < w.heap.size) (hr : RdAt W b s a m bad) (hg : w.grownBy W (some b)) (hB : Blk W w.heap.size 28 #[u0, u1])
   (hk : KAt W (fun y => w.heap.size + 1 ≤ y ∧ y < W.heap.size) sv l) :
   KAt ((W.setCell ⟨w.heap.size, 0, none⟩ (.int .i64 x)).setCell ⟨w.heap.size, 1, none⟩ sv) (fun y => w.heap.size ≤ y ∧ y < ((W.setCell ⟨w.heap.size, 0, none⟩ (.int .i64 x)).setCell ⟨w.heap.size, 1, none⟩ sv).heap.size) sv l ∧
   w.grownBy ((W.setCell ⟨w.heap.size, 0, none⟩ (.int .i64 x)).setCell ⟨w.heap.size, 1, none⟩ sv) (some b) ∧ RdAt ((W.setCell ⟨w.heap.size, 0, none⟩ (.int .i64 x)).setCell ⟨w.heap.size, 1, none⟩ sv) b s a m bad ∧
   ((W.setCell ⟨w.heap.size, 0, none⟩ (.int .i64 x)).setCell ⟨w.heap.size, 1, none⟩ sv).heap[w.heap.size]? = some (.cells #[.int .i64 x, sv] 28 (0, 0)) := by
 refine ⟨hk.keep (fun y hy => ⟨by have := hy.1; omega, by have := hy.2; simp [World.setCell]; exact this⟩) (fun p hp => ?_), ?_, ?_, ?_⟩
 · have hp1 := hp.1
   rw [World.cell?_setCell_other _ _ _ _ (by intro e; subst e; simp at hp1; omega), World.cell?_setCell_other _ _ _ _ (by intro e; subst e; simp at hp1; omega)]
 · exact grownBy_setCell (p := ⟨w.heap.size, 1, none⟩) (grownBy_setCell (p := ⟨w.heap.size, 0, none⟩) hg (.inr (Nat.le_refl _)) _) (.inr (Nat.le_refl _)) _
 · exact Blk.far (Blk.far hr (by dsimp only; omega) _) (by dsimp only; omega) _
 · exact blk_set (i := 1) sv (blk_set (i := 0) (.int .i64 x) hB)
structure RvI (W w : World) (b G : Nat) (x : Int) (sv : Value) (l : List V) (ss : List Value) : Prop where
 r : Blk W w.heap.size 28 #[.int .i64 0, .slice none 0 0]
 g : Blk W G 28 #[.int .i64 x, sv]
 row : VRow W 28 (G + 1) (G + 1) sv l ss
 gb : w.grownBy W (some b)
 lt : b < w.heap.size ∧ w.heap.size < G
theorem RvI.keep {W W' w : World} {b G : Nat} {x : Int} {sv : Value} {l : List V} {ss : List Value} (h : RvI W w b G x sv l ss) (k : W.grownBy W' (some b)) : RvI W' w b G x sv l ss :=
 ⟨h.r.grown k (by intro e; injection e; have := h.lt.1; omega), h.g.grown k (by intro e; injection e; have := h.lt; omega), h.row.keep k (fun r e => by injection e with e; subst e; exact ⟨fun e => by have := (h.row.own.lt _ e).1; have := h.lt; omega, by have := h.lt; omega⟩), grownBy_trans h.gb k, h.lt⟩
theorem RvI.bw {W W' w : World} {b G : Nat} {x : Int} {sv : Value} {l : List V} {ss : List Value} (h : RvI W w b G x sv l ss) (k : Bw W W') : RvI W' w b G x sv l ss := h.keep (grownBy_of_below k.b _)
theorem RvI.push {W w w7 : World} {b G : Nat} {x : Int} {sv v7 : Value} {l : List V} {ss : List Value} (h : RvI W w b G x sv l ss) {y : V} {s : Value}
   (hs : KAt W (fun b => G + 1 ≤ b ∧ b < W.heap.size ∧ sv.ownBlock ≠ some b) s y.ks) (hown : w7.ownsRow (G + 1) 28 2 v7 (l.length + 1) (vCells l ss ++ [.int .i64 y.n, s])) (hg : W.grownBy w7 sv.ownBlock) (hv : v7.ownBlock = sv.ownBlock ∨ v7.ownBlock = some W.heap.size) :
   RvI (w7.setCell ⟨G, 1, none⟩ v7) w b G x v7 (l ++ [y]) (ss ++ [s]) := by
 have hr : ∀ r, sv.ownBlock = some r → G + 1 ≤ r := fun r e => (h.row.own.lt r e).1
 have ne : ∀ r, r < G + 1 → some r ≠ sv.ownBlock := fun r hr' e => by have := hr r e.symm; omega
 have hrow := h.row.push hs hown hg hv
 have e1 := grownBy_setCell (p := ⟨G, 1, none⟩) (World.grownBy.refl w7 (some G)) (.inl rfl) v7
 obtain ⟨l1, l2⟩ := h.lt
 refine ⟨(h.r.grown hg (ne _ (by omega))).far (by dsimp only; omega) _, (h.g.grown hg (ne _ (by omega))).set_ 1 v7, hrow.keep e1 (fun r e => by
   injection e with e; subst e
   exact ⟨fun e => by have := (hown.lt _ e).1; omega, by omega⟩), ?_, h.lt⟩
 have h1 : w.grownBy w7 (some b) := ⟨hg.os.trans h.gb.os, hg.tape.trans h.gb.tape, hg.output.trans h.gb.output, Nat.le_trans h.gb.size hg.size, fun k hk hne => (hg.block k (Nat.lt_of_lt_of_le hk h.gb.size) (fun e => by have := hr k e.symm; omega)).trans (h.gb.block k hk hne)⟩
 exact grownBy_setCell (p := ⟨G, 1, none⟩) h1 (.inr (by dsimp only; omega)) v7
theorem RdAt.push {W w7 : World} {b G : Nat} {s : ByteArray} {a m : Nat} {bad : Bool} {sv v7 : Value} {n : Nat} {xs : List Value} (h : RdAt W b s a m bad) (ho : W.ownsRow (G + 1) 28 2 sv n xs) (hbG : b < G) (hg : W.grownBy w7 sv.ownBlock) : RdAt (w7.setCell ⟨G, 1, none⟩ v7) b s a m bad :=
 Blk.far (Blk.grown h hg (fun e => by have := (ho.lt _ e.symm).1; omega)) (by dsimp only; omega) _
def finR (l : List UInt8) (v : Int) : Option (List V × Nat × Nat) → Option (V × Nat × Nat)
 | none => none
 | some (ks, a', m') => if l[a']? = some 41 then some (.mk v ks, a' + 1, m') else none
def pkS (g : Nat → Nat → Option (V × Nat × Nat)) (l : List UInt8) (q : Nat) (acc : List V) : Option (V × Nat × Nat) → Option (List V × Nat × Nat)
 | none => none
 | some (v, a1, m1) => if l[a1]? = some 32 then pk g l q (acc ++ [v]) (a1 + 1) m1 else some (acc ++ [v], a1, m1)
theorem pk_succ (g : Nat → Nat → Option (V × Nat × Nat)) (l : List UInt8) (q : Nat) (acc : List V) (a m : Nat) : pk g l (q + 1) acc a m = pkS g l q acc (g a m) := by
 rw [pk]
 rcases g a m with _ | ⟨_, _, _⟩ <;> rfl
def tkPost (b : Nat) (s : ByteArray) (T : Option (List V × Nat × Nat)) (g : Nat → Nat → Option (V × Nat × Nat)) (m0 : Nat) (more bad : Bool) (acc : List V) (a m : Nat) : Prop :=
 (more = true ∧ bad = false ∧ m0 + 1 ≤ m ∧ m ≤ 128 ∧ a ≤ s.size ∧ acc.length ≤ m ∧ ∃ q, 129 ≤ q + m ∧ T = pk g s.data.toList q acc a m) ∨ (more = false ∧ bad = false ∧ T = some (acc, a, m) ∧ a ≤ s.size) ∨ (bad = true ∧ T = none)
theorem ovalue_step (b : Nat) (s : ByteArray) (hs : s.size ≤ 4096) (f : Nat) (ih : ValSays b s f) : ValSays b s (f + 1) := by
 intro a m w hr ha hm hf hg hgl
 have hbl := hr.lt
 have hal : a ≤ s.data.toList.length := by simpa using ha
 obtain ⟨hp1, hp2⟩ := minusAt_le hal
 have hp1' : minusAt s.data.toList a ≤ s.size := by simpa using hp1
 have hrl := runL_le digitB (s.data.toList.drop (minusAt s.data.toList a))
 rw [List.length_drop, size_data] at hrl
 have HEB : Hid (numEnd s.data.toList a ≤ s.size ∧ a ≤ numEnd s.data.toList a) := Lib.hid (by have := numEnd_le hal; rw [size_data] at this; exact this)
 have HNE : Hid (numEnd s.data.toList a = minusAt s.data.toList a + runL digitB (s.data.toList.drop (minusAt s.data.toList a))) := Lib.hid rfl
 have HPV := Lib.hid (pv_succ s.data.toList f a m)
 generalize pv s.data.toList (f + 1) a m = res at *
 have TK1 : Hid (∀ W, RdAt W b s a m false → Calls Tryz.prog 97 #[.pointer (some ⟨b, 0, none⟩), .int .u8 45] W (TakePost b s a m false (tkB s a 45) W)) := Lib.hid (fun W h => otake_any b s a m 45 45 rfl false W h (by omega) _ rfl)
 have HR1 : Hid (RdAt (w.alloc (.cells #[.int .i64 0, .slice none 0 0] 28)) b s a m false) := Lib.hid (Blk.alloc hr _)
 have HMT := Lib.hid (minus_tk s a)
 have HR := Lib.hid hr
 have HG := Lib.hid hg
 have HGL := Lib.hid hgl
 have HIH := Lib.hid ih
 have q1 := fun o => (Blk.alloc hr o).cell 1
 clear hr hg hgl ih
 go_enter Tryz.func60, Tryz.ntmps60
 go_upto_block 0 with (go_at_call 97; go_must (refine (TK1.out _ HR1.out).mono ?_; rintro e w2 ⟨rfl, hr2, hg2⟩; (have HR2 := Lib.hid hr2); (have HG2 := Lib.hid hg2); clear hr2 hg2))
 have HG2' : Hid (RdAt w2 b s (minusAt s.data.toList a) m false ∧ Blk w2 w.heap.size 28 #[.int .i64 0, .slice none 0 0] ∧ w.grownBy w2 (some b)) := Lib.hid (by
   have h := HR2.out
   rw [HMT.out] at h
   refine ⟨h, (Blk.new w 28 #[.int .i64 0, .slice none 0 0]).grown HG2.out (by intro e; injection e; omega), grownBy_trans ((grownBy_of_below ((Below.refl _ _).alloc (Nat.le_refl _) _) (some b))) HG2.out⟩)
 refine wp_world (fun W => Hid (RdAt W b s (minusAt s.data.toList a) m false ∧ Blk W w.heap.size 28 #[.int .i64 0, .slice none 0 0] ∧ w.grownBy W (some b))) HG2' ?_
 intro W1 HW1
 clear HG2' HR2 HG2 HMT TK1 HR1 q1
 generalize hp0 : minusAt s.data.toList a = p0 at *
 generalize hrn : runL digitB (s.data.toList.drop p0) = rn at *
 have HRN := Lib.hid hrn
 clear hp0 hrn
 go_cut [] from 14 to 54 (fun wx => Hid (RdAt wx b s (numEnd s.data.toList a) m false ∧ Blk wx w.heap.size 28 #[.int .i64 0, .slice none 0 0] ∧ w.grownBy wx (some b)))
 case first =>
   go_wp2_with fail
   go_loopw [14] (fun _ wr => ∃ k : Nat, k ≤ rn ∧ Hid (RdAt wr b s (p0 + k) m false ∧ Blk wr w.heap.size 28 #[.int .i64 0, .slice none 0 0] ∧ w.grownBy wr (some b))) (fun _ wr => s.size - rdN wr b 1)
   case atStart => exact ⟨0, Nat.zero_le _, HW1⟩
   case round =>
     obtain ⟨k, hk, HR3⟩ := hrel
     obtain ⟨p, hp⟩ : ∃ p, p = p0 + k := ⟨_, rfl⟩
     rw [← hp] at HR3
     have HP := Lib.hid hp
     clear hp
     obtain ⟨hr3, hb3, hg3⟩ := HR3.out
     have q0 := hr3.cell 0
     have q1 := hr3.cell 1
     have f1 := hr3.frozen 1
     have hz := hb3.lt
     by_cases hlt : p < s.size
     · have hkl : k < (s.data.toList.drop p0).length := by rw [List.length_drop, size_data]; have := HP.out; omega
       have hgt : (s.data.toList.drop p0)[k] = s[p] := by
         have hp := HP.out
         subst hp
         rw [List.getElem_drop]; rfl
       by_cases d1 : 48 ≤ s[p].toNat
       · by_cases d2 : s[p].toNat ≤ 57
         · have hr4 := runL_lt (p := digitB) (by rw [HRN.out]; exact hk) hkl (by rw [hgt]; simp [digitB, d1, d2])
           rw [HRN.out] at hr4
           have HRX : Hid (∀ q, RdAt ((wr.drewN q).setCell ⟨b, 1, none⟩ (.int .i64 ((p : Int) + 1))) b s (p0 + (k + 1)) m false) := Lib.hid (fun q => by
             have := blk_set (i := 1) (.int .i64 ((p : Int) + 1)) (Blk.drewN hr3 q)
             rw [show p0 + (k + 1) = p + 1 by have := HP.out; omega]
             exact this)
           have HOL := Lib.hid hr3
           have HB3 := Lib.hid hb3
           have HG3 := Lib.hid hg3
           have e0 : decide (p < s.size) = true := decide_eq_true hlt
           have e1 : decide ((48 : Int) ≤ (s[p].toNat : Int)) = true := decide_eq_true (by omega)
           have e2 : decide ((s[p].toNat : Int) ≤ 57) = true := decide_eq_true (by omega)
           clear hr3 hb3 hg3 hgt hkl hk
           go_wp2_with fail
           go_quiet (fail)
           go_wp2
           go_roundw
           case rel => exact ⟨k + 1, hr4, Lib.hid ⟨HRX.out _, Blk.far (HB3.out.drewN _) (by dsimp only; omega) _, grownBy_setCell (p := ⟨b, 1, none⟩) (grownBy_drewN HG3.out _) (.inl rfl) _⟩⟩
           case measure =>
             have h1 := HOL.out.n1
             have h2 := fun q => (HRX.out q).n1
             simp only [h1, h2]
             have := HP.out
             omega
         · have hr4 := runL_eq (p := digitB) (by rw [HRN.out]; exact hk) hkl (by rw [hgt]; simp [digitB]; omega)
           have HE : Hid (numEnd s.data.toList a = p) := Lib.hid (by rw [HNE.out, ← HRN.out, hr4, HP.out])
           have HR3' := HR3
           have e0 : decide (p < s.size) = true := decide_eq_true hlt
           have e1 : decide ((48 : Int) ≤ (s[p].toNat : Int)) = true := decide_eq_true (by omega)
           have e2 : decide ((s[p].toNat : Int) ≤ 57) = false := decide_eq_false (by omega)
           clear hr3 hb3 hg3 hgt hkl hk hr4 HR3
           go_wp2_with fail
           go_quiet (fail)
           go_wp2_with fail
           go_meet
           have h := HR3'.out
           exact Lib.hid ⟨by rw [HE.out]; exact Blk.drewN h.1 _, h.2.1.drewN _, grownBy_drewN h.2.2 _⟩
       · have hr4 := runL_eq (p := digitB) (by rw [HRN.out]; exact hk) hkl (by rw [hgt]; simp [digitB]; omega)
         have HE : Hid (numEnd s.data.toList a = p) := Lib.hid (by rw [HNE.out, ← HRN.out, hr4, HP.out])
         have HR3' := HR3
         have e0 : decide (p < s.size) = true := decide_eq_true hlt
         have e1 : decide ((48 : Int) ≤ (s[p].toNat : Int)) = false := decide_eq_false (by omega)
         clear hr3 hb3 hg3 hgt hkl hk hr4 HR3
         go_wp2_with fail
         go_quiet (fail)
         go_wp2_with fail
         go_meet
         have h := HR3'.out
         exact Lib.hid ⟨by rw [HE.out]; exact Blk.drewN h.1 _, h.2.1.drewN _, grownBy_drewN h.2.2 _⟩
     · have HE : Hid (numEnd s.data.toList a = p) := Lib.hid (by rw [HNE.out]; have := HP.out; omega)
       have HR3' := HR3
       have e0 : decide (p < s.size) = false := decide_eq_false hlt
       clear hr3 hb3 hg3 hk HR3
       go_wp2_with fail
       go_quiet (fail)
       go_wp2_with fail
       go_meet
       have h := HR3'.out
       exact Lib.hid ⟨by rw [HE.out]; exact Blk.drewN h.1 _, h.2.1.drewN _, grownBy_drewN h.2.2 _⟩
 case rest =>
 obtain ⟨hr4, hb4, hg4⟩ := hcut.out
 obtain ⟨hE1, hE2⟩ := HEB.out
 clear HEB HNE HRN HW1
 generalize numEnd s.data.toList a = E at *
 have z0 : (0 : Int) ≤ (a : Int) := by omega
 have z1 : (a : Int) ≤ (E : Int) := by omega
 have z2 : (E : Int) ≤ (s.size : Int) := by omega
 have hxs : (s.extract a E).size ≤ 100000000 := by rw [ByteArray.size_extract]; omega
 have HXD : Hid ((s.data.toList.take E).drop a = (s.extract a E).data.toList) := Lib.hid (by rw [Lib.extract_data, List.drop_take])
 rw [HXD.out] at HPV
 obtain ⟨W2, rfl⟩ : ∃ W2, W2 = wc := ⟨_, rfl⟩
 have HR4 := Lib.hid hr4
 have HB4 := Lib.hid hb4
 have HG4 := Lib.hid hg4
 have HD : Hid (Bw W2 W2.drew) := Lib.hid (Bw.refl _).drew
 have KS : Hid (∀ W', Bw W2 W' → W'.cell? ⟨b, 0, none⟩ = some (.string s) ∧ W'.cell? ⟨b, 1, none⟩ = some (.int .i64 (E : Int))) := Lib.hid (fun W' g => by
   have h := HR4.out.bw g
   exact ⟨h.cell 0, h.cell 1⟩)
 have HGW : Hid (GlobO W2.drew) := Lib.hid (HG.out.kept HGL.out (gb_below (grownBy_trans HG4.out (grownBy_of_below HD.out.b _)) (Nat.le_refl _) (by omega)))
 clear hr4 hb4 hg4 hcut
 by_cases hv : ∃ v, Lib.atoiAll (s.extract a E).data.toList = .ok v
 rotate_left
 · have AT : Hid (Calls Tryz.prog 98 #[.string (s.extract a E)] W2.drew (AtoiBad W2.drew)) := Lib.hid (atoi_bad _ _ hxs HGW.out (fun v h => hv ⟨v, h⟩))
   have HRS : Hid (res = none) := Lib.hid (by
     rw [HPV.out]
     split
     · rename_i v h; exact absurd ⟨v, h⟩ hv
     · rfl)
   clear hv HPV HIH
   go_wp2_with fail
   go_region_held3 (fun w' => w'.cell? ⟨b, 0, none⟩ = some (.string s) ∧ w'.cell? ⟨b, 1, none⟩ = some (.int .i64 (E : Int))) (first | (refine KS.out _ ?_; first | exact HD.out | exact HX5.out)) (first | (go_at_call 98; (refine AT.out.mono ?_); rintro e w5 ⟨n5, T5, x5, rfl, hb5, -, -⟩; have HX5 : Hid (Bw W2 w5) := Lib.hid (HD.out.trans hb5)))
   have H5 : Hid (RdAt w5 b s E m false ∧ Blk w5 w.heap.size 28 #[.int .i64 0, .slice none 0 0] ∧ w.grownBy w5 (some b)) := Lib.hid ⟨HR4.out.bw HX5.out, HB4.out.below HX5.out.b HB4.out.lt, grownBy_trans HG4.out (grownBy_of_below HX5.out.b _)⟩
   obtain ⟨hr5, hb5', hg5⟩ := H5.out
   have c2 := hr5.cell 2
   have d2 := hr5.frozen 2
   have HR6 : Hid (RdAt (w5.setCell ⟨b, 2, none⟩ (.int .i64 ((m : Int) + 1))) b s E (m + 1) false ∧ Blk (w5.setCell ⟨b, 2, none⟩ (.int .i64 ((m : Int) + 1))) w.heap.size 28 #[.int .i64 0, .slice none 0 0] ∧ w.grownBy (w5.setCell ⟨b, 2, none⟩ (.int .i64 ((m : Int) + 1))) (some b)) := Lib.hid ⟨by
     have := blk_set (i := 2) (.int .i64 ((m : Int) + 1)) hr5
     exact this, hb5'.far (by dsimp only; omega) _, grownBy_setCell (p := ⟨b, 2, none⟩) hg5 (.inl rfl) _⟩
   clear hr5 hb5' hg5 HX5 KS HD HB4 HR4 HG4 HGW AT
   go_upto_region 7 with fail
   refine wp_world (fun W => Hid (RdAt W b s E (m + 1) false ∧ Blk W w.heap.size 28 #[.int .i64 0, .slice none 0 0] ∧ w.grownBy W (some b))) HR6 ?_
   intro W6 HW6
   clear HR6 H5 c2 d2
   obtain ⟨hr6, hb6, hg6⟩ := HW6.out
   have g0 := hb6.cell 0
   have g1 := hb6.cell 1
   have p0' := hb6.frozen 0
   have p1' := hb6.frozen 1
   have c2 := hr6.cell 2
   have c3 := hr6.cell 3
   have d3 := hr6.frozen 3
   have hne : b ≠ w.heap.size := by omega
   have hne' : w.heap.size ≠ b := by omega
   have hz6 := hb6.lt
   have HFIN := Lib.hid (rv_end (x := 0) (sv := .slice none 0 0) (l := []) (a := E) (m := m + 1) (bad := true) (W := W6.setCell ⟨b, 3, none⟩ (.bool true)) hbl (by exact blk_set (i := 3) (.bool true) hr6) (grownBy_setCell (p := ⟨b, 3, none⟩) hg6 (.inl rfl) _) (hb6.far (by dsimp only; omega) _) (KAt.nil 0 none (Nat.zero_le _)))
   clear hr6 hb6 hg6 HW6
   go_wp2
   obtain ⟨k1, k2, k3, k4⟩ := HFIN.out
   refine bodyPost_ret (results_cell_row (p := 2) (ty := 28) rfl _ _ w.heap.size 28 _ (0, 0) _ rfl k4 Tryz.underlying28 rfl (by kernel_rfl)) rfl ?_
   exact ⟨.mk 0 [], none, 0, 0, rfl, k1, k2, by rw [HRS.out]; exact ⟨E, m + 1, k3⟩⟩
 · obtain ⟨v, hv⟩ := hv
   have AT : Hid (∀ W, Calls Tryz.prog 98 #[.string (s.extract a E)] W fun e w' => e = .returned (.tuple #[.int .i64 v, .nilIface]) ∧ Below W.heap.size W w') := Lib.hid (fun W => atoi_ok _ W hxs v hv)
   have HRS := HPV
   rw [hv] at HRS
   clear HPV hv
   go_wp2_with fail
   go_region_held3 (fun w' => w'.cell? ⟨b, 0, none⟩ = some (.string s) ∧ w'.cell? ⟨b, 1, none⟩ = some (.int .i64 (E : Int))) (first | (refine KS.out _ ?_; first | exact HD.out | exact HX5.out)) (first | (go_at_call 98; (refine (AT.out _).mono ?_); rintro e w5 ⟨rfl, hb5⟩; have HX5 : Hid (Bw W2 w5) := Lib.hid (HD.out.trans hb5)))
   have H5 : Hid (RdAt w5 b s E m false ∧ Blk w5 w.heap.size 28 #[.int .i64 0, .slice none 0 0] ∧ w.grownBy w5 (some b)) := Lib.hid ⟨HR4.out.bw HX5.out, HB4.out.below HX5.out.b HB4.out.lt, grownBy_trans HG4.out (grownBy_of_below HX5.out.b _)⟩
   obtain ⟨hr5, hb5', hg5⟩ := H5.out
   have c2 := hr5.cell 2
   have d2 := hr5.frozen 2
   have HR6 : Hid (RdAt (w5.setCell ⟨b, 2, none⟩ (.int .i64 ((m : Int) + 1))) b s E (m + 1) false ∧ Blk (w5.setCell ⟨b, 2, none⟩ (.int .i64 ((m : Int) + 1))) w.heap.size 28 #[.int .i64 0, .slice none 0 0] ∧ w.grownBy (w5.setCell ⟨b, 2, none⟩ (.int .i64 ((m : Int) + 1))) (some b)) := Lib.hid ⟨by
     have := blk_set (i := 2) (.int .i64 ((m : Int) + 1)) hr5
     exact this, hb5'.far (by dsimp only; omega) _, grownBy_setCell (p := ⟨b, 2, none⟩) hg5 (.inl rfl) _⟩
   clear hr5 hb5' hg5 HX5 KS HD HB4 HR4 HG4 HGW AT
   go_upto_region 7 with fail
   refine wp_world (fun W => Hid (RdAt W b s E (m + 1) false ∧ Blk W w.heap.size 28 #[.int .i64 0, .slice none 0 0] ∧ w.grownBy W (some b))) HR6 ?_
   intro W6 HW6
   clear HR6 H5 c2 d2
   obtain ⟨hr6, hb6, hg6⟩ := HW6.out
   have g0 := hb6.cell 0
   have g1 := hb6.cell 1
   have p0' := hb6.frozen 0
   have p1' := hb6.frozen 1
   have c2 := hr6.cell 2
   have c3 := hr6.cell 3
   have d3 := hr6.frozen 3
   have hne : b ≠ w.heap.size := by omega
   have hne' : w.heap.size ≠ b := by omega
   have hz6 := hb6.lt
   by_cases h128 : 128 < m + 1
   · have HRS2 : Hid (res = none) := Lib.hid (by rw [HRS.out]; simp only [if_pos h128])
     have dm : (128 : Int) < ((m + 1 : Nat) : Int) := by omega
     clear HRS HIH
     have HFIN := Lib.hid (rv_end (x := 0) (sv := .slice none 0 0) (l := []) (a := E) (m := m + 1) (bad := true) (W := W6.setCell ⟨b, 3, none⟩ (.bool true)) hbl (by exact blk_set (i := 3) (.bool true) hr6) (grownBy_setCell (p := ⟨b, 3, none⟩) hg6 (.inl rfl) _) (hb6.far (by dsimp only; omega) _) (KAt.nil 0 none (Nat.zero_le _)))
     clear hr6 hb6 hg6 HW6
     go_wp2
     obtain ⟨k1, k2, k3, k4⟩ := HFIN.out
     refine bodyPost_ret (results_cell_row (p := 2) (ty := 28) rfl _ _ w.heap.size 28 _ (0, 0) _ rfl k4 Tryz.underlying28 rfl (by kernel_rfl)) rfl ?_
     exact ⟨.mk 0 [], none, 0, 0, rfl, k1, k2, by rw [HRS2.out]; exact ⟨E, m + 1, k3⟩⟩
   · have HRS2 := HRS
     simp only [if_neg h128] at HRS2
     have dm : ¬ (128 : Int) < ((m + 1 : Nat) : Int) := by omega
     have TK2 : Hid (∀ W, RdAt W b s E (m + 1) false → Calls Tryz.prog 97 #[.pointer (some ⟨b, 0, none⟩), .int .u8 40] W (TakePost b s E (m + 1) false (tkB s E 40) W)) := Lib.hid (fun W h => otake_any b s E (m + 1) 40 40 rfl false W h (by omega) _ rfl)
     have HR7 : Hid (RdAt (W6.alloc (.cells #[.int .i64 v, .slice none 0 0] 28)) b s E (m + 1) false) := Lib.hid (Blk.alloc hr6 _)
     have HI7 : Hid (RvI (W6.alloc (.cells #[.int .i64 v, .slice none 0 0] 28)) w b W6.heap.size v (.slice none 0 0) [] []) := Lib.hid ⟨hb6.alloc _, Blk.new _ _ _, VRow.nil _ _ _ _, grownBy_trans hg6 (grownBy_of_below ((Below.refl _ _).alloc (Nat.le_refl _) _) _), hbl, hz6⟩
     clear hr6 hb6 hg6 HW6 g0 g1 p0' p1'
     rcases htk : tkB s E 40 with _ | _
     · have HRS3 : Hid (res = some (.mk v [], E, m + 1)) := Lib.hid (by
         rw [HRS2.out, if_neg (by simpa [tkB] using htk)])
       rw [htk] at TK2
       clear HRS HRS2 htk HIH
       go_wp2_with (go_at_call 97; go_must ((refine (TK2.out _ HR7.out).mono ?_); rintro e w8 ⟨rfl, hr8, hg8⟩; (have HI8 := Lib.hid (HI7.out.keep hg8)); (have HR8 := Lib.hid hr8); have g0 := HI8.out.g.cell 0; have g1 := HI8.out.g.cell 1; have y0 := HI8.out.r.cell 0; have y1 := HI8.out.r.cell 1; have y2 := HI8.out.r.frozen 0; have y3 := HI8.out.r.frozen 1; clear hr8 hg8))
       obtain ⟨k1, k2, k3, k4⟩ := rv_end (x := v) (sv := .slice none 0 0) (l := []) hbl HR8.out HI8.out.gb HI8.out.r (KAt.nil 0 none (Nat.zero_le _))
       refine bodyPost_ret (results_cell_row (p := 2) (ty := 28) rfl _ _ w.heap.size 28 _ (0, 0) _ rfl k4 Tryz.underlying28 rfl (by kernel_rfl)) rfl ?_
       exact ⟨.mk v [], none, 0, 0, rfl, k1, k2, by rw [HRS3.out]; exact ⟨rfl, k3⟩⟩
     · obtain ⟨TT, hTT⟩ : ∃ TT, TT = pk (pv s.data.toList f) s.data.toList 129 [] (E + 1) (m + 1) := ⟨_, rfl⟩
       have HTT := Lib.hid hTT
       have HRS3 : Hid (res = finR s.data.toList v TT) := Lib.hid (by
         rw [HRS2.out, if_pos (by simpa [tkB] using htk), HTT.out]
         generalize pk (pv s.data.toList f) s.data.toList 129 [] (E + 1) (m + 1) = q
         rcases q with _ | ⟨_, _, _⟩ <;> rfl)
       have HE1 : Hid (E + 1 ≤ s.size) := Lib.hid (by
         have := some_lt (l := s.data.toList) (a := E) (c := 40) (by simpa [tkB] using htk)
         rw [size_data] at this; omega)
       rw [htk] at TK2
       clear HRS HRS2 htk hTT
       obtain ⟨i0, hi, hz0, hz1, hz2⟩ := info_parts infoVal
       go_upto_block 2 with (go_at_call 97; go_must ((refine (TK2.out _ HR7.out).mono ?_); rintro e w8 ⟨rfl, hr8, hg8⟩; (have H8 : Hid (RdAt w8 b s (E + 1) (m + 1) false ∧ RvI w8 w b W6.heap.size v (.slice none 0 0) [] []) := Lib.hid ⟨hr8, HI7.out.keep hg8⟩); clear hr8 hg8))
       have hG := HI7.out.lt.2
       clear HI7 HR7 TK2 c2 c3 d3
       generalize W6.heap.size = G at *
       have hbG : b < G := by omega
       go_cut [7] from 95 to 111 (fun s7 wx => ∃ (bad : Bool) (acc : List V) (ss : List Value) (sv : Value) (a' m' : Nat), Hid (RvI wx w b G v sv acc ss ∧ RdAt wx b s a' m' bad ∧ ((bad = false ∧ TT = some (acc, a', m') ∧ a' ≤ s.size) ∨ (bad = true ∧ TT = none))))
       case first =>
         go_wp2_with fail
         go_loopw [7] (fun s7 wr => ∃ (more bad : Bool) (acc : List V) (ss : List Value) (sv : Value) (a' m' : Nat), s7 = .bool more ∧ Hid (RvI wr w b G v sv acc ss ∧ RdAt wr b s a' m' bad ∧ tkPost b s TT (pv s.data.toList f) m more bad acc a' m')) (fun s7 wr => kidsLeft s7 wr b)
         case atStart => exact ⟨true, false, [], [], _, E + 1, m + 1, rfl, Lib.hid ⟨H8.out.2, H8.out.1, .inl ⟨rfl, rfl, Nat.le_refl _, by omega, HE1.out, by simp, 129, by omega, HTT.out⟩⟩⟩
         case round =>
           obtain ⟨more, bad, acc, ss, sv, a', m', rfl, HR9⟩ := hrel
           obtain ⟨hI, hr9, hp⟩ := HR9.out
           have c3 := hr9.cell 3
           rcases hp with ⟨rfl, rfl, hm1, hm2, ha2, hal2, q, hq, hTq⟩ | ⟨rfl, rfl, hTq, ha2⟩ | ⟨rfl, hTq⟩
           · cases q with
             | zero => omega
             | succ q =>
             obtain ⟨VA, vc, rfl, vb1, vb2⟩ := hI.row.form
             obtain ⟨k, hkk⟩ : ∃ k, acc.length = k := ⟨_, rfl⟩
             rw [hkk] at hI vb1 hal2
             have HKL := Lib.hid hkk
             have HI9 := Lib.hid hI
             have CH : Hid (Calls Tryz.prog 60 #[.pointer (some ⟨b, 0, none⟩)] wr.drew (ValRd b s wr.drew (pv s.data.toList f a' m'))) := Lib.hid (HIH.out a' m' wr.drew (Blk.drew hr9) ha2 hm2 (by omega) (HG.out.kept HGL.out (gb_below (grownBy_trans hI.gb (grownBy_of_below (Bw.refl wr).drew.b _)) (Nat.le_refl _) (by omega))) HGL.out)
             have HPK : Hid (TT = pkS (pv s.data.toList f) s.data.toList q acc (pv s.data.toList f a' m')) := Lib.hid (by rw [hTq, pk_succ])
             have HOK : Hid (∀ u a1 m1, pv s.data.toList f a' m' = some (u, a1, m1) → m' < m1 ∧ m1 ≤ 128 ∧ a1 ≤ s.size) := Lib.hid (fun u a1 m1 h => by
               have := pv_ok s.data.toList f a' m' u a1 m1 (by rw [size_data]; exact ha2) h
               rw [size_data] at this; exact this)
             have KS2 : Hid (∀ W', wr.drew.grownBy W' (some b) → G < W'.heap.size ∧ W'.cell? ⟨G, 1, none⟩ = some (.slice VA k vc) ∧ RvI W' w b G v (.slice VA k vc) acc ss) := Lib.hid (fun W' g => by
               have h := (HI9.out.bw (Bw.refl wr).drew).keep g
               exact ⟨h.g.lt, h.g.cell 1, h⟩)
             have HN2 : Hid (rdN wr b 2 = m' ∧ rdBad wr b = false) := Lib.hid ⟨hr9.n2, hr9.n3⟩
             have g1 := hI.g.cell 1
             have hz9 := hI.g.lt
             clear hI hr9 HR9 hTq hkk HTT HRS3
             generalize pv s.data.toList f a' m' = r at *
             have hsz9 : wr.drew.heap.size = wr.heap.size := rfl
             go_upto_region 16 with fail
             go_region_law (first
               | (refine step_append_any _ rfl (.tmp 106) (.tmp 109) 26 rfl (G + 1) 28 i0 _ 2 32 Tryz.underlying26 hi hz0 hz1 hz2 rfl (by decide) (.slice VA k vc) k (vCells acc ss) (by simp [Act.eval, Act.put]) (by have := (HI6.out.row.own.alloc (.cells #[.int .i64 u6.n, .slice A6 n6 c6] 28)); rwa [HKL.out] at this) (w6.heap.size + 1) (some ⟨w6.heap.size, 0, none⟩) 1 1 [.int .i64 u6.n, .slice A6 n6 c6] (by simp [Act.eval, Act.put]) (reads_new2 w6 _ _ _) (one2 _ _ _ _) (by unfold maxLen; omega) (by omega) (by simp <;> omega) ?_; intro v7 w7 hown7 hgr7 hl7; obtain ⟨A7, c7, rfl⟩ := own_form hown7; have hne7 : some G ≠ (Value.slice VA k vc).ownBlock := (fun e => by have := (HI6.out.row.own.lt _ e.symm).1; omega); have k7 := (HI6.out.g.alloc (.cells #[.int .i64 u6.n, .slice A6 n6 c6] 28)).grown hgr7 hne7; have y7 := k7.cell 1; have z7 := k7.frozen 1; have l7 := k7.lt; have HO7 := Lib.hid hown7; have HG7 := Lib.hid hgr7; have HL7 := Lib.hid hl7; clear hown7 hgr7 hl7 k7 hne7)
               | (go_simp; go_at_call 60; refine CH.out.mono ?_; rintro e w6 ⟨u6, A6, n6, c6, rfl, hk6, hg6, hm6⟩; have HK6 := Lib.hid hk6; obtain ⟨x0, x1, x2⟩ := KS2.out _ hg6; have HI6 := Lib.hid x2; have HG6 := Lib.hid hg6; have HM6 := Lib.hid hm6; have hs6 := hg6.size; clear hk6 hg6 hm6 x2))
             all_goals
               have HK7 : Hid (KAt (w6.alloc (.cells #[.int .i64 u6.n, .slice A6 n6 c6] 28)) (fun y => G + 1 ≤ y ∧ y < (w6.alloc (.cells #[.int .i64 u6.n, .slice A6 n6 c6] 28)).heap.size ∧ (Value.slice VA k vc).ownBlock ≠ some y) (.slice A6 n6 c6) u6.ks) := Lib.hid (by
                 refine KAt.keep (S := fun y => wr.heap.size ≤ y ∧ y < w6.heap.size) HK6.out (fun y hy => ⟨by omega, by simp; omega, fun e => ?_⟩) (fun p hp => World.cell?_alloc_lt w6 _ p hp.2)
                 have := (HI9.out.row.own.lt y e).2; omega)
               have HIn := Lib.hid ((HI6.out.bw ((Bw.refl w6).alloc (.cells #[.int .i64 u6.n, .slice A6 n6 c6] 28))).push (y := u6) (s := .slice A6 n6 c6) HK7.out (by rw [HKL.out]; exact HO7.out) HG7.out HL7.out)
               have hown6 := HI6.out.row.own.alloc (.cells #[.int .i64 u6.n, .slice A6 n6 c6] 28)
               rcases r with _ | ⟨u, a1, m1⟩
               · obtain ⟨a1, m1, hr6⟩ := HM6.out
                 have HRn : Hid (RdAt (w7.setCell ⟨G, 1, none⟩ (.slice A7 (k + 1) c7)) b s a1 m1 true) := Lib.hid (RdAt.push (Blk.alloc hr6 _) hown6 hbG HG7.out)
                 have TK4 : Hid (∀ W, RdAt W b s a1 m1 true → Calls Tryz.prog 97 #[.pointer (some ⟨b, 0, none⟩), .int .u8 32] W (TakePost b s a1 m1 true (tkB s a1 32) W)) := Lib.hid (fun W h => otake_any b s a1 m1 32 32 rfl true W h (by omega) _ rfl)
                 have HT0 : Hid (TT = none) := Lib.hid HPK.out
                 clear hr6 hown6 HPK HOK
                 go_wp2_with (go_at_call 97; go_must ((refine (TK4.out _ HRn.out).mono ?_); rintro e w9 ⟨rfl, hr9', hg9'⟩; (have HR9' := Lib.hid hr9'); (have HI9' := Lib.hid (HIn.out.keep hg9')); clear hr9' hg9'))
                 go_roundw
                 case rel => exact ⟨_, true, acc ++ [u6], _, _, _, _, rfl, Lib.hid ⟨HI9'.out, HR9'.out, .inr (.inr ⟨rfl, HT0.out⟩)⟩⟩
                 case measure =>
                   obtain ⟨e1, e2⟩ := HN2.out
                   have e3 := HR9'.out.n3
                   simp only [kidsLeft, e1, e2, e3]
                   split <;> simp <;> omega
               · obtain ⟨eu, hr6⟩ := HM6.out
                 subst eu
                 obtain ⟨o1, o2, o3⟩ := HOK.out _ _ _ rfl
                 have HRn : Hid (RdAt (w7.setCell ⟨G, 1, none⟩ (.slice A7 (k + 1) c7)) b s a1 m1 false) := Lib.hid (RdAt.push (Blk.alloc hr6 _) hown6 hbG HG7.out)
                 have TK4 : Hid (∀ W, RdAt W b s a1 m1 false → Calls Tryz.prog 97 #[.pointer (some ⟨b, 0, none⟩), .int .u8 32] W (TakePost b s a1 m1 false (tkB s a1 32) W)) := Lib.hid (fun W h => otake_any b s a1 m1 32 32 rfl false W h (by omega) _ rfl)
                 clear hr6 hown6 HOK
                 rcases htk : tkB s a1 32 with _ | _
                 · have HT0 : Hid (TT = some (acc ++ [u6], a1, m1)) := Lib.hid (by rw [HPK.out]; simp only [pkS]; rw [if_neg (by simpa [tkB] using htk)])
                   rw [htk] at TK4
                   clear htk HPK
                   go_wp2_with (go_at_call 97; go_must ((refine (TK4.out _ HRn.out).mono ?_); rintro e w9 ⟨rfl, hr9', hg9'⟩; (have HR9' := Lib.hid hr9'); (have HI9' := Lib.hid (HIn.out.keep hg9')); clear hr9' hg9'))
                   go_roundw
                   case rel => exact ⟨_, false, acc ++ [u6], _, _, _, _, rfl, Lib.hid ⟨HI9'.out, HR9'.out, .inr (.inl ⟨rfl, rfl, HT0.out, o3⟩)⟩⟩
                   case measure =>
                     obtain ⟨e1, e2⟩ := HN2.out
                     simp only [kidsLeft, e1, e2]
                     simp; omega
                 · have HT0 : Hid (TT = pk (pv s.data.toList f) s.data.toList q (acc ++ [u6]) (a1 + 1) m1) := Lib.hid (by rw [HPK.out]; simp only [pkS]; rw [if_pos (by simpa [tkB] using htk)])
                   have HA1 : Hid (a1 + 1 ≤ s.size) := Lib.hid (by
                     have := some_lt (l := s.data.toList) (a := a1) (c := 32) (by simpa [tkB] using htk)
                     rw [size_data] at this; omega)
                   rw [htk] at TK4
                   clear htk HPK
                   go_wp2_with (go_at_call 97; go_must ((refine (TK4.out _ HRn.out).mono ?_); rintro e w9 ⟨rfl, hr9', hg9'⟩; (have HR9' := Lib.hid hr9'); (have HI9' := Lib.hid (HIn.out.keep hg9')); clear hr9' hg9'))
                   go_roundw
                   case rel => exact ⟨_, false, acc ++ [u6], _, _, _, _, rfl, Lib.hid ⟨HI9'.out, HR9'.out, .inl ⟨rfl, rfl, by omega, o2, HA1.out, by rw [List.length_append, HKL.out]; simp; omega, q, by omega, HT0.out⟩⟩⟩
                   case measure =>
                     obtain ⟨e1, e2⟩ := HN2.out
                     have e3 := HR9'.out.n3
                     have e4 := HR9'.out.n2
                     simp only [kidsLeft, e1, e2, e3, e4]
                     simp; omega
           · have HF := Lib.hid (And.intro hI (And.intro hr9 (And.intro hTq ha2)))
             clear hI hr9 hTq HR9
             go_wp2_with fail
             go_meet
             exact ⟨false, acc, ss, sv, a', m', Lib.hid ⟨HF.out.1, HF.out.2.1, .inl ⟨rfl, HF.out.2.2.1, HF.out.2.2.2⟩⟩⟩
           · have HF := Lib.hid (And.intro hI (And.intro hr9 hTq))
             clear hI hr9 hTq HR9
             rcases more with _ | _
             · go_wp2_with fail
               go_meet
               exact ⟨true, acc, ss, sv, a', m', Lib.hid ⟨HF.out.1, HF.out.2.1, .inr ⟨rfl, HF.out.2.2⟩⟩⟩
             · go_wp2_with fail
               go_meet
               exact ⟨true, acc, ss, sv, a', m', Lib.hid ⟨HF.out.1, HF.out.2.1, .inr ⟨rfl, HF.out.2.2⟩⟩⟩
       case rest =>
       obtain ⟨bad, acc, ss, sv, a', m', HC⟩ := hcut
       obtain ⟨hI, hr9, hp⟩ := HC.out
       obtain ⟨W9, rfl⟩ : ∃ W9, W9 = wc := ⟨_, rfl⟩
       obtain ⟨VA, vc, rfl, -, -⟩ := hI.row.form
       have hkr : KAt W9 (fun y => w.heap.size + 1 ≤ y ∧ y < W9.heap.size) (.slice VA acc.length vc) acc := (hI.row.kat (Nat.le_refl _)).keep (fun y hy => ⟨by omega, hy.2⟩) (fun _ _ => rfl)
       have g0 := hI.g.cell 0
       have g1 := hI.g.cell 1
       have y0 := hI.r.cell 0
       have y1 := hI.r.cell 1
       have y2 := hI.r.frozen 0
       have y3 := hI.r.frozen 1
       have c3 := hr9.cell 3
       have d3 := hr9.frozen 3
       have hz9 := hI.g.lt
       generalize acc.length = n9 at *
       have hgG : G ≠ b := by omega
       have hgG' : G ≠ w.heap.size := by omega
       clear H8 HC
       rcases hp with ⟨rfl, hTq, ha2⟩ | ⟨rfl, hTq⟩
       · have TK3 : Hid (∀ W, RdAt W b s a' m' false → Calls Tryz.prog 97 #[.pointer (some ⟨b, 0, none⟩), .int .u8 41] W (TakePost b s a' m' false (tkB s a' 41) W)) := Lib.hid (fun W h => otake_any b s a' m' 41 41 rfl false W h (by omega) _ rfl)
         have HR9 := Lib.hid hr9
         have HI9 := Lib.hid hI
         clear hI hr9 hkr
         rcases htk : tkB s a' 41 with _ | _
         · have HRS4 : Hid (res = none) := Lib.hid (by rw [HRS3.out, hTq]; simp only [finR]; rw [if_neg (by simpa [tkB] using htk)])
           rw [htk] at TK3
           clear htk hTq
           go_wp2_with (go_at_call 97; go_must ((refine (TK3.out _ HR9.out).mono ?_); rintro e w10 ⟨rfl, hr10, hg10⟩; (have HI10 := Lib.hid (HI9.out.keep hg10)); (have HR10 := Lib.hid hr10); have e0 := HI10.out.g.cell 0; have e1 := HI10.out.g.cell 1; have e2 := HI10.out.r.cell 0; have e3 := HI10.out.r.cell 1; have e4 := HI10.out.r.frozen 0; have e5 := HI10.out.r.frozen 1; have e6 := hr10.cell 3; have e7 := hr10.frozen 3; have e8 := HI10.out.g.lt; clear hr10 hg10))
           have hkr := HI10.out.row.kat (Nat.le_refl _)
           obtain ⟨k1, k2, k3, k4⟩ := rv_end (x := v) (sv := .slice VA n9 vc) (l := acc) (bad := true) (W := w10.setCell ⟨b, 3, none⟩ (.bool true)) hbl (by exact blk_set (i := 3) (.bool true) HR10.out) (grownBy_setCell (p := ⟨b, 3, none⟩) HI10.out.gb (.inl rfl) _) (HI10.out.r.far (by dsimp only; omega) _) (hkr.keep (fun y hy => ⟨by have := hy.1; omega, by have := hy.2; simp [World.setCell]; exact this⟩) (fun p hp => World.cell?_setCell_other _ _ _ _ (by intro e; subst e; have := hp.1; simp at this; omega)))
           refine bodyPost_ret (results_cell_row (p := 2) (ty := 28) rfl _ _ w.heap.size 28 _ (0, 0) _ rfl k4 Tryz.underlying28 rfl (by kernel_rfl)) rfl ?_
           exact ⟨.mk v acc, VA, n9, vc, rfl, k1, k2, by rw [HRS4.out]; exact ⟨_, _, k3⟩⟩
         · have HRS4 : Hid (res = some (.mk v acc, a' + 1, m')) := Lib.hid (by rw [HRS3.out, hTq]; simp only [finR]; rw [if_pos (by simpa [tkB] using htk)])
           rw [htk] at TK3
           clear htk hTq
           go_wp2_with (go_at_call 97; go_must ((refine (TK3.out _ HR9.out).mono ?_); rintro e w10 ⟨rfl, hr10, hg10⟩; (have HI10 := Lib.hid (HI9.out.keep hg10)); (have HR10 := Lib.hid hr10); have e0 := HI10.out.g.cell 0; have e1 := HI10.out.g.cell 1; have e2 := HI10.out.r.cell 0; have e3 := HI10.out.r.cell 1; have e4 := HI10.out.r.frozen 0; have e5 := HI10.out.r.frozen 1; have e6 := hr10.cell 3; have e7 := hr10.frozen 3; have e8 := HI10.out.g.lt; clear hr10 hg10))
           have hkr := HI10.out.row.kat (Nat.le_refl _)
           obtain ⟨k1, k2, k3, k4⟩ := rv_end (x := v) (sv := .slice VA n9 vc) (l := acc) (bad := false) (W := w10.setCell ⟨b, 3, none⟩ (.bool false)) hbl (by exact blk_set (i := 3) (.bool false) HR10.out) (grownBy_setCell (p := ⟨b, 3, none⟩) HI10.out.gb (.inl rfl) _) (HI10.out.r.far (by dsimp only; omega) _) (hkr.keep (fun y hy => ⟨by have := hy.1; omega, by have := hy.2; simp [World.setCell]; exact this⟩) (fun p hp => World.cell?_setCell_other _ _ _ _ (by intro e; subst e; have := hp.1; simp at this; omega)))
           refine bodyPost_ret (results_cell_row (p := 2) (ty := 28) rfl _ _ w.heap.size 28 _ (0, 0) _ rfl k4 Tryz.underlying28 rfl (by kernel_rfl)) rfl ?_
           exact ⟨.mk v acc, VA, n9, vc, rfl, k1, k2, by rw [HRS4.out]; exact ⟨rfl, k3⟩⟩
       · have HRS4 : Hid (res = none) := Lib.hid (by rw [HRS3.out, hTq]; rfl)
         have HFIN := Lib.hid (rv_end (x := v) (bad := true) (W := W9.setCell ⟨b, 3, none⟩ (.bool true)) hbl (by exact blk_set (i := 3) (.bool true) hr9) (grownBy_setCell (p := ⟨b, 3, none⟩) hI.gb (.inl rfl) _) (hI.r.far (by dsimp only; omega) _) (hkr.keep (fun y hy => ⟨hy.1, by have := hy.2; simp [World.setCell]; exact this⟩) (fun p hp => World.cell?_setCell_other _ _ _ _ (by intro e; subst e; have := hp.1; simp at this; omega))))
         clear hI hr9 hkr hTq
         go_wp2
         obtain ⟨k1, k2, k3, k4⟩ := HFIN.out
         refine bodyPost_ret (results_cell_row (p := 2) (ty := 28) rfl _ _ w.heap.size 28 _ (0, 0) _ rfl k4 Tryz.underlying28 rfl (by kernel_rfl)) rfl ?_
         exact ⟨.mk v acc, VA, n9, vc, rfl, k1, k2, by rw [HRS4.out]; exact ⟨a', m', k3⟩⟩
theorem ovalue_any (b : Nat) (s : ByteArray) (hs : s.size ≤ 4096) : ∀ f, ValSays b s f := by
 intro f
 induction f with
 | zero => intro a m w _ _ hm hf; omega
 | succ f ih => exact ovalue_step b s hs f ih
theorem toList_data (s : ByteArray) : s.toList = s.data.toList := by
 have : ∀ (n i : Nat) (r : List UInt8), s.size - i ≤ n → ByteArray.toList.loop s i r = r.reverse ++ s.data.toList.drop i := by
   intro n
   induction n with
   | zero =>
     intro i r h
     rw [ByteArray.toList.loop, if_neg (by omega)]
     rw [List.drop_of_length_le (show s.data.toList.length ≤ i from by show s.size ≤ i; omega)]
     simp
   | succ n ih =>
     intro i r h
     rw [ByteArray.toList.loop]
     by_cases hi : i < s.size
     · rw [if_pos hi, ih (i + 1) _ (by omega), List.drop_eq_getElem_cons (show i < s.data.toList.length from hi)]
       simp [ByteArray.get!]
       rw [getElem!_pos s.data i hi]
     · rw [if_neg hi, List.drop_of_length_le (show s.data.toList.length ≤ i from by show s.size ≤ i; omega)]
       simp
 have h := this s.size 0 [] (by omega)
 rw [ByteArray.toList, h]; simp
theorem str_eq_dec (a b : ByteArray) : (a.toList == b.toList) = (a.data.toList == b.data.toList) := by rw [toList_data, toList_data]
theorem ps_end {w W : World} {x : Int} {sv u0 u1 : Value} {l : List V} (hg : Bw w W) (hB : Blk W w.heap.size 28 #[u0, u1]) (hk : KAt W (fun y => w.heap.size + 1 ≤ y ∧ y < W.heap.size) sv l) :
   KAt ((W.setCell ⟨w.heap.size, 0, none⟩ (.int .i64 x)).setCell ⟨w.heap.size, 1, none⟩ sv) (fun y => w.heap.size ≤ y ∧ y < ((W.setCell ⟨w.heap.size, 0, none⟩ (.int .i64 x)).setCell ⟨w.heap.size, 1, none⟩ sv).heap.size) sv l ∧
   Bw w ((W.setCell ⟨w.heap.size, 0, none⟩ (.int .i64 x)).setCell ⟨w.heap.size, 1, none⟩ sv) ∧
   ((W.setCell ⟨w.heap.size, 0, none⟩ (.int .i64 x)).setCell ⟨w.heap.size, 1, none⟩ sv).heap[w.heap.size]? = some (.cells #[.int .i64 x, sv] 28 (0, 0)) := by
 refine ⟨hk.keep (fun y hy => ⟨by have := hy.1; omega, by have := hy.2; simp [World.setCell]; exact this⟩) (fun p hp => ?_), ?_, blk_set (i := 1) sv (blk_set (i := 0) (.int .i64 x) hB)⟩
 · have hp1 := hp.1
   rw [World.cell?_setCell_other _ _ _ _ (by intro e; subst e; simp at hp1; omega), World.cell?_setCell_other _ _ _ _ (by intro e; subst e; simp at hp1; omega)]
 · exact (hg.setCell (p := ⟨w.heap.size, 0, none⟩) (Nat.le_refl _) _).setCell (p := ⟨w.heap.size, 1, none⟩) (Nat.le_refl _) _
def parseE (l : List UInt8) : V × Int := if 4096 < l.length then (zeroV, 1) else match parseP l with
 | some v => (v, 0)
 | none => (zeroV, 12)
theorem oParse_any (s : ByteArray) (w : World) (hg : GlobO w) (p : V × Int) (hp : parseE s.data.toList = p) : Calls Tryz.prog 36 #[.string s] w (SortedPost w p.1 p.2) := by
 subst hp
 have hk0 := fun W => KAt.nil (w := W) (S := fun y => w.heap.size + 1 ≤ y ∧ y < W.heap.size) 0 none (Nat.zero_le _)
 by_cases hs : 4096 < s.size
 · have e1 : parseE s.data.toList = (zeroV, 1) := by unfold parseE; rw [if_pos (by rw [size_data]; exact hs)]
   rw [e1]
   show Calls _ _ _ _ (SortedPost w zeroV 1)
   have HK0 := Lib.hid (hk0 (w.alloc (.cells #[.int .i64 0, .slice none 0 0] 28)))
   have HB := Lib.hid (Blk.new w 28 #[.int .i64 0, .slice none 0 0])
   have ds : (4096 : Int) < (s.size : Int) := by omega
   generalize hres : SortedPost w zeroV 1 = R
   clear hk0 hg e1
   go_enter Tryz.func36, Tryz.ntmps36
   go_wp2
   refine bodyPost_ret (results_row_tmp (p := 2) (q := 3) (ty := 28) rfl _ _ w.heap.size _ _ rfl (run_loadVar_row _ _ 28 28 _ (0, 0) _ HB.out Tryz.underlying28 rfl (by kernel_rfl)) rfl) rfl ?_
   subst hres
   exact ⟨_, rfl, KAt.nil 0 none (Nat.zero_le _), (Bw.refl w).alloc _⟩
 have hs' : s.size ≤ 4096 := by omega
 have HPE : Hid (parseE s.data.toList = match parseP s.data.toList with
   | some v => (v, 0)
   | none => (zeroV, 12)) := Lib.hid (by unfold parseE; rw [if_neg (by rw [size_data]; omega)])
 have HPP : Hid (parseP s.data.toList = match pv s.data.toList 129 0 0 with
   | some (v, a, _) => if a = s.data.toList.length ∧ okText s.data.toList v = true then some v else none
   | none => none) := Lib.hid rfl
 have HIR : Hid (∀ u a m, pv s.data.toList 129 0 0 = some (u, a, m) → i64V u = true) := Lib.hid (fun u a m h => pv_inR _ _ _ _ _ _ _ h)
 generalize parseE s.data.toList = pe at *
 have hr1 : RdAt ((w.alloc (.cells #[.int .i64 0, .slice none 0 0] 28)).alloc (.cells #[.string s, .int .i64 0, .int .i64 0, .bool false] 77)) (w.heap.size + 1) s 0 0 false := by
   have := Blk.new (w.alloc (.cells #[.int .i64 0, .slice none 0 0] 28)) 77 #[.string s, .int .i64 0, .int .i64 0, .bool false]
   rw [World.size_alloc] at this
   exact this
 have hb1 : Blk ((w.alloc (.cells #[.int .i64 0, .slice none 0 0] 28)).alloc (.cells #[.string s, .int .i64 0, .int .i64 0, .bool false] 77)) w.heap.size 28 #[.int .i64 0, .slice none 0 0] := (Blk.new _ _ _).alloc _
 have hw1 : Bw w ((w.alloc (.cells #[.int .i64 0, .slice none 0 0] 28)).alloc (.cells #[.string s, .int .i64 0, .int .i64 0, .bool false] 77)) := ((Bw.refl w).alloc _).alloc _
 have CV := Lib.hid (ovalue_any (w.heap.size + 1) s hs' 129 0 0 _ hr1 (Nat.zero_le _) (by omega) (by omega) (hg.bw hw1) (hg.gl.mono (by omega)))
 have HB1 := Lib.hid hb1
 have HW1 := Lib.hid hw1
 have HG := Lib.hid hg
 have HK0 := Lib.hid hk0
 have ds : ¬ (4096 : Int) < (s.size : Int) := by omega
 clear hr1 hb1 hw1 hg hk0 hs
 generalize pv s.data.toList 129 0 0 = r at *
 generalize hres : SortedPost w pe.1 pe.2 = R
 go_enter Tryz.func36, Tryz.ntmps36
 go_upto_region 5 with (go_at_call 60; go_must ((refine CV.out.mono ?_); rintro e w2 ⟨u, A2, n2, c2, rfl, hk2, hg2, hm2⟩; (have H2 : Hid (Blk w2 w.heap.size 28 #[.int .i64 0, .slice none 0 0] ∧ Bw w w2 ∧ KAt w2 (fun y => w.heap.size + 1 ≤ y ∧ y < w2.heap.size) (.slice A2 n2 c2) u.ks) := Lib.hid ⟨HB1.out.grown hg2 (by intro e; injection e; omega), Below.trans HW1.out (gb_below hg2 (by omega) (by simp; omega)), hk2.keep (fun y hy => ⟨by have := hy.1; simp at this; omega, hy.2⟩) (fun _ _ => rfl)⟩); (have HM2 := Lib.hid hm2); clear hk2 hg2 hm2))
 have H3 : Hid (Blk (w2.alloc (.cells #[.int .i64 u.n, .slice A2 n2 c2] 28)) w.heap.size 28 #[.int .i64 0, .slice none 0 0] ∧ Bw w (w2.alloc (.cells #[.int .i64 u.n, .slice A2 n2 c2] 28)) ∧ KAt (w2.alloc (.cells #[.int .i64 u.n, .slice A2 n2 c2] 28)) (fun y => w.heap.size + 1 ≤ y ∧ y < (w2.alloc (.cells #[.int .i64 u.n, .slice A2 n2 c2] 28)).heap.size) (.slice A2 n2 c2) u.ks ∧ Blk (w2.alloc (.cells #[.int .i64 u.n, .slice A2 n2 c2] 28)) w2.heap.size 28 #[.int .i64 u.n, .slice A2 n2 c2]) := Lib.hid ⟨H2.out.1.alloc _, H2.out.2.1.alloc _, H2.out.2.2.keep (fun y hy => ⟨hy.1, by have := hy.2; simp; omega⟩) (fun p hp => World.cell?_alloc_lt w2 _ p hp.2), Blk.new _ _ _⟩
 have hz2 := H2.out.2.1.size
 have hz2' := H2.out.1.lt
 rcases r with _ | ⟨u', a', m'⟩
 · obtain ⟨a', m', hr2⟩ := HM2.out
   have hr3 : RdAt (w2.alloc (.cells #[.int .i64 u.n, .slice A2 n2 c2] 28)) (w.heap.size + 1) s a' m' true := Blk.alloc hr2 _
   have HPZ : Hid (pe = (zeroV, 12)) := Lib.hid (by rw [HPE.out, HPP.out])
   generalize hW3 : w2.alloc (.cells #[.int .i64 u.n, .slice A2 n2 c2] 28) = W3 at *
   clear hW3
   have c3 := hr3.cell 3
   have y0 := H3.out.1.cell 0
   have y1 := H3.out.1.cell 1
   have y2 := H3.out.1.frozen 0
   have y3 := H3.out.1.frozen 1
   clear hr2 hr3 HM2 H2
   go_wp2
   obtain ⟨k1, k2, k3⟩ := ps_end (x := 0) H3.out.2.1 H3.out.1 (HK0.out W3)
   refine bodyPost_ret (results_row_tmp (p := 2) (q := 3) (ty := 28) rfl _ _ w.heap.size _ _ rfl (run_loadVar_row _ _ 28 28 _ (0, 0) _ k3 Tryz.underlying28 rfl (by kernel_rfl)) rfl) rfl ?_
   subst hres
   rw [HPZ.out]
   exact ⟨_, rfl, k1, k2⟩
 · obtain ⟨eu, hr2⟩ := HM2.out
   subst eu
   have hir := HIR.out _ _ _ rfl
   have HIN := Lib.hid hir
   have hr3 : RdAt (w2.alloc (.cells #[.int .i64 u.n, .slice A2 n2 c2] 28)) (w.heap.size + 1) s a' m' false := Blk.alloc hr2 _
   have TX : Hid (∀ W, Bw (w2.alloc (.cells #[.int .i64 u.n, .slice A2 n2 c2] 28)) W → Calls Tryz.prog 33 #[.agg #[.int .i64 u.n, .slice A2 n2 c2]] W (TxtPost W (txtP u))) := Lib.hid (fun W g => oText_any u hir _ W (HG.out.bw (H3.out.2.1.trans g)) (KAt.bw (H3.out.2.2.1.keep (fun y hy => hy.2) (fun _ _ => rfl)) g) _ rfl)
   have HV3 := Lib.hid (fun W (g : Bw (w2.alloc (.cells #[.int .i64 u.n, .slice A2 n2 c2] 28)) W) => (⟨H3.out.1.below g.b H3.out.1.lt, H3.out.2.1.trans g, H3.out.2.2.1.keep (fun y hy => ⟨hy.1, Nat.lt_of_lt_of_le hy.2 g.size⟩) (fun p hp => g.b.cell hp.2), H3.out.2.2.2.below g.b H3.out.2.2.2.lt⟩ : Blk W w.heap.size 28 #[.int .i64 0, .slice none 0 0] ∧ Bw w W ∧ KAt W (fun y => w.heap.size + 1 ≤ y ∧ y < W.heap.size) (.slice A2 n2 c2) u.ks ∧ Blk W w2.heap.size 28 #[.int .i64 u.n, .slice A2 n2 c2]))
   by_cases haz : a' = s.size
   rotate_left
   · have HPZ : Hid (pe = (zeroV, 12)) := Lib.hid (by rw [HPE.out, HPP.out]; simp only [size_data, haz, false_and, if_false])
     generalize hW3 : w2.alloc (.cells #[.int .i64 u.n, .slice A2 n2 c2] 28) = W3 at *
     clear hW3
     have c1 := hr3.cell 1
     have c3 := hr3.cell 3
     have y0 := H3.out.1.cell 0
     have y1 := H3.out.1.cell 1
     have y2 := H3.out.1.frozen 0
     have y3 := H3.out.1.frozen 1
     have da : ((a' : Int) == (s.size : Int)) = false := by simp; omega
     clear hr2 hr3 HM2 H2 TX HV3 hir
     go_wp2
     obtain ⟨k1, k2, k3⟩ := ps_end (x := 0) H3.out.2.1 H3.out.1 (HK0.out W3)
     refine bodyPost_ret (results_row_tmp (p := 2) (q := 3) (ty := 28) rfl _ _ w.heap.size _ _ rfl (run_loadVar_row _ _ 28 28 _ (0, 0) _ k3 Tryz.underlying28 rfl (by kernel_rfl)) rfl) rfl ?_
     subst hres
     rw [HPZ.out]
     exact ⟨_, rfl, k1, k2⟩
   · obtain rfl : a' = s.size := haz
     have HPQ : Hid (pe = if okText s.data.toList u = true then (u, 0) else (zeroV, 12)) := Lib.hid (by
       rw [HPE.out, HPP.out]
       simp only [size_data, true_and]
       by_cases ho : okText s.data.toList u = true
       · rw [if_pos ho, if_pos ho]
       · rw [if_neg ho, if_neg ho])
     generalize hW3 : w2.alloc (.cells #[.int .i64 u.n, .slice A2 n2 c2] 28) = W3 at *
     clear hW3
     have c1 := hr3.cell 1
     have c3 := hr3.cell 3
     have y0 := H3.out.2.2.2.cell 0
     have y1 := H3.out.2.2.2.cell 1
     clear hr2 hr3 HM2 H2 hir
     by_cases h8 : u.size ≤ 128
     rotate_left
     · have et : txtP u = (⟨#[]⟩, 1) := if_neg h8
       rw [et] at TX
       have HPZ : Hid (pe = (zeroV, 12)) := Lib.hid (by rw [HPQ.out, if_neg (by simp [okText, h8])])
       go_wp2_with (go_at_call 33; go_must ((refine (TX.out _ (Bw.refl _)).mono ?_); rintro e w5 ⟨rfl, hg5⟩; (have HV5 := Lib.hid (HV3.out _ hg5)); have z0 := HV5.out.1.cell 0; have z1 := HV5.out.1.cell 1; have z2 := HV5.out.1.frozen 0; have z3 := HV5.out.1.frozen 1; clear hg5))
       obtain ⟨k1, k2, k3⟩ := ps_end (x := 0) HV5.out.2.1 HV5.out.1 (HK0.out w5)
       refine bodyPost_ret (results_row_tmp (p := 2) (q := 3) (ty := 28) rfl _ _ w.heap.size _ _ rfl (run_loadVar_row _ _ 28 28 _ (0, 0) _ k3 Tryz.underlying28 rfl (by kernel_rfl)) rfl) rfl ?_
       subst hres
       rw [HPZ.out]
       exact ⟨_, rfl, k1, k2⟩
     · have et : txtP u = (⟨(textV u).toArray⟩, 0) := if_pos h8
       rw [et] at TX
       obtain ⟨tx, htx⟩ : ∃ tx : ByteArray, tx = ⟨(textV u).toArray⟩ := ⟨_, rfl⟩
       rw [← htx] at TX
       by_cases heq : textV u = s.data.toList
       · have HPZ : Hid (pe = (u, 0)) := Lib.hid (by rw [HPQ.out, if_pos (by simp [okText, h8, heq])])
         obtain rfl : tx = s := by rw [htx, heq]
         have de : (tx.toList == tx.toList) = true := by simp
         clear htx et heq
         go_wp2_with (go_at_call 33; go_must ((refine (TX.out _ (Bw.refl _)).mono ?_); rintro e w5 ⟨rfl, hg5⟩; (have HV5 := Lib.hid (HV3.out _ hg5)); have z0 := HV5.out.1.cell 0; have z1 := HV5.out.1.cell 1; have z2 := HV5.out.1.frozen 0; have z3 := HV5.out.1.frozen 1; have z4 := HV5.out.2.2.2.cell 0; have z5 := HV5.out.2.2.2.cell 1; have z6 := HV5.out.2.2.2.lt; clear hg5))
         obtain ⟨k1, k2, k3⟩ := ps_end (x := u.n) HV5.out.2.1 HV5.out.1 HV5.out.2.2.1
         refine bodyPost_ret (results_row_tmp (p := 2) (q := 3) (ty := 28) rfl _ _ w.heap.size _ _ rfl (run_loadVar_row _ _ 28 28 _ (0, 0) _ k3 Tryz.underlying28 rfl (by kernel_rfl)) rfl) rfl ?_
         subst hres
         rw [HPZ.out]
         exact ⟨_, rfl, k1, k2⟩
       · have HPZ : Hid (pe = (zeroV, 12)) := Lib.hid (by rw [HPQ.out, if_neg (by simp [okText, h8, heq])])
         have de : (tx.toList == s.toList) = false := by
           rw [str_eq_dec, htx]
           simpa using heq
         clear htx et heq
         go_wp2_with (go_at_call 33; go_must ((refine (TX.out _ (Bw.refl _)).mono ?_); rintro e w5 ⟨rfl, hg5⟩; (have HV5 := Lib.hid (HV3.out _ hg5)); have z0 := HV5.out.1.cell 0; have z1 := HV5.out.1.cell 1; have z2 := HV5.out.1.frozen 0; have z3 := HV5.out.1.frozen 1; clear hg5))
         obtain ⟨k1, k2, k3⟩ := ps_end (x := 0) HV5.out.2.1 HV5.out.1 (HK0.out w5)
         refine bodyPost_ret (results_row_tmp (p := 2) (q := 3) (ty := 28) rfl _ _ w.heap.size _ _ rfl (run_loadVar_row _ _ 28 28 _ (0, 0) _ k3 Tryz.underlying28 rfl (by kernel_rfl)) rfl) rfl ?_
         subst hres
         rw [HPZ.out]
         exact ⟨_, rfl, k1, k2⟩
end Go.Proofs.YtlmnkcfnihhlgaaGreatDoor
