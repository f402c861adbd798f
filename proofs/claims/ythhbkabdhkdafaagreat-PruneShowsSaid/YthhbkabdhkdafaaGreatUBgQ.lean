/- Part of a proof of pruneShows_holds. -/
import Derived.Test.YthhbkabdhkdafaaGreatUBdQ
import Derived.Test.YthhbkabdhkdafaaGreatUBaQ
import Derived.Test.YthhbkabdhkdafaaGreatUBfQ
import Derived.Test.YthhbkabdhkdafaaGreatRows
import Derived.Lay
import Derived.LaidSub
import Derived.LaidLaws
import Derived.Shelf.Vars
import Derived.HandedShaped
import Derived.MakeChecks
import Derived.Stop.Joined
import Derived.ProofKit
import Derived.Below
import Derived.ChangeSame
set_option linter.unusedSimpArgs false
set_option linter.unusedVariables false
set_option maxRecDepth 100000
set_option maxHeartbeats 16000000
namespace Go.Proofs.YthhbkabdhkdafaaGreat
section
open Go.RowKit
def IxPost (w : World) (l : List Int) (x : Int) (e : Ending) (w' : World) : Prop := ∃ r : Int, e = .returned (.int .i64 r) ∧ (0 ≤ r ↔ x ∈ l) ∧ Bw w w'
theorem idxI9_any (l : List Int) (x : Int) (s : Value) (w : World) (h : IB w w.heap.size s l) : Calls Tryz.prog 314 #[s, .int .i64 x] w (IxPost w l x) := by
 obtain ⟨A, n, c, rfl, ln, bn, mn⟩ := h.form
 unfold maxLen at mn
 have HI := Lib.hid h
 have HL := Lib.hid ln
 clear h ln
 go_enter Tryz.func314, Tryz.ntmps314
 go_wp2_with fail
 go_loopw [8] (fun i wr => ∃ k : Nat, k ≤ n ∧ i = .int .i64 (k : Int) ∧ Hid (Bw w wr ∧ x ∉ l.take k)) (fun i _ => n - (intOf i).toNat)
 case atStart => exact ⟨0, by omega, rfl, Lib.hid ⟨Bw.refl _, by simp⟩⟩
 case round =>
   obtain ⟨wo, hwo⟩ : ∃ wo, wo = wr := ⟨_, rfl⟩
   subst hwo
   obtain ⟨k, hk, rfl, HB⟩ := hrel
   by_cases hlt : k < n
   · have hlt' : (k : Int) < (n : Int) := by omega
     have hkl : k < l.length := by rw [HL.out]; exact hlt
     obtain ⟨ad, rfl, hb, z⟩ := (HI.out.bw HB.out.1).at_ hkl
     have HT : Hid (l.take (k + 1) = l.take k ++ [l[k]]) := Lib.hid (List.take_succ_eq_append_getElem hkl)
     have HM : Hid (l[k] ∈ l) := Lib.hid (List.getElem_mem hkl)
     generalize l[k] = y at *
     by_cases he : x = y
     · subst he
       go_wp2_with fail
       go_ret
       exact ⟨(k : Int), rfl, ⟨fun _ => HM.out, fun _ => by omega⟩, HB.out.1⟩
     · have he' : (x == y) = false := by simpa using he
       have HNE := Lib.hid he
       go_wp2_with fail
       go_roundw
       case rel => exact ⟨k + 1, by omega, by go_num, Lib.hid ⟨HB.out.1, by rw [HT.out, List.mem_append, List.mem_singleton]; exact fun h => h.elim HB.out.2 HNE.out⟩⟩
       case measure => simp [intOf]; omega
   · obtain rfl : k = n := by omega
     go_wp2_with fail
     go_ret
     have h2 := HB.out.2
     rw [List.take_of_length_le (by rw [HL.out]; exact Nat.le_refl _)] at h2
     exact ⟨-1, rfl, ⟨fun h => by omega, fun h => absurd h h2⟩, HB.out.1⟩
theorem contI9_any (l : List Int) (x : Int) (s : Value) (w : World) (h : IB w w.heap.size s l) : Calls Tryz.prog 255 #[s, .int .i64 x] w (BoolPost w (decide (x ∈ l))) := by
 have CI := Lib.hid (idxI9_any l x s w h)
 obtain ⟨A, n, c, rfl, -, -, -⟩ := h.form
 clear h
 go_enter Tryz.func255, Tryz.ntmps255
 go_wp2_with (go_at_call 314; go_must (refine CI.out.mono ?_; rintro e w1 ⟨r, rfl, hr, hg⟩; (have HR := Lib.hid hr); clear hr))
 go_ret
 exact ⟨by
   show Ending.returned (.bool (decide (0 ≤ r))) = _
   rw [decide_eq_decide.2 HR.out], hg⟩
theorem clipI_any (A : Option Addr) (n c : Nat) (hn : n ≤ c) (hc : c ≤ maxLen) (w : World) : Calls Tryz.prog 338 #[.slice A n c] w (fun e w' => e = .returned (.slice A n n) ∧ Bw w w') := by
 unfold maxLen at hc
 go_enter Tryz.func338, Tryz.ntmps338
 go_wp2_with fail
 go_ret
 exact ⟨rfl, Bw.refl _⟩
theorem Blk.c2 {W : World} {b : Nat} {t : TypeId} {u0 u1 : Value} (h : Blk W b t #[u0, u1]) : b < W.heap.size ∧ W.cell? ⟨b, 0, none⟩ = some u0 ∧ W.cell? ⟨b, 1, none⟩ = some u1 :=
 ⟨h.lt, h.cell 0, h.cell 1⟩
theorem Blk.c4 {W : World} {b : Nat} {t : TypeId} {u0 u1 u2 u3 : Value} (h : Blk W b t #[u0, u1, u2, u3]) : b < W.heap.size ∧ W.cell? ⟨b, 0, none⟩ = some u0 ∧ W.cell? ⟨b, 1, none⟩ = some u1 ∧ W.cell? ⟨b, 2, none⟩ = some u2 ∧ W.cell? ⟨b, 3, none⟩ = some u3 :=
 ⟨h.lt, h.cell 0, h.cell 1, h.cell 2, h.cell 3⟩
theorem Blk.c10 {W : World} {b : Nat} {t : TypeId} {u0 u1 u2 u3 u4 u5 u6 u7 u8 u9 : Value} (h : Blk W b t #[u0, u1, u2, u3, u4, u5, u6, u7, u8, u9]) : b < W.heap.size ∧ W.cell? ⟨b, 0, none⟩ = some u0 ∧ W.cell? ⟨b, 1, none⟩ = some u1 ∧ W.cell? ⟨b, 2, none⟩ = some u2 ∧ W.cell? ⟨b, 3, none⟩ = some u3 ∧ W.cell? ⟨b, 4, none⟩ = some u4 ∧ W.cell? ⟨b, 5, none⟩ = some u5 ∧ W.cell? ⟨b, 6, none⟩ = some u6 ∧ W.cell? ⟨b, 7, none⟩ = some u7 ∧ W.cell? ⟨b, 8, none⟩ = some u8 ∧ W.cell? ⟨b, 9, none⟩ = some u9 :=
 ⟨h.lt, h.cell 0, h.cell 1, h.cell 2, h.cell 3, h.cell 4, h.cell 5, h.cell 6, h.cell 7, h.cell 8, h.cell 9⟩
theorem Blk.c14 {W : World} {b : Nat} {t : TypeId} {u0 u1 u2 u3 u4 u5 u6 u7 u8 u9 u10 u11 u12 u13 : Value} (h : Blk W b t #[u0, u1, u2, u3, u4, u5, u6, u7, u8, u9, u10, u11, u12, u13]) : b < W.heap.size ∧ W.cell? ⟨b, 0, none⟩ = some u0 ∧ W.cell? ⟨b, 1, none⟩ = some u1 ∧ W.cell? ⟨b, 2, none⟩ = some u2 ∧ W.cell? ⟨b, 3, none⟩ = some u3 ∧ W.cell? ⟨b, 4, none⟩ = some u4 ∧ W.cell? ⟨b, 5, none⟩ = some u5 ∧ W.cell? ⟨b, 6, none⟩ = some u6 ∧ W.cell? ⟨b, 7, none⟩ = some u7 ∧ W.cell? ⟨b, 8, none⟩ = some u8 ∧ W.cell? ⟨b, 9, none⟩ = some u9 ∧ W.cell? ⟨b, 10, none⟩ = some u10 ∧ W.cell? ⟨b, 11, none⟩ = some u11 ∧ W.cell? ⟨b, 12, none⟩ = some u12 ∧ W.cell? ⟨b, 13, none⟩ = some u13 :=
 ⟨h.lt, h.cell 0, h.cell 1, h.cell 2, h.cell 3, h.cell 4, h.cell 5, h.cell 6, h.cell 7, h.cell 8, h.cell 9, h.cell 10, h.cell 11, h.cell 12, h.cell 13⟩
theorem box1 (w : World) (t0 : TypeId) (c0 : Array Value) : Bw w (w.alloc (.cells c0 t0)) ∧ ∀ W, Bw (w.alloc (.cells c0 t0)) W → Bw w W ∧ Blk W (w.heap.size) t0 c0 := ⟨((Bw.refl w).alloc _), fun W g => by
 have h0 := Blk.new w t0 c0
 have k0 := h0.below g.b h0.lt
 exact ⟨((Bw.refl w).alloc _).trans g, k0⟩⟩
theorem box2 (w : World) (t0 : TypeId) (c0 : Array Value) (t1 : TypeId) (c1 : Array Value) : Bw w ((w.alloc (.cells c0 t0)).alloc (.cells c1 t1)) ∧ ∀ W, Bw ((w.alloc (.cells c0 t0)).alloc (.cells c1 t1)) W → Bw w W ∧ Blk W (w.heap.size) t0 c0 ∧ Blk W (w.heap.size + 1) t1 c1 := ⟨(((Bw.refl w).alloc _).alloc _), fun W g => by
 have h0 := Blk.new w t0 c0
 have k0 := (h0.alloc (.cells c1 t1)).below g.b (h0.alloc (.cells c1 t1)).lt
 have h1 := Blk.new (w.alloc (.cells c0 t0)) t1 c1
 simp only [World.size_alloc] at h1
 have k1 := h1.below g.b h1.lt
 exact ⟨(((Bw.refl w).alloc _).alloc _).trans g, k0, k1⟩⟩
theorem r6Valid_of (t : T) (hof : rightP 8 t = true → OfSays t (oneP 8 t)) (v : V) (rv pv s : Value) (w : World) (hT : TB w w.heap.size rv pv t) (h : KB w w.heap.size s v.ks) (b : Bool) (hb : validP t v = b) :
   Calls Tryz.prog 42 #[.agg #[.int .i64 t.kind, .int .i64 t.size, rv, pv], .agg #[.int .i64 v.n, s]] w (BoolPost w b) := by
 subst hb
 obtain ⟨A, n, c, rfl, ln, bn, mn⟩ := h.form
 obtain ⟨A1, rn, c1, rfl, _, _⟩ := hT.1.form'
 obtain ⟨A2, pn, c2, rfl, _, _, _⟩ := hT.2.form
 have CK : Hid (∀ W, Bw w W → Calls Tryz.prog 73 #[.agg #[.int .i64 t.kind, .int .i64 t.size, .slice A1 rn c1, .slice A2 pn c2]] W (NumPost W (if rightP 8 t then 0 else 6))) := Lib.hid (fun W g => r6check_any t _ _ W (TAt.bw hT g) _ rfl)
 have SZ : Hid (∀ W, Bw w W → Calls Tryz.prog 74 #[.agg #[.int .i64 v.n, .slice A n c], .int .i64 128] W (NumPost W (cntI v 128))) := Lib.hid (fun W g => r6sz_any v _ W 128 (by omega) (by omega) (h.bw g))
 have ON : Hid (rightP 8 t = true → ∀ W, Bw w W → Calls Tryz.prog 75 #[.agg #[.int .i64 t.kind, .int .i64 t.size, .slice A1 rn c1, .slice A2 pn c2], .agg #[.int .i64 v.n, .slice A n c]] W (BoolPost W (oneP 8 t v))) := Lib.hid (fun hr W g => hof hr v _ _ _ W (TAt.bw hT g) (h.bw g))
 have TX := Lib.hid (tvb (w := w) (kd := t.kind) (z := t.size) (x := v.n) (r := .slice A1 rn c1) (p := .slice A2 pn c2) (s := .slice A n c))
 unfold validP
 clear h hT ln hof
 generalize hq : oneP 8 t v = q at *
 clear hq
 have hsz : decide (v.size ≤ 128) = decide (cntI v 128 ≤ 128) := by rw [Bool.eq_iff_iff]; unfold cntI; simp; omega
 rw [hsz]
 have hm1 : cntI v 128 ≤ 129 := by unfold cntI; omega
 generalize cntI v 128 = m at *
 clear hsz
 generalize v.n = x at *
 generalize t.kind = kd at *
 generalize t.size = z at *
 rcases hr : rightP 8 t with _ | _
 · rw [hr] at CK
   simp only [Bool.false_eq_true, if_false] at CK
   clear hr ON SZ
   go_enter Tryz.func42, Tryz.ntmps42
   go_wp2_with (go_at_call 73; go_must (refine (CK.out _ TX.out.1).mono ?_; rintro e w6 ⟨rfl, hg6⟩; (have HG6 := Lib.hid hg6); clear hg6))
   go_ret
   exact ⟨rfl, TX.out.1.trans HG6.out⟩
 · rw [hr] at CK ON
   simp only [if_true] at CK
   have ON2 := Lib.hid (ON.out rfl)
   clear hr ON
   by_cases h2 : m ≤ 128
   · have d2 : decide (m ≤ 128) = true := by simpa using h2
     have HF : Hid ((true && decide (m ≤ 128) && q) = q) := Lib.hid (by rw [d2]; rfl)
     go_enter Tryz.func42, Tryz.ntmps42
     go_wp2_with (first | (go_at_call 73; go_must (refine (CK.out _ TX.out.1).mono ?_; rintro e w6 ⟨rfl, hg6⟩; (have HG6 := Lib.hid hg6); (obtain ⟨y0, -, y1, y2, y3, y4, y5, y6⟩ := TX.out.2 _ hg6); clear hg6)) | (go_at_call 74; go_must (refine (SZ.out _ (TX.out.1.trans HG6.out)).mono ?_; rintro e w7 ⟨rfl, hg7⟩; (have HG7 := Lib.hid (HG6.out.trans hg7)); (obtain ⟨u0, -, u1, u2, u3, u4, u5, u6⟩ := TX.out.2 _ HG7.out); clear hg7)) | (go_at_call 75; go_must (refine (ON2.out _ (TX.out.1.trans HG7.out)).mono ?_; rintro e w8 ⟨rfl, hg8⟩; (have HG8 := Lib.hid hg8); clear hg8)))
     go_ret
     exact ⟨ret_bool (by first | rfl | exact HF.out.symm), TX.out.1.trans (HG7.out.trans HG8.out)⟩
   · have d2 : decide (m ≤ 128) = false := by simpa using h2
     have HF : Hid ((true && decide (m ≤ 128) && q) = false) := Lib.hid (by rw [d2]; rfl)
     go_enter Tryz.func42, Tryz.ntmps42
     go_wp2_with (first | (go_at_call 73; go_must (refine (CK.out _ TX.out.1).mono ?_; rintro e w6 ⟨rfl, hg6⟩; (have HG6 := Lib.hid hg6); (obtain ⟨y0, -, y1, y2, y3, y4, y5, y6⟩ := TX.out.2 _ hg6); clear hg6)) | (go_at_call 74; go_must (refine (SZ.out _ (TX.out.1.trans HG6.out)).mono ?_; rintro e w7 ⟨rfl, hg7⟩; (have HG7 := Lib.hid (HG6.out.trans hg7)); clear hg7)))
     go_ret
     exact ⟨ret_bool (by first | rfl | exact HF.out.symm), TX.out.1.trans HG7.out⟩
theorem typF_parts {n k : Nat} {p : T} (h : p ∈ (typF n k).parts) : p = labT n ∨ p = natT := by
 rw [typF, T.parts_mk] at h
 rcases List.mem_cons.1 h with h | h
 · exact .inl h
 · exact .inr (List.eq_of_mem_replicate h)
theorem r6of_flat (n k : Nat) : OfSays (typF n k) (oneP 8 (typF n k)) := by
 refine (r6of_k3 (typF n k) (oneP 7) rfl fun p hp => ?_).of_eq fun v => by
   rw [oneP.eq_2 (d := 7)]
   simp only [typF, T.kind_mk, T.parts_mk, show ¬ ((3 : Int) = 1) by decide, show ¬ ((3 : Int) = 2) by decide, if_false, if_true]
   rfl
 rcases typF_parts hp with rfl | rfl
 · exact (r6of_k2 (labT n) rfl).of_eq fun v => rfl
 · exact (r6of_k1 natT rfl).of_eq fun v => rfl
theorem r6ValidM (m : Mdl) (v : V) (rv pv s : Value) (w : World) (hT : TB w w.heap.size rv pv m.t) (h : KB w w.heap.size s v.ks) (b : Bool) (hb : validP m.t v = b) :
   Calls Tryz.prog 42 #[.agg #[.int .i64 m.t.kind, .int .i64 m.t.size, rv, pv], .agg #[.int .i64 v.n, s]] w (BoolPost w b) := r6Valid_of m.t (fun _ => r6of_flat _ _) v rv pv s w hT h b hb
def encO : Enc (Ori × Value × Value) := ⟨5, fun p => [.int .i64 p.1.v.n, p.2.1, .int .i64 p.1.r, .int .i64 p.1.nx.n, p.2.2], fun _ => rfl, fun p => [(p.2.1, p.1.v.ks), (p.2.2, p.1.nx.ks)]⟩
structure SAt (w : World) (S : Nat → Prop) (bv ov fv : Value) (s : Sk) : Prop where
 b : KAt w S bv s.ba
 o : ∃ ps, EAt encO w S ov ps ∧ ps.map (·.1) = s.og
 f : KAt w S fv s.fr
abbrev aggS (bv ov fv : Value) (us : Int) : Value := .agg #[bv, ov, fv, .int .i64 us]
section
variable {w w' A W : World} {B : Nat} {K : Option Nat} {bv ov fv v' : Value} {s : Sk}
end
end
section
open Go.RowKit Go.WideShapes Go.ChangeShapes Go.ChangeAt
theorem own : ownKnob Tryz.prog.godebug = none := by kernel_rfl

section
variable {H : Type} {enc : TypeId × Value → H} {P : Program}
end
end
end Go.Proofs.YthhbkabdhkdafaaGreat
