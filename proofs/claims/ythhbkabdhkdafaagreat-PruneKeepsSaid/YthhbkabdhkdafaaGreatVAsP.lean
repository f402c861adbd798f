/- Part of a proof of pruneKeeps_holds. -/
import Derived.Test.YthhbkabdhkdafaaGreatVAoP
import Derived.Test.YthhbkabdhkdafaaGreatVArP
import Derived.Deep.RegionWith
import Derived.IntWalk
import Derived.Deep.CutBlock
import Derived.Deep.Slices
import Derived.Deep.Fields
set_option linter.unusedSimpArgs false
set_option linter.unusedVariables false
set_option maxRecDepth 100000
set_option maxHeartbeats 16000000
namespace Go.Proofs.YthhbkabdhkdafaaGreat
section
open Go.RowKit
theorem gb_past {a b c : World} {r row : Option Nat} (h : a.grownBy b r) (k : b.grownBy c row) (hr : ∀ g, row = some g → a.heap.size ≤ g) : a.grownBy c r :=
 ⟨k.os.trans h.os, k.tape.trans h.tape, k.output.trans h.output, Nat.le_trans h.size k.size, fun i hi hn => (k.block i (Nat.lt_of_lt_of_le hi h.size) (fun e => by have := hr i e.symm; omega)).trans (h.block i hi hn)⟩
theorem gb_blk {A W : World} {b g : Nat} {t : TypeId} {cs : Array Value} (h : Blk A g t cs) (hg : A.grownBy W (some b)) (hne : g ≠ b) : Blk W g t cs := h.grown hg (fun e => by injection e with e; exact hne e)
theorem gb_bw {a b c : World} {r : Option Nat} (h : a.grownBy b r) (k : Bw b c) : a.grownBy c r := gb_past h (grownBy_of_below k.b none) (fun g e => by cases e)
theorem DiceOk.bw {w w' : World} {b : Nat} (h : DiceOk w b) (g : Bw w w') : DiceOk w' b := h.below g.b h.lt
def DIntsF (w : World) (b n : Nat) (most : Int) (e : Ending) (w' : World) : Prop := ∃ (xs : List Int) (A : Option Addr) (c : Nat), e = .returned (.slice A n c) ∧ xs.length = n ∧ (∀ x ∈ xs, 0 ≤ x ∧ x ≤ most) ∧ w'.ownsRow w.heap.size 3 1 (.slice A n c) n (intVs xs) ∧ DiceOk w' b ∧ w.grownBy w' (some b)
theorem intVs_snoc (xs : List Int) (x : Int) : intVs (xs ++ [x]) = intVs xs ++ [.int .i64 x] := by simp [intVs]
theorem pints_any (w : World) (b : Nat) (hd : DiceOk w b) (n : Nat) (hn : n ≤ 1000) (most : Int) (h0 : 0 ≤ most) (h9 : most ≤ 1000) : Calls Tryz.prog 31 #[.pointer (some ⟨b, 0, none⟩), .int .i64 (n : Int), .int .i64 most] w (DIntsF w b n most) := by
 have hbl := hd.lt
 have PK : Hid (∀ W, DiceOk W b → Calls Tryz.prog 10 #[.pointer (some ⟨b, 0, none⟩), .int .i64 (most + 1)] W (PickPost W b (most + 1))) := Lib.hid (fun W h => ppick_any W b h (most + 1) (by omega) (by omega))
 obtain ⟨i0, hi, hz0, hz1, hz2⟩ := info_parts infoInt
 have HD := Lib.hid hd
 clear hd
 go_enter Tryz.func31, Tryz.ntmps31
 go_wp2
 go_loopw [7, 8] (fun s i wr => ∃ (k : Nat) (A : Option Addr) (c : Nat), k ≤ n ∧ i = .int .i64 k ∧ s = .slice A k c ∧ Hid (∃ xs : List Int, xs.length = k ∧ (∀ x ∈ xs, 0 ≤ x ∧ x ≤ most) ∧ wr.ownsRow w.heap.size 3 1 (.slice A k c) k (intVs xs) ∧ DiceOk wr b ∧ w.grownBy wr (some b))) (fun _ i _ => n - (intOf i).toNat)
 case atStart => exact ⟨0, none, 0, by omega, rfl, rfl, Lib.hid ⟨[], rfl, by simp, World.ownsRow_nil _ _ _ _, HD.out, World.grownBy.refl _ _⟩⟩
 case round =>
   clear HD
   obtain ⟨wo, hwo⟩ : ∃ wo, wo = wr := ⟨_, rfl⟩
   subst hwo
   obtain ⟨k, A, c, hk, rfl, rfl, HR⟩ := hrel
   obtain ⟨xs, hxl, hxb, ho, hdi, hg⟩ := HR.out
   by_cases hlt : k < n
   · have CP := Lib.hid (PK.out wo hdi)
     have HX := Lib.hid (And.intro hxl (And.intro hxb (And.intro ho hg)))
     have hsz := hg.size
     clear hxl hxb ho hdi hg HR
     go_wp2_with (first
       | (go_at_call 10; go_must (refine CP.out.mono ?_; rintro e w1 ⟨r, rfl, hr, hd1, hg1⟩; (have HD1 := Lib.hid hd1); (have HG1 := Lib.hid hg1); (have z1 : wo.heap.size ≤ w1.heap.size := hg1.size); (have HO1 := Lib.hid (own_put HX.out.2.2.1 hg1 hbl)); clear hd1 hg1))
       | (at_builtin; go_must (refine wpList_append_any _ rfl _ _ 27 rfl w.heap.size 3 i0 _ 1 8 Tryz.underlying27 hi hz0 hz1 hz2 rfl (by decide) (.slice A k c) k (intVs xs) rfl (HO1.out.alloc _) (w1.heap.size + 1) (some ⟨w1.heap.size, 0, none⟩) 1 1 [.int .i64 (r : Int)] rfl (reads_new1 w1 r) (by simp [Value.oneCell']) (by unfold maxLen; omega) (by omega) (by simp; omega) ?_; intro v7 w7 hown7 hgr7 hl7; obtain ⟨A7, c7, rfl⟩ := own_form hown7; (have HO7 := Lib.hid hown7); (have HG7 := Lib.hid hgr7); clear hown7 hgr7 hl7)))
     go_roundw
     case rel =>
       obtain ⟨x1, x2, x3, x4⟩ := HX.out
       have hrow : ∀ r, (Value.slice A k c).ownBlock = some r → w.heap.size ≤ r := fun r e => (HO1.out.lt r e).1
       refine ⟨k + 1, A7, c7, by omega, by go_num, rfl, Lib.hid ⟨xs ++ [(r : Int)], by simp [x1], fun x hx => ?_, ?_, ?_, ?_⟩⟩
       · rcases List.mem_append.1 hx with hx | hx
         · exact x2 x hx
         · rw [List.mem_singleton.1 hx]; omega
       · rw [intVs_snoc]; exact HO7.out
       · exact (HD1.out.bw ((Bw.refl _).alloc _)).grown HG7.out (fun r e => by have := hrow r e; omega)
       · exact gb_past (grownBy_alloc (grownBy_trans x4 HG1.out) _) HG7.out hrow
     case measure => simp [intOf]; omega
   · obtain rfl : k = n := by omega
     have HX := Lib.hid HR.out
     clear hxl hxb ho hdi hg HR
     go_wp2
     go_ret
     obtain ⟨xs, x1, x2, x3, x4, x5⟩ := HX.out
     exact ⟨xs, A, c, rfl, x1, x2, x3, x4, x5⟩
theorem VRow.fresh {w : World} {e L B b0 : Nat} {v : Value} {l : List V} {ss : List Value} (h : VRow w e L B v l ss) (h1 : b0 ≤ L) (h2 : b0 ≤ B) : KAt w (fun b => b0 ≤ b ∧ b < w.heap.size) v l :=
 (own_KAt h.own rfl h.len h.kid).keep (fun b hb => by
   rcases hb with hb | hb
   · exact ⟨by omega, hb.2.1⟩
   · have := h.own.lt b hb; exact ⟨by omega, this.2⟩) (fun _ _ => rfl)
end
section
variable {m : Mdl}
theorem cfgV_size (s : Int) (cs : List Int) : (cfgV s cs).size = 2 + cs.length := by
 have : ∀ l : List Int, sizeL (l.map fun c => V.mk c []) = l.length := by
   intro l
   induction l with
   | nil => rfl
   | cons x r ih => simp [sizeL, V.size, ih]; omega
 simp [cfgV, V.size, sizeL, this]; omega
theorem cfg_parts {v : V} (h : oneP 8 m.t v = true) : ∃ s cs, v = cfgV s cs ∧ 0 ≤ s ∧ s < m.ss.length ∧ cs.length = m.ps.length ∧ ∀ c ∈ cs, 0 ≤ c ∧ c ≤ 1048576 := one_flat.1 h
theorem validM (h : MdlOk m) {v : V} (hv : oneP 8 m.t v = true) : validP m.t v = true := by
 unfold validP
 obtain ⟨s, cs, rfl, _, _, hl, _⟩ := cfg_parts hv
 have := h.k1.2
 rw [h.right, hv, decide_eq_true (by rw [cfgV_size]; omega)]
 rfl
theorem one_size (h : MdlOk m) {v : V} (hv : oneP 8 m.t v = true) : v.size ≤ 8 := by
 obtain ⟨s, cs, rfl, _, _, hl, _⟩ := cfg_parts hv
 have := h.k1.2
 rw [cfgV_size]; omega
theorem limB_len {l : List V} (h : (limB l).2 = 0) : l.length ≤ 256 ∧ limB l = (l, 0) := by
 unfold limB at h ⊢
 split at h
 · cases h
 · rename_i h1; exact ⟨by omega, by rw [if_neg h1]⟩
end
def kw19 : List (List UInt8) := [[109, 111, 100, 101, 108], [115, 116, 97, 116, 101, 115], [112, 108, 97, 99, 101, 115], [108, 101, 116, 116, 101, 114, 115], [108, 101, 118, 101, 108, 115], [97, 103, 101], [114, 117, 108, 101], [110, 101, 101, 100], [103, 105, 118, 101], [109, 111, 118, 101], [101, 109, 112, 116, 121], [115, 101, 110, 100], [114, 101, 99, 101, 105, 118, 101], [112, 97, 116, 104], [110, 101, 120, 116], [116, 97, 107, 101], [109, 97, 107, 101], [115, 116, 97, 114, 116]]
def kwB (s : List UInt8) : Bool := kw19.any (fun z => z == s)
def namesM (m : Mdl) : List ByteArray := m.ss ++ m.ps ++ m.rs.map Rul.nm
structure NmOk (m : Mdl) : Prop where
 ok : ∀ s ∈ namesM m, wordL s.data.toList = true ∧ kwB s.data.toList = false ∧ s.size ≤ 100
 nd : ((namesM m).map fun s => s.data.toList).Nodup
 len : m.rs.length ≤ 12
def nmS : List ByteArray := [⟨#[97]⟩, ⟨#[98]⟩]
def nmP : List ByteArray := [⟨#[120]⟩, ⟨#[121]⟩]
def nmR : List ByteArray := [⟨#[114]⟩, ⟨#[115]⟩, ⟨#[116]⟩]
structure CtR (n k : Nat) (r : Rul) : Prop where
 fr : 0 ≤ r.fr ∧ r.fr < n
 tz : 0 ≤ r.tz ∧ r.tz < n
 nl : r.need.length = k
 gl : r.give.length = k
 n2 : ∀ x ∈ r.need, 0 ≤ x ∧ x ≤ 2
 g2 : ∀ x ∈ r.give, 0 ≤ x ∧ x ≤ 2
structure CtOk (m : Mdl) : Prop where
 ss : ∃ k, k < 2 ∧ m.ss = nmS.take (k + 1)
 ps : ∃ k, k < 2 ∧ m.ps = nmP.take (k + 1)
 rn : m.rs.map Rul.nm = nmR.take m.rs.length
 r1 : 1 ≤ m.rs.length ∧ m.rs.length ≤ 3
 ru : ∀ r ∈ m.rs, CtR m.ss.length m.ps.length r
 st : m.st = 0
 cl : m.cs.length = m.ps.length
 c3 : ∀ x ∈ m.cs, 0 ≤ x ∧ x ≤ 3
section
variable {m : Mdl}
theorem bd_getD {l : List Int} {a b : Int} (h : ∀ x ∈ l, a ≤ x ∧ x ≤ b) {j : Nat} (hj : j < l.length) : a ≤ l.getD j 0 ∧ l.getD j 0 ≤ b := by
 have := h _ (List.getElem_mem hj)
 rwa [show l.getD j 0 = l[j] by simp [List.getD, hj]]
theorem CtOk.sl (h : CtOk m) : 1 ≤ m.ss.length ∧ m.ss.length ≤ 2 := by
 obtain ⟨k, hk, e⟩ := h.ss
 rw [e]; simp [nmS]; omega
theorem CtOk.pl (h : CtOk m) : 1 ≤ m.ps.length ∧ m.ps.length ≤ 2 := by
 obtain ⟨k, hk, e⟩ := h.ps
 rw [e]; simp [nmP]; omega
theorem CtR.ok {n k : Nat} {r : Rul} (h : CtR n k r) : RulOk n k r := ⟨h.fr, h.tz, h.nl, h.gl, fun j hj => by
 have := bd_getD h.n2 (j := j) (by rw [h.nl]; exact hj); omega, fun j hj => by
 have := bd_getD h.g2 (j := j) (by rw [h.gl]; exact hj); omega⟩
theorem CtOk.ok (h : CtOk m) : MdlOk m := by
 have h1 := h.sl
 have h2 := h.pl
 refine ⟨by omega, by omega, fun r hr => (h.ru r hr).ok, ?_⟩
 refine one_flat.2 ⟨m.st, m.cs, rfl, by rw [h.st]; omega, by rw [h.st]; omega, h.cl, fun c hc => ?_⟩
 have := h.c3 c hc
 omega
theorem CtOk.nm (h : CtOk m) : NmOk m := by
 obtain ⟨k1, hk1, e1⟩ := h.ss
 obtain ⟨k2, hk2, e2⟩ := h.ps
 have h3 := h.r1
 have e : namesM m = nmS.take (k1 + 1) ++ nmP.take (k2 + 1) ++ nmR.take m.rs.length := by rw [namesM, e1, e2, h.rn]
 have hx : ∀ a b c : Nat, a < 2 → b < 2 → 1 ≤ c ∧ c ≤ 3 → (∀ s ∈ nmS.take (a + 1) ++ nmP.take (b + 1) ++ nmR.take c, wordL s.data.toList = true ∧ kwB s.data.toList = false ∧ s.size ≤ 100) ∧ ((nmS.take (a + 1) ++ nmP.take (b + 1) ++ nmR.take c).map fun s => s.data.toList).Nodup := by
   intro a b c ha hb hc
   have ha : a = 0 ∨ a = 1 := by omega
   have hb : b = 0 ∨ b = 1 := by omega
   have hc : c = 1 ∨ c = 2 ∨ c = 3 := by omega
   rcases ha with rfl | rfl <;> rcases hb with rfl | rfl <;> rcases hc with rfl | rfl | rfl <;> decide
 obtain ⟨a, b⟩ := hx k1 k2 _ hk1 hk2 h3
 exact ⟨by rw [e]; exact a, by rw [e]; exact b, by omega⟩
end
section
open Go.RowKit
theorem Blk.c2 {W : World} {b : Nat} {t : TypeId} {u0 u1 : Value} (h : Blk W b t #[u0, u1]) : b < W.heap.size ∧ W.cell? ⟨b, 0, none⟩ = some u0 ∧ W.cell? ⟨b, 1, none⟩ = some u1 :=
 ⟨h.lt, h.cell 0, h.cell 1⟩
theorem Blk.c3 {W : World} {b : Nat} {t : TypeId} {u0 u1 u2 : Value} (h : Blk W b t #[u0, u1, u2]) : b < W.heap.size ∧ W.cell? ⟨b, 0, none⟩ = some u0 ∧ W.cell? ⟨b, 1, none⟩ = some u1 ∧ W.cell? ⟨b, 2, none⟩ = some u2 :=
 ⟨h.lt, h.cell 0, h.cell 1, h.cell 2⟩
theorem Blk.c4 {W : World} {b : Nat} {t : TypeId} {u0 u1 u2 u3 : Value} (h : Blk W b t #[u0, u1, u2, u3]) : b < W.heap.size ∧ W.cell? ⟨b, 0, none⟩ = some u0 ∧ W.cell? ⟨b, 1, none⟩ = some u1 ∧ W.cell? ⟨b, 2, none⟩ = some u2 ∧ W.cell? ⟨b, 3, none⟩ = some u3 :=
 ⟨h.lt, h.cell 0, h.cell 1, h.cell 2, h.cell 3⟩
theorem Blk.c10 {W : World} {b : Nat} {t : TypeId} {u0 u1 u2 u3 u4 u5 u6 u7 u8 u9 : Value} (h : Blk W b t #[u0, u1, u2, u3, u4, u5, u6, u7, u8, u9]) : b < W.heap.size ∧ W.cell? ⟨b, 0, none⟩ = some u0 ∧ W.cell? ⟨b, 1, none⟩ = some u1 ∧ W.cell? ⟨b, 2, none⟩ = some u2 ∧ W.cell? ⟨b, 3, none⟩ = some u3 ∧ W.cell? ⟨b, 4, none⟩ = some u4 ∧ W.cell? ⟨b, 5, none⟩ = some u5 ∧ W.cell? ⟨b, 6, none⟩ = some u6 ∧ W.cell? ⟨b, 7, none⟩ = some u7 ∧ W.cell? ⟨b, 8, none⟩ = some u8 ∧ W.cell? ⟨b, 9, none⟩ = some u9 :=
 ⟨h.lt, h.cell 0, h.cell 1, h.cell 2, h.cell 3, h.cell 4, h.cell 5, h.cell 6, h.cell 7, h.cell 8, h.cell 9⟩
theorem Blk.c14 {W : World} {b : Nat} {t : TypeId} {u0 u1 u2 u3 u4 u5 u6 u7 u8 u9 u10 u11 u12 u13 : Value} (h : Blk W b t #[u0, u1, u2, u3, u4, u5, u6, u7, u8, u9, u10, u11, u12, u13]) : b < W.heap.size ∧ W.cell? ⟨b, 0, none⟩ = some u0 ∧ W.cell? ⟨b, 1, none⟩ = some u1 ∧ W.cell? ⟨b, 2, none⟩ = some u2 ∧ W.cell? ⟨b, 3, none⟩ = some u3 ∧ W.cell? ⟨b, 4, none⟩ = some u4 ∧ W.cell? ⟨b, 5, none⟩ = some u5 ∧ W.cell? ⟨b, 6, none⟩ = some u6 ∧ W.cell? ⟨b, 7, none⟩ = some u7 ∧ W.cell? ⟨b, 8, none⟩ = some u8 ∧ W.cell? ⟨b, 9, none⟩ = some u9 ∧ W.cell? ⟨b, 10, none⟩ = some u10 ∧ W.cell? ⟨b, 11, none⟩ = some u11 ∧ W.cell? ⟨b, 12, none⟩ = some u12 ∧ W.cell? ⟨b, 13, none⟩ = some u13 :=
 ⟨h.lt, h.cell 0, h.cell 1, h.cell 2, h.cell 3, h.cell 4, h.cell 5, h.cell 6, h.cell 7, h.cell 8, h.cell 9, h.cell 10, h.cell 11, h.cell 12, h.cell 13⟩
theorem box1 (w : World) (t0 : TypeId) (c0 : Array Value) : Bw w (w.alloc (.cells c0 t0)) ∧ ∀ W, Bw (w.alloc (.cells c0 t0)) W → Bw w W ∧ Blk W (w.heap.size) t0 c0 := ⟨((Bw.refl w).alloc _), fun W g => by
 have h0 := Blk.new w t0 c0
 have k0 := h0.below g.b h0.lt
 exact ⟨((Bw.refl w).alloc _).trans g, k0⟩⟩
theorem box2 (w : World) (t0 : TypeId) (c0 : Array Value) (t1 : TypeId) (c1 : Array Value) : Bw w ((w.alloc (.cells c0 t0)).alloc (.cells c1 t1)) ∧ ∀ W, Bw ((w.alloc (.cells c0 t0)).alloc (.cells c1 t1)) W → Bw w W ∧ Blk W (w.heap.size) t0 c0 ∧ Blk W (w.heap.size + 1) t1 c1 := ⟨(((Bw.refl w).alloc _).alloc _), fun W g => by
 have h0 := Blk.new w t0 c0
 have k0 := (h0.alloc (.cells c1 t1)).below g.b (h0.alloc (.cells c1 t1)).lt
 have h1 := Blk.new (w.alloc (.cells c0 t0)) t1 c1
 simp only [World.size_alloc] at h1
 have k1 := h1.below g.b h1.lt
 exact ⟨(((Bw.refl w).alloc _).alloc _).trans g, k0, k1⟩⟩
theorem box3 (w : World) (t0 : TypeId) (c0 : Array Value) (t1 : TypeId) (c1 : Array Value) (t2 : TypeId) (c2 : Array Value) : Bw w (((w.alloc (.cells c0 t0)).alloc (.cells c1 t1)).alloc (.cells c2 t2)) ∧ ∀ W, Bw (((w.alloc (.cells c0 t0)).alloc (.cells c1 t1)).alloc (.cells c2 t2)) W → Bw w W ∧ Blk W (w.heap.size) t0 c0 ∧ Blk W (w.heap.size + 1) t1 c1 ∧ Blk W (w.heap.size + 1 + 1) t2 c2 := ⟨((((Bw.refl w).alloc _).alloc _).alloc _), fun W g => by
 have h0 := Blk.new w t0 c0
 have k0 := ((h0.alloc (.cells c1 t1)).alloc (.cells c2 t2)).below g.b ((h0.alloc (.cells c1 t1)).alloc (.cells c2 t2)).lt
 have h1 := Blk.new (w.alloc (.cells c0 t0)) t1 c1
 simp only [World.size_alloc] at h1
 have k1 := (h1.alloc (.cells c2 t2)).below g.b (h1.alloc (.cells c2 t2)).lt
 have h2 := Blk.new ((w.alloc (.cells c0 t0)).alloc (.cells c1 t1)) t2 c2
 simp only [World.size_alloc] at h2
 have k2 := h2.below g.b h2.lt
 exact ⟨((((Bw.refl w).alloc _).alloc _).alloc _).trans g, k0, k1, k2⟩⟩
theorem infoStr : (Tryz.prog.info? 9).map (fun i => (i.zero, i.size, i.bytes)) = some (some (.string ⟨#[]⟩), 1, 16) := by kernel_rfl
def strVs (l : List ByteArray) : List Value := l.map Value.string
theorem strVs_append (a b : List ByteArray) : strVs a ++ strVs b = strVs (a ++ b) := by simp [strVs]
def StrsF (w : World) (l : List ByteArray) (e : Ending) (w' : World) : Prop := ∃ s, e = .returned s ∧ w'.ownsRow w.heap.size 9 1 s l.length (strVs l) ∧ Bw w w'
theorem own_StrB {w : World} {base : Nat} {e : TypeId} {v : Value} {l : List ByteArray} {n : Nat} (h : w.ownsRow base e 1 v n (strVs l)) (hn : l.length = n) : StrAt w (fun b => base ≤ b ∧ b < w.heap.size) v l := by
 subst hn
 obtain ⟨A, c, rfl, h1, h2⟩ := own_bounds h
 refine ⟨A, _, c, rfl, rfl, h1, h2, fun hn => ?_⟩
 obtain ⟨g, rfl, h3, h4, h5, h6⟩ := own_at h hn
 exact ⟨_, rfl, ⟨h4, h5⟩, fun k hk => h6 k _ (by simp [strVs, hk])⟩
theorem growS_any (n : Nat) (hn : n ≤ 1000000) (w : World) : Calls Tryz.prog 221 #[.slice none 0 0, .int .i64 n] w (fun e w' => ∃ s, e = .returned s ∧ w'.ownsRow w.heap.size 9 1 s 0 [] ∧ Bw w w') := by
 by_cases h0 : n = 0
 · subst h0
   go_enter Tryz.func221, Tryz.ntmps221
   go_wp2
   go_ret
   exact ⟨_, rfl, World.ownsRow_nil _ _ _ _, Bw.refl _⟩
 · obtain ⟨i0, hi, hz0, hz1, hz2⟩ := info_parts infoStr
   have hrz : ∀ ty, (Builtin.append_ #[26, 3] ty #[.slice none 0 0, .int .i64 (n : Int)]).run Tryz.prog w = _ := fun ty =>
     Lib.run_append_grow_zeros w 26 3 ty 9 i0 _ .i64 .i64 Tryz.underlying26 Tryz.underlying3 hi hz0 none 0 0 [] (run_firstCells_none w.drew i0.size 0 0 0) n (by omega) (by omega) (by omega) (by omega) (by rw [hz2]; omega) (growslice_fits (by omega) (by rw [hz2]; omega))
   have hGn : 0 + n ≤ grownCap w (0 + n) 0 9 := grownCap_ge w _ _ _
   have hG63 : grownCap w (0 + n) 0 9 ≤ maxLen := grownCap_le_maxLen w (0 + n) 0 9 (by unfold maxLen; omega)
   generalize grownCap w (0 + n) 0 9 = G at *
   have hsz : ((#[] : Array Value) ++ Builtin.zeroCells (Value.string ⟨#[]⟩).cells n ++ Builtin.zeroCells (Value.string ⟨#[]⟩).cells (G - n)).size = G := by
     simp [size_zeroCells, Value.cells]; omega
   simp only [Nat.zero_add] at hrz
   have HSZ := Lib.hid hsz
   clear hsz
   have hG := hG63
   unfold maxLen at hG63
   have hn0 : 0 < n := by omega
   go_enter Tryz.func221, Tryz.ntmps221
   go_wp2_with (at_builtin; refine Lib.wpList_append_run _ rfl _ _ _ _ rfl _ _ rfl rfl _ _ (hrz _) ?_)
   go_ret
   refine ⟨_, rfl, ⟨by simp, .inr ⟨w.heap.size, G, _, rfl, Nat.le_refl _, heap_alloc_new w.drew _, Nat.zero_le _, hG, by have := HSZ.out; simpa [Value.cells] using this, by simp⟩⟩, (Bw.refl _).drew.alloc _⟩
def SSAt (w : World) (S : Nat → Prop) (v : Value) (ls : List (List ByteArray)) : Prop := ∃ (A : Option Addr) (n c : Nat) (ss : List Value), v = .slice A n c ∧ ls.length = n ∧ ss.length = n ∧ n ≤ c ∧ c ≤ maxLen ∧ (0 < n → ∃ ad, A = some ad ∧ S ad.block ∧ ∀ k (h : k < ss.length), w.cell? (ad.add k) = some ss[k]) ∧
 ∀ k (h : k < ls.length) (h' : k < ss.length), StrAt w S ss[k] ls[k]
theorem SSAt.form {w : World} {S : Nat → Prop} {v : Value} {ls : List (List ByteArray)} (h : SSAt w S v ls) : ∃ A n c, v = .slice A n c ∧ ls.length = n ∧ n ≤ c ∧ c ≤ maxLen := by
 obtain ⟨A, n, c, ss, e, h1, _, h3, h4, _⟩ := h
 exact ⟨A, n, c, e, h1, h3, h4⟩
theorem SSAt.at_ {w : World} {S : Nat → Prop} {A : Option Addr} {n c : Nat} {ls : List (List ByteArray)} (h : SSAt w S (.slice A n c) ls) {k : Nat} (hk : k < ls.length) : ∃ ad sA sn sc, A = some ad ∧ S ad.block ∧ w.cell? (ad.add k) = some (.slice sA sn sc) ∧ ls[k].length = sn ∧ StrAt w S (.slice sA sn sc) ls[k] := by
 obtain ⟨A', n', c', ss, e, h1, h2, h3, h4, h5, h6⟩ := h
 injection e with e1 e2 e3
 subst e1 e2 e3
 obtain ⟨ad, rfl, hb, hc⟩ := h5 (by omega)
 have hi := h6 k hk (by omega)
 obtain ⟨sA, sn, sc, e, hl, _⟩ := hi.form
 refine ⟨ad, sA, sn, sc, rfl, hb, ?_, hl, ?_⟩
 · rw [hc k (by omega), e]
 · rw [← e]; exact hi
theorem flatS_take {ls : List (List ByteArray)} {k : Nat} (h : k < ls.length) : (ls.take (k + 1)).flatten = (ls.take k).flatten ++ ls[k] := by
 rw [List.take_succ_eq_append_getElem h, List.flatten_append]; simp
theorem flatS_le (ls : List (List ByteArray)) (k : Nat) : (ls.take k).flatten.length ≤ ls.flatten.length := by
 have := congrArg List.flatten (List.take_append_drop k ls)
 rw [List.flatten_append] at this
 rw [← this]; simp
theorem concatS_any (ls : List (List ByteArray)) (hn : ls.flatten.length ≤ 1000000) (s : Value) (w : World) (h : SSAt w (· < w.heap.size) s ls) : Calls Tryz.prog 154 #[s] w (StrsF w ls.flatten) := by
 obtain ⟨A, n, c, rfl, ln, bn, mn⟩ := h.form
 unfold maxLen at mn
 have H := Lib.hid h
 have LN := Lib.hid ln
 have HN := Lib.hid hn
 unfold StrsF
 clear h ln hn
 obtain ⟨i0, hi, hz0, hz1, hz2⟩ := info_parts infoStr
 go_enter Tryz.func154, Tryz.ntmps154
 go_wp2_with fail
 go_loopw [3, 5, 11] (fun s3 _ i wr => ∃ k m : Nat, k ≤ n ∧ i = .int .i64 k ∧ s3 = .int .i64 m ∧ m ≤ 1000000 ∧ Hid (m = (ls.take k).flatten.length ∧ w = wr)) (fun _ _ i _ => n - (intOf i).toNat)
 case atStart => exact ⟨0, 0, by omega, rfl, rfl, by omega, Lib.hid ⟨by simp, rfl⟩⟩
 case round =>
   obtain ⟨k, m, hk, rfl, rfl, hm, HR⟩ := hrel
   obtain ⟨hm2, rfl⟩ := HR.out
   have HM := Lib.hid hm2
   clear hm2 HR
   by_cases hlt : k < n
   · have e1 : k < ls.length := by rw [LN.out]; exact hlt
     obtain ⟨ad, sA, sn, sc, rfl, hb, q0, sl, hs⟩ := H.out.at_ e1
     have hms : m + sn ≤ 1000000 := by
       have h1 := flatS_le ls (k + 1)
       rw [flatS_take e1, List.length_append, ← HM.out, sl] at h1
       have := HN.out; omega
     have HM2 : Hid (m + sn = (ls.take (k + 1)).flatten.length) := Lib.hid (by rw [flatS_take e1, List.length_append, ← HM.out, sl])
     have h00 : ¬ ((m : Int) + (sn : Int) < 0) := by omega
     clear hs sl hb
     go_wp2
     go_roundw
     case rel => exact ⟨k + 1, m + sn, by omega, by go_num, by go_num, hms, Lib.hid ⟨HM2.out, trivial⟩⟩
     case measure => simp [intOf]; omega
   · obtain rfl : n = k := by omega
     have CG := Lib.hid (growS_any m hm w)
     go_wp2_with (go_at_call 221; go_must (refine CG.out.mono ?_; rintro e w6 ⟨s6, rfl, hr6, hg6⟩; obtain ⟨A6, c6, rfl, -, -⟩ := own_bounds hr6; (have HR6 := Lib.hid hr6); (have HG6 := Lib.hid hg6); clear hr6 hg6))
     have HB6 : Hid (w.heap.size ≤ w6.heap.size) := Lib.hid HG6.out.size
     go_loopw [6, 8, 27] (fun s6 _ i wr => ∃ k : Nat, k ≤ n ∧ i = .int .i64 k ∧ Hid (wr.ownsRow w.heap.size 9 1 s6 (ls.take k).flatten.length (strVs (ls.take k).flatten) ∧ Bw w wr)) (fun _ _ i _ => n - (intOf i).toNat)
     case atStart => exact ⟨0, by omega, rfl, Lib.hid ⟨by simpa [strVs] using HR6.out, HG6.out⟩⟩
     case round =>
       obtain ⟨k, hk, rfl, HR⟩ := hrel
       obtain ⟨hq, hg⟩ := HR.out
       obtain ⟨VA, vc, rfl, vb1, vb2⟩ := own_bounds hq
       have HQ := Lib.hid hq
       have HG := Lib.hid hg
       by_cases hlt : k < n
       · have e1 : k < ls.length := by rw [LN.out]; exact hlt
         obtain ⟨ad, sA, sn, sc, rfl, hb, q0, sl, hs⟩ := H.out.at_ e1
         have q1 := (hg.b.cell (p := ad.add k) (by rw [add_block]; exact hb)).trans q0
         have hql : (ls.take k).flatten.length + sn ≤ 1000000 := by
           have h1 := flatS_le ls (k + 1)
           rw [flatS_take e1, List.length_append, sl] at h1
           have := HN.out; omega
         have HPS : Hid ((ls.take (k + 1)).flatten = (ls.take k).flatten ++ ls[k]) := Lib.hid (flatS_take e1)
         have HSL := Lib.hid sl
         have HRD := Lib.hid (StrAt.reads (StrAt.bw hs hg))
         have hsz := hg.size
         clear hs sl hb q0 hq hg HR
         generalize hfl : (ls.take k).flatten = fl at *
         clear hfl
         go_wp2_with (at_builtin; go_must (refine wpList_append_any _ rfl _ _ 26 rfl w.heap.size 9 i0 _ 1 16 Tryz.underlying26 hi hz0 hz1 hz2 rfl (by decide) (.slice VA fl.length vc) fl.length (strVs fl) rfl HQ.out wr.heap.size sA sn sc (strVs ls[k]) rfl HRD.out (by intro u hu; obtain ⟨x, -, rfl⟩ := List.mem_map.1 hu; rfl) (by unfold maxLen; omega) (by omega) (by omega) ?_; intro v7 w7 hown7 hgr7 hl7; obtain ⟨A7, c7, rfl, -, -⟩ := own_bounds hown7; (have HO7 := Lib.hid hown7); (have HG7 := Lib.hid hgr7); clear hown7 hgr7 hl7))
         go_roundw
         case rel =>
           refine ⟨k + 1, by omega, by go_num, Lib.hid ⟨?_, Below.grown HG.out HG7.out HG.out.size (fun r e => (HQ.out.lt r e).1)⟩⟩
           rw [HPS.out, List.length_append, HSL.out, ← strVs_append]; exact HO7.out
         case measure => simp [intOf]; omega
       · obtain rfl : k = n := by omega
         have HF : Hid ((ls.take k).flatten = ls.flatten) := Lib.hid (by rw [List.take_of_length_le (by rw [LN.out]; omega)])
         clear hq hg HR
         go_wp2
         go_ret
         refine ⟨_, rfl, ?_, HG.out⟩
         rw [← HF.out]
         exact HQ.out
def IsAt (w : World) (B : Nat) (A : Option Addr) (cs : List Int) : Prop := Reads w B 1 A cs.length (intVs cs)
theorem intVs_get {cs : List Int} {i : Nat} (hi : i < cs.length) : (intVs cs)[i]? = some (.int .i64 (cs.getD i 0)) := by
 simp [intVs, List.getD, hi]
theorem add_none (b off j : Nat) : (⟨b, off, none⟩ : Addr).add j = ⟨b, off + j, none⟩ := by
 unfold Addr.add
 by_cases h : j = 0 <;> simp [h]
theorem IsAt.form {w : World} {B : Nat} {A : Option Addr} {cs : List Int} (h : IsAt w B A cs) (h0 : 0 < cs.length) : ∃ b off, A = some ⟨b, off, none⟩ ∧ b < B ∧ ∀ j, j < cs.length → w.cell? ⟨b, off + j, none⟩ = some (.int .i64 (cs.getD j 0)) := by
 obtain ⟨ad, e, hb, hc⟩ := h.2 h0
 obtain ⟨b, off, spot⟩ := ad
 have hs : spot = none := by
   have h1 := hc 0 _ (intVs_get h0)
   rw [show (⟨b, off, spot⟩ : Addr).add 0 = ⟨b, off, spot⟩ from by simp [Addr.add]] at h1
   cases spot with
   | none => rfl
   | some s =>
     exfalso
     simp only [World.cell?, Option.isSome_some, if_true] at h1
     split at h1 <;> cases h1
 subst hs
 refine ⟨b, off, e, hb, fun j hj => ?_⟩
 have h1 := hc j _ (intVs_get hj)
 rwa [add_none] at h1
def ClonePost (w : World) (cs : List Int) (n : Nat) (e : Ending) (w' : World) : Prop := ∃ g cap, e = .returned (.slice (some ⟨g, 0, none⟩) n cap) ∧ w'.ownsRow w.heap.size 3 1 (.slice (some ⟨g, 0, none⟩) n cap) n (intVs cs) ∧ Below w.heap.size w w'
theorem clone_any (A : Option Addr) (n c : Nat) (cs : List Int) (w : World) (h : IsAt w w.heap.size A cs) (hn : cs.length = n) (h0 : 0 < n) (h9 : n ≤ 1000) : Calls Tryz.prog 29 #[.slice A n c] w (ClonePost w cs n) := by
 obtain ⟨b, off, rfl, hb, hc⟩ := h.form (by omega)
 refine (Tryz.slices_Clone_int b off n c cs w (by omega) (by omega) hc).mono fun e w' h => ?_
 obtain ⟨v', he, hown, _, hbw⟩ := h
 rw [List.take_of_length_le (by omega)] at hown
 obtain ⟨g, cap, rfl, _, _⟩ := hown.form h0
 exact ⟨g, cap, he, hown, hbw⟩
structure MtI (w wr : World) (L tg : Nat) (vs : List Value) (tl : List (List Int)) : Prop where
 tb : Blk wr tg 27 vs.toArray
 tll : tl.length = vs.length
 row : ∀ p (h : p < vs.length) (h' : p < tl.length), wr.ownsRow L 3 1 vs[p] tl[p].length (intVs tl[p])
 dis : ∀ p q (h : p < vs.length) (h' : q < vs.length), p ≠ q → vs[p].ownBlock = none ∨ vs[p].ownBlock ≠ vs[q].ownBlock
 bw : Bw w wr
 tgl : w.heap.size ≤ tg
 L : tg < L ∧ L ≤ wr.heap.size
theorem MtI.keep {w wr W : World} {L tg : Nat} {vs : List Value} {tl : List (List Int)} (h : MtI w wr L tg vs tl) (k : Bw wr W) : MtI w W L tg vs tl :=
 ⟨h.tb.below k.b h.tb.lt, h.tll, fun p h1 h2 => own_kept_below (h.row p h1 h2) k.b, h.dis, h.bw.trans k, h.tgl, ⟨h.L.1, Nat.le_trans h.L.2 k.size⟩⟩
theorem MtI.put {w W w7 : World} {L tg i : Nat} {v7 : Value} {c : Int} {vs : List Value} {tl : List (List Int)} (h : MtI w W L tg vs tl) (hi : i < vs.length) (hi' : i < tl.length)
   (hown : w7.ownsRow L 3 1 v7 (tl[i].length + 1) (intVs tl[i] ++ [.int .i64 c])) (hg : W.grownBy w7 vs[i].ownBlock) (hb : v7.ownBlock = vs[i].ownBlock ∨ v7.ownBlock = some W.heap.size) :
   MtI w (w7.setCell ⟨tg, i, none⟩ v7) L tg (vs.set i v7) (tl.set i (tl[i] ++ [c])) := by
 have htL := h.L.1
 have hlt : ∀ b, vs[i].ownBlock = some b → L ≤ b ∧ b < W.heap.size := fun b e => (h.row i hi hi').lt b e
 have ne : ∀ r, r < L → some r ≠ vs[i].ownBlock := fun r hr e => by have := (hlt r e.symm).1; omega
 have hv7 : ∀ b, v7.ownBlock = some b → L ≤ b := fun b e => (hown.lt b e).1
 have e1 := grownBy_setCell (p := ⟨tg, i, none⟩) (World.grownBy.refl w7 (some tg)) (.inl rfl) v7
 have htb7 := h.tb.grown hg (ne tg htL)
 have hLs := h.L
 have hbs := h.bw.size
 have htgl := h.tgl
 have hw7 : Bw w w7 := ⟨hg.os.trans h.bw.os, hg.tape.trans h.bw.tape, hg.output.trans h.bw.output, Nat.le_trans hbs hg.size, fun k hk => (hg.block k (by omega) (ne k (by omega))).trans (h.bw.block k hk)⟩
 refine ⟨?_, by simp [h.tll], fun p h1 h2 => ?_, fun p q h1 h2 hpq => ?_, hw7.setCell htgl _, htgl, ⟨htL, by have := hg.size; simp [World.setCell]; omega⟩⟩
 · have := htb7.set_ i v7
   have e2 : vs.toArray.setIfInBounds i v7 = (vs.set i v7).toArray := by simp
   rw [e2] at this
   exact this
 · have h1' : p < vs.length := by simpa using h1
   have h2' : p < tl.length := by simpa using h2
   by_cases e : p = i
   · subst e
     have e3 : (vs.set p v7)[p]'h1 = v7 := by simp
     have e4 : (tl.set p (tl[p] ++ [c]))[p]'h2 = tl[p] ++ [c] := by simp
     rw [e3, e4]
     have e5 : intVs (tl[p] ++ [c]) = intVs tl[p] ++ [.int .i64 c] := by simp [intVs]
     rw [e5]
     have := hown.kept e1 (.inr (fun e => by have := hv7 tg e; omega))
     simpa using this
   · have e3 : (vs.set i v7)[p]'h1 = vs[p] := by simp [Ne.symm e]
     have e4 : (tl.set i (tl[i] ++ [c]))[p]'h2 = tl[p] := by simp [Ne.symm e]
     rw [e3, e4]
     have hr := h.row p h1' h2'
     have hr7 := hr.kept hg (h.dis p i h1' hi e)
     refine hr7.kept e1 ?_
     rcases ho : vs[p].ownBlock with _ | r
     · exact .inl rfl
     · right; intro e; injection e with e; have := (hr.lt r ho).1; omega
 · have h1' : p < vs.length := by simpa using h1
   have h2' : q < vs.length := by simpa using h2
   have key : ∀ r, r ≠ i → ∀ (hr : r < vs.length), vs[r].ownBlock = none ∨ vs[r].ownBlock ≠ v7.ownBlock := fun r hr hrl => by
     rcases hb with e | e
     · rw [e]; exact h.dis r i hrl hi hr
     · rcases ho : vs[r].ownBlock with _ | x
       · exact .inl rfl
       · right; rw [e]; intro e2; injection e2 with e2
         have := ((h.row r hrl (by rw [h.tll]; exact hrl)).lt x ho).2; omega
   by_cases e : p = i
   · subst e
     have e3 : (vs.set p v7)[p]'h1 = v7 := by simp
     have e4 : (vs.set p v7)[q]'h2 = vs[q] := by simp [hpq]
     rw [e3, e4]
     rcases ho : v7.ownBlock with _ | x
     · exact .inl rfl
     · right
       intro e5
       rcases key q (Ne.symm hpq) h2' with e6 | e6
       · rw [e6] at e5; cases e5
       · exact e6 (by rw [ho]; exact e5.symm)
   · by_cases e' : q = i
     · subst e'
       have e3 : (vs.set q v7)[p]'h1 = vs[p] := by simp [Ne.symm e]
       have e4 : (vs.set q v7)[q]'h2 = v7 := by simp
       rw [e3, e4]
       exact key p e h1'
     · have e3 : (vs.set i v7)[p]'h1 = vs[p] := by simp [Ne.symm e]
       have e4 : (vs.set i v7)[q]'h2 = vs[q] := by simp [Ne.symm e']
       rw [e3, e4]
       exact h.dis p q h1' h2' hpq
theorem MtI.start {w wr : World} (n : Nat) (h : Bw w wr) : MtI w (wr.alloc (.cells (List.replicate n (Value.slice none 0 0)).toArray 27)) (wr.heap.size + 1) wr.heap.size (List.replicate n (Value.slice none 0 0)) (List.replicate n []) := by
 refine ⟨Blk.new _ _ _, by simp, fun p h1 h2 => ?_, fun p q h1 h2 _ => ?_, h.alloc _, h.size, ⟨by omega, by simp⟩⟩
 · simp only [List.getElem_replicate]
   exact World.ownsRow_nil _ _ _ _
 · left; simp [Value.ownBlock]
theorem MtI.at_ {w wr : World} {L tg : Nat} {vs : List Value} {tl : List (List Int)} (h : MtI w wr L tg vs tl) (h9 : vs.length ≤ 1000) : MxAt wr (fun b => w.heap.size ≤ b ∧ b < wr.heap.size) (.slice (some ⟨tg, 0, none⟩) vs.length vs.length) tl := by
 have htg := h.tgl
 have hL := h.L
 refine ⟨_, _, _, vs, rfl, h.tll, Nat.le_refl _, by unfold maxLen; omega, rfl, fun hn => ⟨_, rfl, ⟨htg, h.tb.lt⟩, fun k hk => ?_⟩, fun k h1 h2 => ?_⟩
 · have e : ((⟨tg, 0, none⟩ : Addr).add k) = ⟨tg, k, none⟩ := by
     unfold Addr.add
     by_cases h0 : k = 0 <;> simp [h0]
   rw [e, h.tb.cell k]
   simp [hk]
 · exact (own_iat2 (h.row k h1 h2)).keep (fun b hb => ⟨by omega, hb.2⟩) (fun _ _ => rfl)
end
section
open Go Go.ChangeShapes Go.WideShapes Go.ChangeAt Go.RowKit Go.Deep
section
variable {H : Type} {enc : TypeId × Value → H} {P : Program}
theorem trodAll_stays (hl : laidOutB P = true) {W W' : World} (hb : Below W.heap.size W W') : ∀ {ts : List TypeId} {vs : List Value} {ds : List (DataW H)} {ps : List MemPlace},
   (ts.all fun t => P.readableRec t && decide (t < P.types.size)) = true → DataW.TrodAll enc P W 0 (fun _ => true) true ts vs ds ps → (∀ x ∈ ps, x.block < W.heap.size) →
   DataW.TrodAll enc P W' 0 (fun b => decide (b < W.heap.size)) true ts vs ds ps := by
 intro ts
 induction ts with
 | nil =>
   intro vs ds ps _ h _
   obtain ⟨rfl, rfl, rfl⟩ := trodAll_nil h
   exact rfl
 | cons t ts ih =>
   intro vs ds ps hr h hlt
   obtain ⟨v, vs', d, ds', p, q, rfl, rfl, rfl, h1, h2⟩ := trodAll_cons h
   simp only [List.all_cons, Bool.and_eq_true, decide_eq_true_eq] at hr
   exact ⟨p, q, Below.trod hl hr.1.1 hr.1.2 h1 hb (fun x hx => hlt x (by simp [hx])), ih hr.2 h2 (fun x hx => hlt x (by simp [hx])), rfl⟩
theorem trodAll_lt {W : World} {base : Nat} {spare : Nat → Bool} {held : Bool} : ∀ {ts : List TypeId} {vs : List Value} {ds : List (DataW H)} {ps : List MemPlace}, DataW.TrodAll enc P W base spare held ts vs ds ps → ∀ x ∈ ps, x.block < W.heap.size := by
 intro ts
 induction ts with
 | nil =>
   intro vs ds ps h x hx
   obtain ⟨rfl, rfl, rfl⟩ := trodAll_nil h
   cases hx
 | cons t ts ih =>
   intro vs ds ps h x hx
   obtain ⟨v, vs', d, ds', p, q, rfl, rfl, rfl, ⟨m, h1⟩, h2⟩ := trodAll_cons h
   rcases List.mem_append.1 hx with hx | hx
   · exact DataW.trod_lt m _ _ _ h1 x hx
   · exact ih h2 x hx
end
end
end Go.Proofs.YthhbkabdhkdafaaGreat
