/- Part of a proof of pruneShows_holds. -/
import Derived.Test.YthhbkabdhkdafaaGreatUApQ
import Derived.Test.YthhbkabdhkdafaaGreatUAoQ
import Derived.IntWalk
import Derived.Deep.RegionWith
import Derived.Deep.CutBlock
set_option linter.unusedSimpArgs false
set_option linter.unusedVariables false
set_option maxRecDepth 100000
set_option maxHeartbeats 16000000
namespace Go.Proofs.YthhbkabdhkdafaaGreat
section
open Go.RowKit
structure BwOf (w : World) where
 val : World
 bw : Bw w val
instance (w : World) : Inhabited (BwOf w) := ⟨⟨w, Bw.refl w⟩⟩
theorem wp_region_quiet_bw {P : Program} {id : Nat} {Q : Exit → Act → World → Prop} {a : Act} {w : World} {l : List Oper} (hm : P.follows .mixedOrders = true) (hB : Region.lexB .any l.toArray = true)
   (h : wpQuiet P l.toArray (fun w' => ∃ p : BwOf w, w' = p.val) (fun a' => ∀ w', (∃ p : BwOf w, w' = p.val) → Q .normal a' w') l a) : (Code.region id l.toArray true).wp P Q a w :=
 wp_region_quiet (C := fun w' => ∃ p : BwOf w, w' = p.val) hm hB ⟨⟨w.drew, (Bw.refl w).drew⟩, rfl⟩ (by simpa using h)
theorem calls_bw {P : Program} {f : FuncId} {args : Array Value} {w : World} (p : BwOf w) {v : Value} (h : Calls P f args p.val fun e w' => e = .returned v ∧ Bw p.val w') : Calls P f args p.val fun e w'' => e = .returned v ∧ ∃ q : BwOf w, w'' = q.val :=
 h.mono fun _ w' ⟨he, hb⟩ => ⟨he, ⟨w', p.bw.trans hb⟩, rfl⟩
theorem mixedO : Tryz.prog.follows .mixedOrders = true := by kernel_rfl
end
def kw19 : List (List UInt8) := [[109, 111, 100, 101, 108], [115, 116, 97, 116, 101, 115], [112, 108, 97, 99, 101, 115], [108, 101, 116, 116, 101, 114, 115], [108, 101, 118, 101, 108, 115], [97, 103, 101], [114, 117, 108, 101], [110, 101, 101, 100], [103, 105, 118, 101], [109, 111, 118, 101], [101, 109, 112, 116, 121], [115, 101, 110, 100], [114, 101, 99, 101, 105, 118, 101], [112, 97, 116, 104], [110, 101, 120, 116], [116, 97, 107, 101], [109, 97, 107, 101], [115, 116, 97, 114, 116]]
def kwB (s : List UInt8) : Bool := kw19.any (fun z => z == s)
def namesM (m : Mdl) : List ByteArray := m.ss ++ m.ps ++ m.rs.map Rul.nm
structure NmOk (m : Mdl) : Prop where
 ok : ∀ s ∈ namesM m, wordL s.data.toList = true ∧ kwB s.data.toList = false ∧ s.size ≤ 100
 nd : ((namesM m).map fun s => s.data.toList).Nodup
 len : m.rs.length ≤ 12
def nmS : List ByteArray := [⟨#[97]⟩, ⟨#[98]⟩]
def nmP : List ByteArray := [⟨#[120]⟩, ⟨#[121]⟩]
def nmR : List ByteArray := [⟨#[114]⟩, ⟨#[115]⟩, ⟨#[116]⟩]
structure CtR (n k : Nat) (r : Rul) : Prop where
 fr : 0 ≤ r.fr ∧ r.fr < n
 tz : 0 ≤ r.tz ∧ r.tz < n
 nl : r.need.length = k
 gl : r.give.length = k
 n2 : ∀ x ∈ r.need, 0 ≤ x ∧ x ≤ 2
 g2 : ∀ x ∈ r.give, 0 ≤ x ∧ x ≤ 2
structure CtOk (m : Mdl) : Prop where
 ss : ∃ k, k < 2 ∧ m.ss = nmS.take (k + 1)
 ps : ∃ k, k < 2 ∧ m.ps = nmP.take (k + 1)
 rn : m.rs.map Rul.nm = nmR.take m.rs.length
 r1 : 1 ≤ m.rs.length ∧ m.rs.length ≤ 3
 ru : ∀ r ∈ m.rs, CtR m.ss.length m.ps.length r
 st : m.st = 0
 cl : m.cs.length = m.ps.length
 c3 : ∀ x ∈ m.cs, 0 ≤ x ∧ x ≤ 3
section
variable {m : Mdl}
theorem bd_getD {l : List Int} {a b : Int} (h : ∀ x ∈ l, a ≤ x ∧ x ≤ b) {j : Nat} (hj : j < l.length) : a ≤ l.getD j 0 ∧ l.getD j 0 ≤ b := by
 have := h _ (List.getElem_mem hj)
 rwa [show l.getD j 0 = l[j] by simp [List.getD, hj]]
theorem CtOk.sl (h : CtOk m) : 1 ≤ m.ss.length ∧ m.ss.length ≤ 2 := by
 obtain ⟨k, hk, e⟩ := h.ss
 rw [e]; simp [nmS]; omega
theorem CtOk.pl (h : CtOk m) : 1 ≤ m.ps.length ∧ m.ps.length ≤ 2 := by
 obtain ⟨k, hk, e⟩ := h.ps
 rw [e]; simp [nmP]; omega
theorem CtR.ok {n k : Nat} {r : Rul} (h : CtR n k r) : RulOk n k r := ⟨h.fr, h.tz, h.nl, h.gl, fun j hj => by
 have := bd_getD h.n2 (j := j) (by rw [h.nl]; exact hj); omega, fun j hj => by
 have := bd_getD h.g2 (j := j) (by rw [h.gl]; exact hj); omega⟩
theorem CtOk.ok (h : CtOk m) : MdlOk m := by
 have h1 := h.sl
 have h2 := h.pl
 refine ⟨by omega, by omega, fun r hr => (h.ru r hr).ok, ?_⟩
 refine one_flat.2 ⟨m.st, m.cs, rfl, by rw [h.st]; omega, by rw [h.st]; omega, h.cl, fun c hc => ?_⟩
 have := h.c3 c hc
 omega
theorem CtOk.nm (h : CtOk m) : NmOk m := by
 obtain ⟨k1, hk1, e1⟩ := h.ss
 obtain ⟨k2, hk2, e2⟩ := h.ps
 have h3 := h.r1
 have e : namesM m = nmS.take (k1 + 1) ++ nmP.take (k2 + 1) ++ nmR.take m.rs.length := by rw [namesM, e1, e2, h.rn]
 have hx : ∀ a b c : Nat, a < 2 → b < 2 → 1 ≤ c ∧ c ≤ 3 → (∀ s ∈ nmS.take (a + 1) ++ nmP.take (b + 1) ++ nmR.take c, wordL s.data.toList = true ∧ kwB s.data.toList = false ∧ s.size ≤ 100) ∧ ((nmS.take (a + 1) ++ nmP.take (b + 1) ++ nmR.take c).map fun s => s.data.toList).Nodup := by
   intro a b c ha hb hc
   have ha : a = 0 ∨ a = 1 := by omega
   have hb : b = 0 ∨ b = 1 := by omega
   have hc : c = 1 ∨ c = 2 ∨ c = 3 := by omega
   rcases ha with rfl | rfl <;> rcases hb with rfl | rfl <;> rcases hc with rfl | rfl | rfl <;> decide
 obtain ⟨a, b⟩ := hx k1 k2 _ hk1 hk2 h3
 exact ⟨by rw [e]; exact a, by rw [e]; exact b, by omega⟩
end
section
open Go.RowKit
theorem mxAmount_any (x : Int) (h : -1099511627776 ≤ x ∧ x ≤ 1099511627776) (w : World) : Calls Tryz.prog 275 #[.int .i64 x] w (NumPost w (x.natAbs : Int)) := by
 have q1 : IntKind.i64.wrap (-x) = -x := IntWalk.i64_in _ (by omega)
 go_enter Tryz.func275, Tryz.ntmps275
 go_wp2_with fail
 go_ret
 exact ⟨by
   show Ending.returned (.int .i64 (max x (-x))) = _
   rw [show max x (-x) = (x.natAbs : Int) by omega], Bw.refl _⟩
theorem mxDivisor_any (a0 b0 : Nat) (ha : a0 ≤ 1099511627776) (hb : b0 ≤ 1099511627776) (w : World) : Calls Tryz.prog 340 #[.int .i64 (a0 : Int), .int .i64 (b0 : Int)] w (NumPost w (Nat.gcd a0 b0 : Int)) := by
 go_enter Tryz.func340, Tryz.ntmps340
 go_wp2_with fail
 go_loopw [0, 1] (fun s0 s1 wi => ∃ a b : Nat, s0 = .int .i64 (a : Int) ∧ s1 = .int .i64 (b : Int) ∧ a ≤ 1099511627776 ∧ b ≤ 1099511627776 ∧ Hid (Nat.gcd a b = Nat.gcd a0 b0 ∧ Bw w wi)) (fun _ s1 _ => (intOf s1).toNat)
 case atStart => exact ⟨a0, b0, rfl, rfl, ha, hb, Lib.hid ⟨rfl, Bw.refl _⟩⟩
 case round =>
   obtain ⟨a, b, rfl, rfl, h1, h2, HB⟩ := hrel
   by_cases hb0 : b = 0
   · subst hb0
     go_wp2_with fail
     go_ret
     exact ⟨by rw [← HB.out.1, Nat.gcd_zero_right]; rfl, HB.out.2⟩
   · have hb1 : (0 : Int) < (b : Int) := by omega
     have hb2 : ((b : Int) == 0) = false := by simpa using hb0
     have hb3 : ¬ ((b : Int) = 0) := by omega
     have hbn : ¬ (b = 0) := hb0
     have hm := Nat.mod_lt a (Nat.pos_of_ne_zero hb0)
     have q1 : (a : Int).tmod (b : Int) = ((a % b : Nat) : Int) := by rw [Int.tmod_eq_emod_of_nonneg (by omega)]; rfl
     have q2 : IntKind.i64.wrap (((a % b : Nat) : Int)) = ((a % b : Nat) : Int) := IntWalk.i64_in _ (by omega)
     go_wp2_with fail
     go_quiet (fail)
     go_wp2_with fail
     go_roundw
     case rel => exact ⟨b, a % b, rfl, by rw [← Int.natCast_emod], h2, by omega, Lib.hid ⟨by rw [Nat.gcd_comm b, ← Nat.gcd_rec, Nat.gcd_comm]; exact HB.out.1, HB.out.2.drewN _⟩⟩
     case measure => simp [intOf]; omega
def IsAt (w : World) (B : Nat) (A : Option Addr) (cs : List Int) : Prop := Reads w B 1 A cs.length (intVs cs)
theorem intVs_get {cs : List Int} {i : Nat} (hi : i < cs.length) : (intVs cs)[i]? = some (.int .i64 (cs.getD i 0)) := by
 simp [intVs, List.getD, hi]
theorem add_none (b off j : Nat) : (⟨b, off, none⟩ : Addr).add j = ⟨b, off + j, none⟩ := by
 unfold Addr.add
 by_cases h : j = 0 <;> simp [h]
theorem IsAt.form {w : World} {B : Nat} {A : Option Addr} {cs : List Int} (h : IsAt w B A cs) (h0 : 0 < cs.length) : ∃ b off, A = some ⟨b, off, none⟩ ∧ b < B ∧ ∀ j, j < cs.length → w.cell? ⟨b, off + j, none⟩ = some (.int .i64 (cs.getD j 0)) := by
 obtain ⟨ad, e, hb, hc⟩ := h.2 h0
 obtain ⟨b, off, spot⟩ := ad
 have hs : spot = none := by
   have h1 := hc 0 _ (intVs_get h0)
   rw [show (⟨b, off, spot⟩ : Addr).add 0 = ⟨b, off, spot⟩ from by simp [Addr.add]] at h1
   cases spot with
   | none => rfl
   | some s =>
     exfalso
     simp only [World.cell?, Option.isSome_some, if_true] at h1
     split at h1 <;> cases h1
 subst hs
 refine ⟨b, off, e, hb, fun j hj => ?_⟩
 have h1 := hc j _ (intVs_get hj)
 rwa [add_none] at h1
def ClonePost (w : World) (cs : List Int) (n : Nat) (e : Ending) (w' : World) : Prop := ∃ g cap, e = .returned (.slice (some ⟨g, 0, none⟩) n cap) ∧ w'.ownsRow w.heap.size 3 1 (.slice (some ⟨g, 0, none⟩) n cap) n (intVs cs) ∧ Below w.heap.size w w'
theorem clone_any (A : Option Addr) (n c : Nat) (cs : List Int) (w : World) (h : IsAt w w.heap.size A cs) (hn : cs.length = n) (h0 : 0 < n) (h9 : n ≤ 1000) : Calls Tryz.prog 29 #[.slice A n c] w (ClonePost w cs n) := by
 obtain ⟨b, off, rfl, hb, hc⟩ := h.form (by omega)
 refine (Tryz.slices_Clone_int b off n c cs w (by omega) (by omega) hc).mono fun e w' h => ?_
 obtain ⟨v', he, hown, _, hbw⟩ := h
 rw [List.take_of_length_le (by omega)] at hown
 obtain ⟨g, cap, rfl, _, _⟩ := hown.form h0
 exact ⟨g, cap, he, hown, hbw⟩
end
theorem mem_vecs : ∀ (k : Nat) (l : List Int), l.length = k → (∀ x ∈ l, -2 ≤ x ∧ x ≤ 2) → l ∈ vecs k
 | 0, l, h, _ => by
   obtain rfl : l = [] := by simpa using h
   simp [vecs]
 | k + 1, x :: l, h, hb => by
   have hx := hb x (by simp)
   have ih := mem_vecs k l (by simpa using h) (fun y hy => hb y (by simp [hy]))
   rw [vecs, List.mem_flatMap]
   refine ⟨x, ?_, List.mem_map.2 ⟨l, ih, rfl⟩⟩
   rcases (by omega : x = -2 ∨ x = -1 ∨ x = 0 ∨ x = 1 ∨ x = 2) with rfl | rfl | rfl | rfl | rfl <;> simp
theorem flows_one (h3 : ∀ k, 1 ≤ k → k ≤ 3 → chk 1 k = true) {a : List Int} {k : Nat} (h1 : 1 ≤ k) (hk : k ≤ 3) (hl : a.length = k) (hb : ∀ x ∈ a, -2 ≤ x ∧ x ≤ 2) : ∀ y ∈ flowsU [a] k, okFlow [a] k y = true := by
 have h := h3 k h1 hk
 unfold chk at h
 rw [List.all_eq_true] at h
 exact List.all_eq_true.1 (h [a] (by rw [tabs]; exact List.mem_map.2 ⟨a, mem_vecs k a hl hb, rfl⟩))
theorem flows_two (h2 : ∀ k, 1 ≤ k → k ≤ 2 → chk 2 k = true) {a b : List Int} {k : Nat} (h1 : 1 ≤ k) (hk : k ≤ 2) (hl : a.length = k) (hl2 : b.length = k) (hb : ∀ x ∈ a, -2 ≤ x ∧ x ≤ 2) (hb2 : ∀ x ∈ b, -2 ≤ x ∧ x ≤ 2) : ∀ y ∈ flowsU [a, b] k, okFlow [a, b] k y = true := by
 have h := h2 k h1 hk
 unfold chk at h
 rw [List.all_eq_true] at h
 exact List.all_eq_true.1 (h [a, b] (by rw [tabs]; exact List.mem_flatMap.2 ⟨a, mem_vecs k a hl hb, List.mem_map.2 ⟨b, mem_vecs k b hl2 hb2, rfl⟩⟩; simp))
section
open Go.RowKit
structure MtI (w wr : World) (L tg : Nat) (vs : List Value) (tl : List (List Int)) : Prop where
 tb : Blk wr tg 27 vs.toArray
 tll : tl.length = vs.length
 row : ∀ p (h : p < vs.length) (h' : p < tl.length), wr.ownsRow L 3 1 vs[p] tl[p].length (intVs tl[p])
 dis : ∀ p q (h : p < vs.length) (h' : q < vs.length), p ≠ q → vs[p].ownBlock = none ∨ vs[p].ownBlock ≠ vs[q].ownBlock
 bw : Bw w wr
 tgl : w.heap.size ≤ tg
 L : tg < L ∧ L ≤ wr.heap.size
theorem MtI.keep {w wr W : World} {L tg : Nat} {vs : List Value} {tl : List (List Int)} (h : MtI w wr L tg vs tl) (k : Bw wr W) : MtI w W L tg vs tl :=
 ⟨h.tb.below k.b h.tb.lt, h.tll, fun p h1 h2 => own_kept_below (h.row p h1 h2) k.b, h.dis, h.bw.trans k, h.tgl, ⟨h.L.1, Nat.le_trans h.L.2 k.size⟩⟩
theorem MtI.put {w W w7 : World} {L tg i : Nat} {v7 : Value} {c : Int} {vs : List Value} {tl : List (List Int)} (h : MtI w W L tg vs tl) (hi : i < vs.length) (hi' : i < tl.length)
   (hown : w7.ownsRow L 3 1 v7 (tl[i].length + 1) (intVs tl[i] ++ [.int .i64 c])) (hg : W.grownBy w7 vs[i].ownBlock) (hb : v7.ownBlock = vs[i].ownBlock ∨ v7.ownBlock = some W.heap.size) :
   MtI w (w7.setCell ⟨tg, i, none⟩ v7) L tg (vs.set i v7) (tl.set i (tl[i] ++ [c])) := by
 have htL := h.L.1
 have hlt : ∀ b, vs[i].ownBlock = some b → L ≤ b ∧ b < W.heap.size := fun b e => (h.row i hi hi').lt b e
 have ne : ∀ r, r < L → some r ≠ vs[i].ownBlock := fun r hr e => by have := (hlt r e.symm).1; omega
 have hv7 : ∀ b, v7.ownBlock = some b → L ≤ b := fun b e => (hown.lt b e).1
 have e1 := grownBy_setCell (p := ⟨tg, i, none⟩) (World.grownBy.refl w7 (some tg)) (.inl rfl) v7
 have htb7 := h.tb.grown hg (ne tg htL)
 have hLs := h.L
 have hbs := h.bw.size
 have htgl := h.tgl
 have hw7 : Bw w w7 := ⟨hg.os.trans h.bw.os, hg.tape.trans h.bw.tape, hg.output.trans h.bw.output, Nat.le_trans hbs hg.size, fun k hk => (hg.block k (by omega) (ne k (by omega))).trans (h.bw.block k hk)⟩
 refine ⟨?_, by simp [h.tll], fun p h1 h2 => ?_, fun p q h1 h2 hpq => ?_, hw7.setCell htgl _, htgl, ⟨htL, by have := hg.size; simp [World.setCell]; omega⟩⟩
 · have := htb7.set_ i v7
   have e2 : vs.toArray.setIfInBounds i v7 = (vs.set i v7).toArray := by simp
   rw [e2] at this
   exact this
 · have h1' : p < vs.length := by simpa using h1
   have h2' : p < tl.length := by simpa using h2
   by_cases e : p = i
   · subst e
     have e3 : (vs.set p v7)[p]'h1 = v7 := by simp
     have e4 : (tl.set p (tl[p] ++ [c]))[p]'h2 = tl[p] ++ [c] := by simp
     rw [e3, e4]
     have e5 : intVs (tl[p] ++ [c]) = intVs tl[p] ++ [.int .i64 c] := by simp [intVs]
     rw [e5]
     have := hown.kept e1 (.inr (fun e => by have := hv7 tg e; omega))
     simpa using this
   · have e3 : (vs.set i v7)[p]'h1 = vs[p] := by simp [Ne.symm e]
     have e4 : (tl.set i (tl[i] ++ [c]))[p]'h2 = tl[p] := by simp [Ne.symm e]
     rw [e3, e4]
     have hr := h.row p h1' h2'
     have hr7 := hr.kept hg (h.dis p i h1' hi e)
     refine hr7.kept e1 ?_
     rcases ho : vs[p].ownBlock with _ | r
     · exact .inl rfl
     · right; intro e; injection e with e; have := (hr.lt r ho).1; omega
 · have h1' : p < vs.length := by simpa using h1
   have h2' : q < vs.length := by simpa using h2
   have key : ∀ r, r ≠ i → ∀ (hr : r < vs.length), vs[r].ownBlock = none ∨ vs[r].ownBlock ≠ v7.ownBlock := fun r hr hrl => by
     rcases hb with e | e
     · rw [e]; exact h.dis r i hrl hi hr
     · rcases ho : vs[r].ownBlock with _ | x
       · exact .inl rfl
       · right; rw [e]; intro e2; injection e2 with e2
         have := ((h.row r hrl (by rw [h.tll]; exact hrl)).lt x ho).2; omega
   by_cases e : p = i
   · subst e
     have e3 : (vs.set p v7)[p]'h1 = v7 := by simp
     have e4 : (vs.set p v7)[q]'h2 = vs[q] := by simp [hpq]
     rw [e3, e4]
     rcases ho : v7.ownBlock with _ | x
     · exact .inl rfl
     · right
       intro e5
       rcases key q (Ne.symm hpq) h2' with e6 | e6
       · rw [e6] at e5; cases e5
       · exact e6 (by rw [ho]; exact e5.symm)
   · by_cases e' : q = i
     · subst e'
       have e3 : (vs.set q v7)[p]'h1 = vs[p] := by simp [Ne.symm e]
       have e4 : (vs.set q v7)[q]'h2 = v7 := by simp
       rw [e3, e4]
       exact key p e h1'
     · have e3 : (vs.set i v7)[p]'h1 = vs[p] := by simp [Ne.symm e]
       have e4 : (vs.set i v7)[q]'h2 = vs[q] := by simp [Ne.symm e']
       rw [e3, e4]
       exact h.dis p q h1' h2' hpq
theorem MtI.start {w wr : World} (n : Nat) (h : Bw w wr) : MtI w (wr.alloc (.cells (List.replicate n (Value.slice none 0 0)).toArray 27)) (wr.heap.size + 1) wr.heap.size (List.replicate n (Value.slice none 0 0)) (List.replicate n []) := by
 refine ⟨Blk.new _ _ _, by simp, fun p h1 h2 => ?_, fun p q h1 h2 _ => ?_, h.alloc _, h.size, ⟨by omega, by simp⟩⟩
 · simp only [List.getElem_replicate]
   exact World.ownsRow_nil _ _ _ _
 · left; simp [Value.ownBlock]
theorem MtI.at_ {w wr : World} {L tg : Nat} {vs : List Value} {tl : List (List Int)} (h : MtI w wr L tg vs tl) (h9 : vs.length ≤ 1000) : MxAt wr (fun b => w.heap.size ≤ b ∧ b < wr.heap.size) (.slice (some ⟨tg, 0, none⟩) vs.length vs.length) tl := by
 have htg := h.tgl
 have hL := h.L
 refine ⟨_, _, _, vs, rfl, h.tll, Nat.le_refl _, by unfold maxLen; omega, rfl, fun hn => ⟨_, rfl, ⟨htg, h.tb.lt⟩, fun k hk => ?_⟩, fun k h1 h2 => ?_⟩
 · have e : ((⟨tg, 0, none⟩ : Addr).add k) = ⟨tg, k, none⟩ := by
     unfold Addr.add
     by_cases h0 : k = 0 <;> simp [h0]
   rw [e, h.tb.cell k]
   simp [hk]
 · exact (own_iat2 (h.row k h1 h2)).keep (fun b hb => ⟨by omega, hb.2⟩) (fun _ _ => rfl)
section
variable {a b : List Int} {k : Nat}
end
end
end Go.Proofs.YthhbkabdhkdafaaGreat
