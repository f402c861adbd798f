/- Part of a proof of basisSets_holds. -/
import Derived.Test.YtbmheekaclmibaaGreatXGenAQ
import Derived.Test.YtbmheekaclmibaaGreatXRefCQ
import Derived.Deep.DeepCutAuto
import Derived.Deep.CutBlock
set_option maxRecDepth 100000
set_option maxHeartbeats 16000000
namespace Go.Proofs.YtbmheekaclmibaaGreat
open Go.RowKit
set_option linter.unusedSimpArgs false
set_option linter.unusedVariables false
def srtZ (f : T → V → V) : List T → List V → List V
 | p :: ps, v :: vs => f p v :: srtZ f ps vs
 | [], vs => vs
 | _ :: _, [] => []
def srtK (f : T → V → V) (t : T) (ks : List V) : List V := if t.kind = 3 then srtZ f t.parts ks else if t.kind = 4 ∨ t.kind = 5 then ks.map (f t.p0) else ks
def srtP : Nat → T → V → V
 | 0, _, v => v
 | d + 1, t, v => .mk v.n (if t.kind = 5 then sortV (srtK (srtP d) t v.ks) else srtK (srtP d) t v.ks)
def srtAt (f : T → V → V) (t : T) (k : Nat) (y : V) : V := if t.kind = 3 then (t.parts[k]?).elim y (fun p => f p y) else if t.kind = 4 ∨ t.kind = 5 then f t.p0 y else y
theorem srtZ_length (f : T → V → V) : ∀ (ps : List T) (vs : List V), (srtZ f ps vs).length = vs.length
 | [], vs => rfl
 | _ :: _, [] => rfl
 | p :: ps, v :: vs => by simp [srtZ, srtZ_length f ps vs]
theorem srtZ_get (f : T → V → V) : ∀ (ps : List T) (vs : List V) (k : Nat) (h : k < vs.length), (srtZ f ps vs)[k]? = some ((ps[k]?).elim vs[k] (fun p => f p vs[k]))
 | [], vs, k, h => by simp [srtZ, h]
 | p :: ps, v :: vs, 0, _ => by simp [srtZ]
 | p :: ps, v :: vs, k + 1, h => by
   have := srtZ_get f ps vs k (by simpa using h)
   simpa [srtZ] using this
theorem srtK_length (f : T → V → V) (t : T) (ks : List V) : (srtK f t ks).length = ks.length := by
 unfold srtK
 split
 · exact srtZ_length _ _ _
 · split <;> simp
theorem srtK_get (f : T → V → V) (t : T) (ks : List V) (k : Nat) (h : k < ks.length) : (srtK f t ks)[k]? = some (srtAt f t k ks[k]) := by
 unfold srtK srtAt
 split
 · exact srtZ_get f _ _ k h
 · split <;> simp [h]
def srtTo (f : T → V → V) (t : T) (ks : List V) (k : Nat) : List V := (srtK f t ks).take k ++ ks.drop k
theorem srtTo_zero (f : T → V → V) (t : T) (ks : List V) : srtTo f t ks 0 = ks := by simp [srtTo]
theorem srtTo_all (f : T → V → V) (t : T) (ks : List V) {k : Nat} (h : ks.length ≤ k) : srtTo f t ks k = srtK f t ks := by
 unfold srtTo; rw [List.take_of_length_le (by rw [srtK_length]; omega), List.drop_eq_nil_of_le h]; simp
theorem srtTo_length (f : T → V → V) (t : T) (ks : List V) {k : Nat} (h : k ≤ ks.length) : (srtTo f t ks k).length = ks.length := by
 unfold srtTo; rw [List.length_append, List.length_take, List.length_drop, srtK_length]; omega
theorem srtTo_get (f : T → V → V) (t : T) (ks : List V) {k : Nat} (h : k < ks.length) : (srtTo f t ks k)[k]'(by rw [srtTo_length f t ks (by omega)]; exact h) = ks[k] := by
 unfold srtTo
 rw [List.getElem_append_right (by rw [List.length_take, srtK_length]; omega)]
 have e : (List.take k (srtK f t ks)).length = k := by rw [List.length_take, srtK_length]; omega
 simp [e]
theorem srtTo_set (f : T → V → V) (t : T) (ks : List V) {k : Nat} (h : k < ks.length) : (srtTo f t ks k).set k (srtAt f t k ks[k]) = srtTo f t ks (k + 1) := by
 have hk : k < (srtK f t ks).length := by rw [srtK_length]; exact h
 have e : (List.take k (srtK f t ks)).length = k := by rw [List.length_take, srtK_length]; omega
 have e2 : (srtK f t ks)[k] = srtAt f t k ks[k] := by
   have := srtK_get f t ks k h
   rw [List.getElem?_eq_getElem hk] at this
   exact Option.some.inj this
 unfold srtTo
 rw [List.take_succ_eq_append_getElem hk, e2, List.set_append_right _ _ (by omega), e, Nat.sub_self]
 rw [show List.drop k ks = ks[k] :: List.drop (k + 1) ks from List.drop_eq_getElem_cons h, List.set_cons_zero, List.append_assoc]
 rfl

def InsI (l : List V) (i k : Nat) : Prop := k ≤ i ∧ i < l.length ∧ ∀ a b (ha : a < b) (hb : b ≤ i) (hl : b < l.length), b ≠ k → cmpV (l[a]'(by omega)) l[b] ≤ 0
def UpTo (l : List V) (n : Nat) : Prop := ∀ a b (ha : a < b) (hb : b < n) (hl : b < l.length), cmpV (l[a]'(by omega)) l[b] ≤ 0
theorem UpTo.one (l : List V) : UpTo l 1 := fun a b ha hb _ => by omega
theorem UpTo.ins {l : List V} {i : Nat} (h : UpTo l i) (hi : i < l.length) : InsI l i i := ⟨Nat.le_refl _, hi, fun a b ha hb hl hne => h a b ha (by omega) hl⟩
theorem InsI.done {l : List V} {i k : Nat} (h : InsI l i k) (h1 : k = 0 ∨ ∃ (h0 : 0 < k) (hl : k < l.length), ¬ cmpV l[k] (l[k - 1]'(by omega)) < 0) : UpTo l (i + 1) := by
 intro a b ha hb hl
 by_cases e : b = k
 · subst e
   rcases h1 with h1 | ⟨h0, hl', h2⟩
   · omega
   · have h3 := cmp_anti l[b] (l[b - 1]'(by omega))
     by_cases e2 : a = b - 1
     · subst e2; omega
     · exact cmp_le_trans (h.2.2 a (b - 1) (by omega) (by have := h.1; omega) (by omega) (by omega)) (by omega)
 · exact h.2.2 a b ha (by omega) hl e
def swapL (l : List V) (k : Nat) (h : k + 1 < l.length) : List V := (l.set (k + 1) (l[k]'(by omega))).set k l[k + 1]
theorem swapL_length (l : List V) (k : Nat) (h : k + 1 < l.length) : (swapL l k h).length = l.length := by simp [swapL]
theorem swapL_get (l : List V) (k : Nat) (h : k + 1 < l.length) (j : Nat) (hj : j < l.length) : (swapL l k h)[j]'(by rw [swapL_length]; exact hj) = if j = k then l[k + 1] else if j = k + 1 then l[k]'(by omega) else l[j] := by
 unfold swapL
 rw [List.getElem_set, List.getElem_set]
 by_cases e1 : j = k
 · subst e1; simp
 · rw [if_neg (Ne.symm e1), if_neg e1]
   by_cases e2 : j = k + 1
   · subst e2; simp
   · rw [if_neg (Ne.symm e2), if_neg e2]
theorem swapL_perm (l : List V) (k : Nat) (h : k + 1 < l.length) : (swapL l k h).Perm l := by
 have e : l = l.take k ++ l[k]'(by omega) :: l[k + 1] :: l.drop (k + 2) := by
   have h1 := List.drop_eq_getElem_cons (show k < l.length by omega)
   have h2 := List.drop_eq_getElem_cons h
   rw [← h2, ← h1, List.take_append_drop]
 have e2 : swapL l k h = l.take k ++ l[k + 1] :: l[k]'(by omega) :: l.drop (k + 2) := by
   apply List.ext_getElem
   · rw [swapL_length]; simp; omega
   · intro j h1 h2
     rw [swapL_length] at h1
     rw [swapL_get l k h j h1]
     by_cases c1 : j < k
     · rw [if_neg (by omega), if_neg (by omega), List.getElem_append_left (by simp; omega)]; simp
     · rw [List.getElem_append_right (by simp; omega)]
       have ek : (List.take k l).length = k := by simp; omega
       by_cases c2 : j = k
       · subst c2; simp [ek]
       · by_cases c3 : j = k + 1
         · subst c3
           rw [if_neg (by omega), if_pos rfl]
           simp [ek]
         · rw [if_neg c2, if_neg c3]
           obtain ⟨m, rfl⟩ : ∃ m, j = k + 2 + m := ⟨j - (k + 2), by omega⟩
           simp [ek, show k + 2 + m - k = m + 1 + 1 by omega]
 rw [e2]
 conv => rhs; rw [e]
 exact (List.Perm.swap _ _ _).append_left _
theorem InsI.swap {l : List V} {i k : Nat} (h : InsI l i (k + 1)) (hk : k + 1 < l.length) (h1 : cmpV l[k + 1] (l[k]'(by omega)) < 0) : InsI (swapL l k hk) i k := by
 obtain ⟨h2, h3, h4⟩ := h
 refine ⟨by omega, by rw [swapL_length]; exact h3, fun a b ha hb hl hne => ?_⟩
 rw [swapL_length] at hl
 rw [swapL_get l k hk a (by omega), swapL_get l k hk b hl, if_neg hne]
 by_cases eb : b = k + 1
 · rw [if_pos eb]
   by_cases ea : a = k
   · rw [if_pos ea]; omega
   · rw [if_neg ea, if_neg (by omega)]
     exact h4 a k (by omega) (by omega) (by omega) (by omega)
 · rw [if_neg eb]
   by_cases ea : a = k
   · rw [if_pos ea]
     exact h4 (k + 1) b (by omega) hb hl eb
   · rw [if_neg ea]
     by_cases ea2 : a = k + 1
     · rw [if_pos ea2]
       exact h4 k b (by omega) hb hl eb
     · rw [if_neg ea2]
       exact h4 a b ha hb hl eb
theorem UpTo.sorted {l : List V} (h : UpTo l l.length) : sortedB l = true := pair_sorted (by
 rw [List.pairwise_iff_getElem]
 intro i j hi hj hij
 exact h i j hij hj hj)
theorem vCells_set : ∀ {l : List V} {ss : List Value} {k : Nat} (h : k < l.length) (h' : k < ss.length) (y : V) (s : Value), ((vCells l ss).set (k * 2) (.int .i64 y.n)).set (k * 2 + 1) s = vCells (l.set k y) (ss.set k s)
 | v :: l, u :: ss, 0, _, _, y, s => by simp [vCells]
 | v :: l, u :: ss, k + 1, h, h', y, s => by
   have := vCells_set (l := l) (ss := ss) (k := k) (by simpa using h) (by simpa using h') y s
   simp only [vCells, Nat.add_mul, Nat.one_mul, List.set_cons_succ]
   rw [this]
section
variable {w w' A W : World} {e L B : Nat} {l : List V} {ss : List Value}
theorem VRow.cells {ad : Addr} {n c : Nat} (h : VRow w e L B (.slice (some ad) n c) l ss) (hn : l.length = n) {k : Nat} (hk : k < n) : B ≤ ad.block ∧ ad.block < w.heap.size ∧
   w.cell? (ad.add (k * 2)) = some (.int .i64 (l[k]'(by omega)).n) ∧ w.cell? ⟨(ad.add (k * 2)).block, (ad.add (k * 2)).off + 1, none⟩ = some (ss[k]'(by rw [h.len]; omega)) ∧ w.frozen? (ad.add (k * 2)) = false ∧ w.frozen? ⟨(ad.add (k * 2)).block, (ad.add (k * 2)).off + 1, none⟩ = false := by
 subst hn
 obtain ⟨g, e, h1, h2, h3, h4⟩ := own_at h.own (by omega)
 injection e with e
 subst e
 have h5 := vCells_at (l := l) (ss := ss) hk (by rw [h.len]; exact hk)
 have e : (⟨g, 0, none⟩ : Addr).add (k * 2) = ⟨g, k * 2, none⟩ := by
   unfold Addr.add
   by_cases h0 : k * 2 = 0 <;> simp [h0]
 have e2 : (⟨g, 0, none⟩ : Addr).add (k * 2 + 1) = ⟨g, k * 2 + 1, none⟩ := by
   unfold Addr.add; simp
 refine ⟨h2, h3, h4 _ _ h5.1, ?_, ?_, ?_⟩
 · have := h4 _ _ h5.2
   rw [e2] at this
   rw [e]; exact this
 · rw [e]; exact h.own.frozenAt _
 · rw [e]; exact h.own.frozenAt _
theorem VRow.put {ad : Addr} {n c : Nat} (h : VRow w e L B (.slice (some ad) n c) l ss) (hn : l.length = n) {k : Nat} (hk : k < n) {y : V} {s : Value} (hs : KAt w (fun b => L ≤ b ∧ b < w.heap.size ∧ (Value.slice (some ad) n c).ownBlock ≠ some b) s y.ks) {W : World}
   (hW : W = (w.setCell (ad.add (k * 2)) (.int .i64 y.n)).setCell ⟨(ad.add (k * 2)).block, (ad.add (k * 2)).off + 1, none⟩ s) : VRow W e L B (.slice (some ad) n c) (l.set k y) (ss.set k s) ∧ w.grownBy W (some ad.block) := by
 subst hn
 subst hW
 obtain ⟨g, e', h1, h2, h3, h4⟩ := own_at h.own (by omega)
 injection e' with e'
 subst e'
 have q1 := h.own.stored (k * 2) (.int .i64 y.n)
 have q2 := q1.1.stored (k * 2 + 1) s
 rw [vCells_set hk (by rw [h.len]; exact hk)] at q2
 have e : (⟨g, 0, none⟩ : Addr).add (k * 2) = ⟨g, k * 2, none⟩ := by
   unfold Addr.add
   by_cases h0 : k * 2 = 0 <;> simp [h0]
 have hg : w.grownBy ((w.setCell ⟨g, k * 2, none⟩ (.int .i64 y.n)).setCell ⟨g, k * 2 + 1, none⟩ s) (some g) := grownBy_setCell (p := ⟨g, k * 2 + 1, none⟩) q1.2 (.inl rfl) _
 rw [e]
 generalize hWW : (w.setCell ⟨g, k * 2, none⟩ (.int .i64 y.n)).setCell ⟨g, k * 2 + 1, none⟩ s = W at *
 have key : ∀ {u : Value} {ks : List V}, KAt w (fun b => L ≤ b ∧ b < w.heap.size ∧ (Value.slice (some ⟨g, 0, none⟩) l.length c).ownBlock ≠ some b) u ks → KAt W (fun b => L ≤ b ∧ b < W.heap.size ∧ (Value.slice (some ⟨g, 0, none⟩) l.length c).ownBlock ≠ some b) u ks := fun h => h.keep (fun b hb => ⟨hb.1, Nat.lt_of_lt_of_le hb.2.1 hg.size, hb.2.2⟩) (fun p hp => World.cell?_of_block (hg.block p.block hp.2.1 (fun e => hp.2.2 (by rw [e]; rfl))))
 refine ⟨⟨by rw [List.length_set]; exact q2.1, by simp [h.len], fun j h1 h2 => ?_⟩, hg⟩
 by_cases ej : k = j
 · subst ej
   simp only [List.getElem_set_self]
   exact key hs
 · rw [List.getElem_set_ne ej, List.getElem_set_ne ej]
   exact key (h.kid j (by simpa using h1) (by simpa using h2))
end
structure SrtI (W w : World) (g5 : Nat) (x : Int) (tc : Array Value) (sv : Value) (l : List V) (ss : List Value) : Prop where
 b0 : Blk W w.heap.size 29 tc
 b2 : Blk W (w.heap.size + 1 + 1) 39 #[.int .i64 0, .slice none 0 0]
 b5 : Blk W g5 39 #[.int .i64 x, sv]
 row : VRow W 39 (w.heap.size + 3) (w.heap.size + 3) sv l ss
 h5 : sv.ownBlock ≠ some g5
 h6 : w.heap.size + 3 ≤ g5
 bw : Bw w W
section
variable {W W' w : World} {g5 : Nat} {x : Int} {tc : Array Value} {sv : Value} {l : List V} {ss : List Value}
theorem SrtI.keep (h : SrtI W w g5 x tc sv l ss) (g : Bw W W') : SrtI W' w g5 x tc sv l ss :=
 ⟨h.b0.below g.b h.b0.lt, h.b2.below g.b h.b2.lt, h.b5.below g.b h.b5.lt, h.row.bw g, h.h5, h.h6, h.bw.trans g⟩
theorem SrtI.put {ad : Addr} {n c : Nat} (h : SrtI W w g5 x tc (.slice (some ad) n c) l ss) (hn : l.length = n) {k : Nat} (hk : k < n) {y : V} {s : Value} (hs : KAt W (fun b => w.heap.size + 3 ≤ b ∧ b < W.heap.size ∧ (Value.slice (some ad) n c).ownBlock ≠ some b) s y.ks)
   (hW : W' = (W.setCell (ad.add (k * 2)) (.int .i64 y.n)).setCell ⟨(ad.add (k * 2)).block, (ad.add (k * 2)).off + 1, none⟩ s) : SrtI W' w g5 x tc (.slice (some ad) n c) (l.set k y) (ss.set k s) := by
 obtain ⟨hr, hg⟩ := h.row.put hn hk hs hW
 have hb := (h.row.cells hn hk).1
 have ne : ∀ g, g < w.heap.size + 3 → some g ≠ some ad.block := fun g hg e => by injection e with e; omega
 refine ⟨h.b0.grown hg (ne _ (by omega)), h.b2.grown hg (ne _ (by omega)), h.b5.grown hg (fun e => h.h5 e.symm), hr, h.h5, h.h6, ?_⟩
 exact Below.grown h.bw hg h.bw.size (fun r e => by injection e with e; omega)
theorem SrtI.out (h : SrtI W w g5 x tc sv l ss) :
   KAt ((W.setCell ⟨w.heap.size + 1 + 1, 0, none⟩ (.int .i64 x)).setCell ⟨w.heap.size + 1 + 1, 1, none⟩ sv) (fun b => w.heap.size ≤ b ∧ b < ((W.setCell ⟨w.heap.size + 1 + 1, 0, none⟩ (.int .i64 x)).setCell ⟨w.heap.size + 1 + 1, 1, none⟩ sv).heap.size) sv l ∧
   Bw w ((W.setCell ⟨w.heap.size + 1 + 1, 0, none⟩ (.int .i64 x)).setCell ⟨w.heap.size + 1 + 1, 1, none⟩ sv) :=
 ⟨(h.row.kat (Nat.le_refl _)).keep (fun b hb => ⟨by have := hb.1; omega, by have := hb.2; simp [World.setCell]; exact this⟩) (fun p hp => by
   have hp1 := hp.1
   rw [World.cell?_setCell_other _ _ _ _ (by intro e; subst e; simp at hp1; omega), World.cell?_setCell_other _ _ _ _ (by intro e; subst e; simp at hp1; omega)]),
  (h.bw.setCell (p := ⟨w.heap.size + 1 + 1, 0, none⟩) (by dsimp only; omega) _).setCell (p := ⟨w.heap.size + 1 + 1, 1, none⟩) (by dsimp only; omega) _⟩
end
theorem SrtI.start {w w6 : World} {x : Int} {tc vc : Array Value} {s : Value} {l : List V} {ss : List Value}
   (hr : VRow w6 39 (((w.alloc (.cells tc 29)).alloc (.cells vc 39)).alloc (.cells #[.int .i64 0, .slice none 0 0] 39)).heap.size (((w.alloc (.cells tc 29)).alloc (.cells vc 39)).alloc (.cells #[.int .i64 0, .slice none 0 0] 39)).heap.size s l ss)
   (hg : Bw (((w.alloc (.cells tc 29)).alloc (.cells vc 39)).alloc (.cells #[.int .i64 0, .slice none 0 0] 39)) w6) : SrtI (w6.alloc (.cells #[.int .i64 x, s] 39)) w w6.heap.size x tc s l ss := by
 have b0 := ((Blk.new w 29 tc).alloc (.cells vc 39)).alloc (.cells #[.int .i64 0, .slice none 0 0] 39)
 have b2 := Blk.new ((w.alloc (.cells tc 29)).alloc (.cells vc 39)) 39 #[.int .i64 0, .slice none 0 0]
 have e : (((w.alloc (.cells tc 29)).alloc (.cells vc 39)).alloc (.cells #[.int .i64 0, .slice none 0 0] 39)).heap.size = w.heap.size + 3 := by simp
 have e2 : ((w.alloc (.cells tc 29)).alloc (.cells vc 39)).heap.size = w.heap.size + 1 + 1 := by simp
 rw [e] at hr
 rw [e2] at b2
 have hz := hg.size
 rw [e] at hz
 have g2 : Bw w (((w.alloc (.cells tc 29)).alloc (.cells vc 39)).alloc (.cells #[.int .i64 0, .slice none 0 0] 39)) := (((Bw.refl w).alloc _).alloc _).alloc _
 exact ⟨(b0.below hg.b b0.lt).alloc _, (b2.below hg.b b2.lt).alloc _, Blk.new _ _ _, hr.bw ((Bw.refl _).alloc _), fun e => by have := (hr.own.lt _ e).2; omega, hz, (g2.trans hg).alloc _⟩
theorem SrtI.at_ {W w : World} {g5 : Nat} {x : Int} {tc : Array Value} {ad : Addr} {n c : Nat} {l : List V} {ss : List Value} (h : SrtI W w g5 x tc (.slice (some ad) n c) l ss) (hn : l.length = n) {k : Nat} (hk : k < n) :
   W.cell? (ad.add (k * 2)) = some (.int .i64 (l[k]'(by omega)).n) ∧ W.cell? ⟨(ad.add (k * 2)).block, (ad.add (k * 2)).off + 1, none⟩ = some (ss[k]'(by rw [h.row.len]; omega)) ∧ W.frozen? (ad.add (k * 2)) = false ∧ W.frozen? ⟨(ad.add (k * 2)).block, (ad.add (k * 2)).off + 1, none⟩ = false ∧ ad.block < W.heap.size ∧
   (∀ v, (W.setCell (ad.add (k * 2)) v).cell? ⟨(ad.add (k * 2)).block, (ad.add (k * 2)).off + 1, none⟩ = some (ss[k]'(by rw [h.row.len]; omega))) := by
 obtain ⟨_, h2, q0, q1, q2, q3⟩ := h.row.cells hn hk
 exact ⟨q0, q1, q2, q3, h2, fun v => (World.cell?_setCell_other _ _ _ _ (fun e => by have := congrArg Addr.off e; simp at this)).trans q1⟩
theorem SrtI.at2 {W w : World} {g5 : Nat} {x : Int} {tc : Array Value} {ad : Addr} {n c : Nat} {l : List V} {ss : List Value} (h : SrtI W w g5 x tc (.slice (some ad) n c) l ss) (hn : l.length = n) {k : Nat} (hk : k < n) :
   (∃ u, W.cell? (ad.add (k * 2)) = some u) ∧ (∃ u, W.cell? ⟨(ad.add (k * 2)).block, (ad.add (k * 2)).off + 1, none⟩ = some u) ∧ W.frozen? (ad.add (k * 2)) = false ∧ W.frozen? ⟨(ad.add (k * 2)).block, (ad.add (k * 2)).off + 1, none⟩ = false ∧ ad.block < W.heap.size ∧
   (∃ u, ∀ v, (W.setCell (ad.add (k * 2)) v).cell? ⟨(ad.add (k * 2)).block, (ad.add (k * 2)).off + 1, none⟩ = some u) := by
 obtain ⟨q0, q1, q2, q3, q4, q5⟩ := h.at_ hn hk
 exact ⟨⟨_, q0⟩, ⟨_, q1⟩, q2, q3, q4, _, q5⟩
theorem SrtI.fresh {W w w7 : World} {g5 : Nat} {x : Int} {tc : Array Value} {sv s : Value} {l ks : List V} {ss : List Value} (h : SrtI W w g5 x tc sv l ss) (hk : KAt w7 (fun b => W.drew.heap.size ≤ b ∧ b < w7.heap.size) s ks) : KAt w7 (fun b => w.heap.size + 3 ≤ b ∧ b < w7.heap.size ∧ sv.ownBlock ≠ some b) s ks :=
 hk.keep (fun b hb => by
   have h1 : W.heap.size ≤ b := hb.1
   have h2 := h.h6
   have h3 := h.b5.lt
   exact ⟨by omega, hb.2, fun e => by have := (h.row.own.lt b e).2; omega⟩) (fun _ _ => rfl)
def SrtSays (t : T) (f : V → V) : Prop := ∀ (v : V) (rv pv s : Value) (W : World), v.size ≤ 1000000 → TB W W.heap.size rv pv t → KB W W.heap.size s v.ks → Calls Tryz.prog 85 #[aggT t rv pv, aggV v s] W (ValPost W (f v))
theorem r6sorted_k3 (t : T) (f : T → V → V) (hk : t.kind = 3) (ih : ∀ p ∈ t.parts, SrtSays p (f p)) : SrtSays t (fun v => .mk v.n (srtK f t v.ks)) := by
 intro v rv pv s w h9 hT h
 obtain ⟨A, n, c, rfl, ln, bn, mn⟩ := h.form
 obtain ⟨A1, rn, c1, rfl, _, _⟩ := hT.1.form'
 obtain ⟨A2, pn, c2, rfl, ln2, bn2, mn2⟩ := hT.2.form
 unfold maxLen at mn mn2
 have HIH := Lib.hid ih
 have HP := Lib.hid hT.2
 have LN := Lib.hid ln
 have LN2 := Lib.hid ln2
 have h10 : v.ks.length ≤ 1000000 := by have := sizeL_length v.ks; have := v.size_eq; omega
 rw [ln] at h10
 have CP := Lib.hid (fun W (g : Bw w W) => r6CopyS_any v h9 _ W (h.bw g))
 have H9 := Lib.hid h9
 unfold ValPost aggT aggV
 show Calls _ _ _ _ (fun e w' => ∃ s, e = .returned (.agg #[.int .i64 v.n, s]) ∧ KAt w' (fun b => w.heap.size ≤ b ∧ b < w'.heap.size) s (srtK f t v.ks) ∧ Bw w w')
 have HSA : Hid (∀ k y, srtAt f t k y = (t.parts[k]?).elim y (fun p => f p y)) := Lib.hid (fun k y => by unfold srtAt; rw [if_pos hk])
 rw [hk]
 unfold RowPost at CP
 have HB1 : Hid (Bw w (((w.alloc (.cells #[.int .i64 3, .int .i64 t.size, .slice A1 rn c1, .slice A2 pn c2] 29)).alloc (.cells #[.int .i64 v.n, .slice A n c] 39)).alloc (.cells #[.int .i64 0, .slice none 0 0] 39))) := Lib.hid ((((Bw.refl _).alloc _).alloc _).alloc _)
 clear h hT ln hk ih ln2 h9
 generalize v.n = x at *
 generalize t.size = z at *
 go_enter Tryz.func85, Tryz.ntmps85
 go_wp2_with (go_at_call 117; go_must (refine (CP.out _ HB1.out).mono ?_; rintro e w6 ⟨s6, ss6, rfl, hr6, hg6⟩; obtain ⟨VA, vc, rfl, vb1, vb2⟩ := hr6.form; (have HST := Lib.hid (SrtI.start (x := x) hr6 hg6)); clear hr6 hg6))
 generalize hg5 : w6.heap.size = g5 at *
 clear hg5
 have LNN := LN.out
 rw [LNN] at HST ⊢
 clear LNN
 go_loopw [6] (fun i wr => ∃ k : Nat, k ≤ n ∧ i = .int .i64 k ∧ Hid (∃ ss, SrtI wr w g5 x #[.int .i64 3, .int .i64 z, .slice A1 rn c1, .slice A2 pn c2] (.slice VA n vc) (srtTo f t v.ks k) ss)) (fun i _ => n - (intOf i).toNat)
 case atStart => exact ⟨0, by omega, by go_num, Lib.hid ⟨ss6, by rw [srtTo_zero]; exact HST.out⟩⟩
 case round =>
   obtain ⟨k, hk, rfl, HR⟩ := hrel
   obtain ⟨ss, hI⟩ := HR.out
   have HI := Lib.hid hI
   have y0 := hI.b0.cell 0
   have y3 := hI.b0.cell 3
   have y5 := hI.b5.cell 1
   have z0 := hI.b0.lt
   have z5 := hI.b5.lt
   have hll : (srtTo f t v.ks k).length = n := by rw [srtTo_length f t v.ks (by rw [LN.out]; exact hk)]; exact LN.out
   by_cases hlt : k < n
   · have e1 : k < v.ks.length := by rw [LN.out]; exact hlt
     obtain ⟨g, eg, -⟩ := own_at (hll ▸ hI.row.own) (by omega : 0 < n)
     obtain ⟨ad, rfl⟩ : ∃ ad, VA = some ad := ⟨_, eg⟩
     clear eg
     by_cases hp : k < pn
     · have d1 : decide ((k : Int) < (pn : Int)) = true := by simpa using hp
       have e2 : k < t.parts.length := by rw [LN2.out]; exact hp
       obtain ⟨q0, q1, q2, q3, q4, q5⟩ := hI.at_ hll hlt
       rw [srtTo_get f t v.ks e1] at q0
       have hkid := hI.row.kid k (by omega) (by rw [hI.row.len]; omega)
       rw [srtTo_get f t v.ks e1] at hkid
       obtain ⟨sA, sn, sc, es, _, _, _⟩ := hkid.form
       rw [es] at q1 q5 hkid
       obtain ⟨ad2, A3, n3, c3, A4, n4, c4, rfl, hb2, u0, u1, u2, u3, hT2⟩ := (HP.out.bw hI.bw).at_ e2
       have CM : Hid (∀ W, Bw wr W → Calls Tryz.prog 85 #[.agg #[.int .i64 t.parts[k].kind, .int .i64 t.parts[k].size, .slice A3 n3 c3, .slice A4 n4 c4], .agg #[.int .i64 v.ks[k].n, .slice sA sn sc]] W (ValPost W (f t.parts[k] v.ks[k]))) := Lib.hid (fun W g => HIH.out _ (List.getElem_mem e2) _ _ _ _ W (by have := V.size_kid (List.getElem_mem e1); have := H9.out; omega) (TAt.bw hT2 g) (KAt.bw (hkid.keep (fun b hb => hb.2.1) (fun _ _ => rfl)) g))
       have HS2 : Hid (srtTo f t v.ks (k + 1) = (srtTo f t v.ks k).set k (f t.parts[k] v.ks[k])) := Lib.hid (by
         rw [← srtTo_set f t v.ks e1, HSA.out, List.getElem?_eq_getElem e2]; rfl)
       have HLL := Lib.hid hll
       have HKI := Lib.hid (show ∀ W', Bw wr W' → (W'.cell? ⟨w.heap.size, 0, none⟩ = some (.int .i64 3) ∧ W'.cell? ⟨w.heap.size, 3, none⟩ = some (.slice (some ad2) pn c2) ∧ W'.cell? ⟨g5, 1, none⟩ = some (.slice (some ad) n vc) ∧ w.heap.size < W'.heap.size ∧ g5 < W'.heap.size) ∧ SrtI W' w g5 x #[.int .i64 3, .int .i64 z, .slice A1 rn c1, .slice (some ad2) pn c2] (.slice (some ad) n vc) (srtTo f t v.ks k) ss from fun W' g => by
         have h2 := HI.out.keep g
         exact ⟨⟨h2.b0.cell 0, h2.b0.cell 3, h2.b5.cell 1, h2.b0.lt, h2.b5.lt⟩, h2⟩)
       unfold ValPost at CM
       clear hkid es hT2 hI HR hll
       generalize hy : f t.parts[k] v.ks[k] = y at *
       clear hy
       obtain ⟨yn, hyn⟩ : ∃ yn, y.n = yn := ⟨_, rfl⟩
       rw [hyn] at CM
       have HYN := Lib.hid hyn
       clear hyn
       generalize v.ks[k].n = xk at *
       generalize t.parts[k].kind = pk at *
       generalize t.parts[k].size = pz at *
       have dz : (0 : Int) ≤ (k : Int) := by omega
       have dz1 : (k : Int) < (n : Int) := by omega
       have dz2 : (k : Int) < (pn : Int) := by omega
       go_upto_region 6 with fail
       go_cut [] from 11 to 64 (fun wx => Hid (∃ ss, SrtI wx w g5 x #[.int .i64 3, .int .i64 z, .slice A1 rn c1, .slice (some ad2) pn c2] (.slice (some ad) n vc) (srtTo f t v.ks (k + 1)) ss))
       case first =>
         have CM2 : Hid (Calls Tryz.prog 85 #[.agg #[.int .i64 pk, .int .i64 pz, .slice A3 n3 c3, .slice A4 n4 c4], .agg #[.int .i64 xk, .slice sA sn sc]] wr.drew _) := Lib.hid (CM.out _ (Bw.refl _).drew)
         clear CM
         go_region_law (go_simp; go_at_call 85; go_must (refine CM2.out.mono ?_; rintro e7 w7 ⟨s7, rfl, hk7, hg7⟩; obtain ⟨A7, n7, c7, rfl, ln7, _, _⟩ := hk7.form; have hg7' : Bw wr w7 := (Bw.refl _).drew.trans hg7; obtain ⟨⟨r0, r1, r2, r3, r4⟩, r5⟩ := HKI.out _ hg7'; obtain ⟨⟨j0', j0⟩, ⟨j1', j1⟩, j2, j3, j4, ⟨j5', j5⟩⟩ := r5.at2 HLL.out hlt; have HRES : Hid (∃ ss, SrtI ((w7.setCell (ad.add (k * 2)) (.int .i64 yn)).setCell ⟨(ad.add (k * 2)).block, (ad.add (k * 2)).off + 1, none⟩ (.slice A7 n7 c7)) w g5 x #[.int .i64 3, .int .i64 z, .slice A1 rn c1, .slice (some ad2) pn c2] (.slice (some ad) n vc) (srtTo f t v.ks (k + 1)) ss) := Lib.hid ⟨ss.set k (.slice A7 n7 c7), by rw [HS2.out]; exact r5.put HLL.out hlt (y := y) (s := .slice A7 n7 c7) (HI.out.fresh hk7) (by rw [HYN.out])⟩; clear hk7 hg7 ln7 r5 hg7'))
         all_goals
           go_wp2_with fail
           go_meet
           exact HRES
       case rest =>
         have HC := hcut
         obtain ⟨ss2, hI2⟩ := HC.out
         have HI2 := Lib.hid hI2
         have y0 := hI2.b0.cell 0
         have z0 := hI2.b0.lt
         clear hI2 HC hcut
         go_wp2
         go_roundw
         case rel => exact ⟨k + 1, by omega, by go_num, Lib.hid ⟨ss2, HI2.out⟩⟩
         case measure => simp [intOf]; omega
     · have d1 : decide ((k : Int) < (pn : Int)) = false := by simpa using hp
       have HS2 : Hid (srtTo f t v.ks (k + 1) = srtTo f t v.ks k) := Lib.hid (by
         rw [← srtTo_set f t v.ks e1, HSA.out, List.getElem?_eq_none (by rw [LN2.out]; omega)]
         show (srtTo f t v.ks k).set k v.ks[k] = _
         conv => lhs; rw [← srtTo_get f t v.ks e1]
         exact List.set_getElem_self _)
       clear hI HR hll
       go_wp2
       go_roundw
       case rel => exact ⟨k + 1, by omega, by go_num, Lib.hid ⟨ss, by rw [HS2.out]; exact HI.out⟩⟩
       case measure => simp [intOf]; omega
   · obtain rfl : k = n := by omega
     have e0 := hI.b5.cell 0
     have e2 := hI.b2.cell 0
     have e3 := hI.b2.cell 1
     have f2 := hI.b2.frozen 0
     have f3 := hI.b2.frozen 1
     have HBB := Lib.hid (blk_set (i := 1) (.slice VA k vc) (blk_set (i := 0) (.int .i64 x) hI.b2))
     clear hI HR
     go_wp2
     refine bodyPost_ret (results_cell_row (p := 4) (ty := 39) rfl _ _ (w.heap.size + 1 + 1) 39 _ (0, 0) _ rfl HBB.out Tryz.underlying39 rfl (by kernel_rfl)) rfl ?_
     have := HI.out.out
     rw [srtTo_all f t v.ks (by rw [LN.out]; omega)] at this
     exact ⟨_, rfl, this.1, this.2⟩
end Go.Proofs.YtbmheekaclmibaaGreat
