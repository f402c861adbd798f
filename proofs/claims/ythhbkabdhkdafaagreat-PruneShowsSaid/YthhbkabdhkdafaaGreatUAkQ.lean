/- Part of a proof of pruneShows_holds. -/
import Derived.Test.YthhbkabdhkdafaaGreatUAjQ
import Derived.Test.YthhbkabdhkdafaaGreatUAgQ
set_option linter.unusedSimpArgs false
set_option linter.unusedVariables false
namespace Go.Proofs.YthhbkabdhkdafaaGreat
section
open Go.RowKit
section
variable {w : World} {S : Nat → Prop}
theorem IAt.part {A : Option Addr} {n c : Nat} {l : List Int} (h : IAt w S (.slice A n c) l) {k m : Nat} (hk : k ≤ m) (hm : m ≤ n) : IAt w S (sliced A k m c 1) ((l.take m).drop k) := by
 obtain ⟨A', n', c', e, h2, h3, h4, h5⟩ := h
 injection e with e1 e2 e3
 subst e1 e2 e3
 refine ⟨_, _, _, rfl, by simp; omega, by omega, by omega, fun hn => ?_⟩
 obtain ⟨ad, rfl, h6, h7⟩ := h5 (by omega)
 rw [if_neg (by omega)]
 refine ⟨ad.add (k * 1), rfl, by rw [add_block]; exact h6, fun j hj => ?_⟩
 have hj' : k + j < l.length := by simp at hj; omega
 have := h7 (k + j) hj'
 rw [add_of_add, Nat.mul_one, this]
 simp [List.getElem_drop, List.getElem_take]
theorem KAt.part {A : Option Addr} {n c : Nat} {l : List V} (h : KAt w S (.slice A n c) l) {k m : Nat} (hk : k ≤ m) (hm : m ≤ n) : KAt w S (sliced A k m c 2) ((l.take m).drop k) := by
 cases h with
 | mk _ _ _ _ ss hl hs hc hm' ha hkk =>
   refine .mk _ _ _ _ ((ss.take m).drop k) (by simp; omega) (by simp; omega) (by omega) (by omega) (fun hn => ?_) (fun j h1 h2 => ?_)
   · obtain ⟨ad, rfl, h6, h7⟩ := ha (by omega)
     rw [if_neg (by omega)]
     refine ⟨ad.add (k * 2), rfl, by rw [add_block]; exact h6, fun j h1 h2 => ?_⟩
     have hj' : k + j < l.length := by simp at h1; omega
     have := h7 (k + j) hj' (by omega)
     rw [add_of_add, show k * 2 + j * 2 = (k + j) * 2 by omega, this.1, this.2]
     simp [List.getElem_drop, List.getElem_take]
   · have := hkk (k + j) (by simp at h1; omega) (by simp at h2; omega)
     simpa [List.getElem_drop, List.getElem_take] using this
end
theorem sliced_form (A : Option Addr) (k m c s : Nat) : ∃ A1, sliced A k m c s = .slice A1 (m - k) (c - k) := ⟨_, rfl⟩
theorem cutI_l (A : Option Addr) (n c k : Nat) (h : k ≤ n) (W : World) : (Instr.slice 27 (.slice A n c) (some (.int .i64 (k : Int))) none none).run Tryz.prog W = .ok (sliced A k n c 1) W := by
 rw [run_slice_l W 27 A n c (by kernel_rfl) .i64 (k : Int) (by omega) (by omega)]
 have : (sizeOf (Tryz.prog.elem 27)).run Tryz.prog W = .ok 1 W := by kernel_rfl
 rw [this]; simp [Result.andThen]
theorem cutV_l (A : Option Addr) (n c k : Nat) (h : k ≤ n) (W : World) : (Instr.slice 29 (.slice A n c) (some (.int .i64 (k : Int))) none none).run Tryz.prog W = .ok (sliced A k n c 2) W := by
 rw [run_slice_l W 29 A n c (by kernel_rfl) .i64 (k : Int) (by omega) (by omega)]
 have : (sizeOf (Tryz.prog.elem 29)).run Tryz.prog W = .ok 2 W := by kernel_rfl
 rw [this]; simp [Result.andThen]
theorem infoVal : (Tryz.prog.info? 31).map (fun i => (i.zero, i.size, i.bytes)) = some (some (.agg #[.int .i64 0, .slice none 0 0]), 2, 32) := by kernel_rfl
theorem infoType : (Tryz.prog.info? 50).map (fun i => (i.zero, i.size, i.bytes)) = some (some (.agg #[.int .i64 0, .int .i64 0, .slice none 0 0, .slice none 0 0]), 4, 64) := by kernel_rfl

theorem own_bounds {w : World} {base : Nat} {e : TypeId} {size n : Nat} {v : Value} {xs : List Value} (h : w.ownsRow base e size v n xs) : ∃ A c, v = .slice A n c ∧ n ≤ c ∧ c ≤ maxLen := by
 rcases h.2 with ⟨rfl, rfl⟩ | ⟨g, cap, cur, rfl, _, _, h3, h4, _⟩
 · exact ⟨none, 0, rfl, Nat.le_refl _, Nat.zero_le _⟩
 · exact ⟨_, _, rfl, h3, h4⟩
theorem own_at {w : World} {base : Nat} {e : TypeId} {size n : Nat} {A : Option Addr} {c : Nat} {xs : List Value} (h : w.ownsRow base e size (.slice A n c) n xs) (hn : 0 < n) : ∃ g, A = some ⟨g, 0, none⟩ ∧ (Value.slice A n c).ownBlock = some g ∧ base ≤ g ∧ g < w.heap.size ∧ ∀ j u, xs[j]? = some u → w.cell? ((⟨g, 0, none⟩ : Addr).add j) = some u := by
 obtain ⟨g, cap, hv, hb, hlt⟩ := h.form hn
 injection hv with e1 _ _
 subst e1
 exact ⟨g, rfl, rfl, hb, hlt, h.cells (g := g) rfl⟩
theorem IAt.reads {w : World} {B n c : Nat} {A : Option Addr} {cs : List Int} (h : IB w B (.slice A n c) cs) : Reads w B 1 A n (intVs cs) := by
 obtain ⟨A', n', c', e, h2, h3, h4, h5⟩ := h
 injection e with e1 e2 e3
 subst e1 e2 e3
 refine ⟨by simp [intVs]; omega, fun hn => ?_⟩
 obtain ⟨ad, rfl, h6, h7⟩ := h5 hn
 refine ⟨ad, rfl, h6, fun j u hu => ?_⟩
 have hj : j < cs.length := by
   rcases Nat.lt_or_ge j cs.length with h | h
   · exact h
   · rw [List.getElem?_eq_none (by simp [intVs]; omega)] at hu; cases hu
 rw [h7 j hj]
 simpa [intVs, hj] using hu
theorem intVs_append (a b : List Int) : intVs a ++ intVs b = intVs (a ++ b) := by simp [intVs]

def vCells : List V → List Value → List Value
 | v :: l, s :: ss => .int .i64 v.n :: s :: vCells l ss
 | _, _ => []
theorem vCells_append : ∀ {l : List V} {ss : List Value} (l' : List V) (ss' : List Value), ss.length = l.length → vCells (l ++ l') (ss ++ ss') = vCells l ss ++ vCells l' ss'
 | [], [], _, _, _ => rfl
 | [], _ :: _, _, _, h => by simp at h
 | _ :: _, [], _, _, h => by simp at h
 | _ :: l, _ :: ss, l', ss', h => by simp [vCells, vCells_append (l := l) (ss := ss) l' ss' (by simpa using h)]
theorem vCells_at : ∀ {l : List V} {ss : List Value} {k : Nat} (h : k < l.length) (h' : k < ss.length), (vCells l ss)[k * 2]? = some (.int .i64 l[k].n) ∧ (vCells l ss)[k * 2 + 1]? = some ss[k]
 | v :: l, s :: ss, 0, _, _ => by simp [vCells]
 | v :: l, s :: ss, k + 1, h, h' => by
   have := vCells_at (l := l) (ss := ss) (k := k) (by simpa using h) (by simpa using h')
   simp only [vCells, List.getElem_cons_succ, Nat.add_mul, Nat.one_mul]
   exact this
theorem own_KAt {w : World} {base : Nat} {e : TypeId} {v : Value} {l : List V} {ss : List Value} {n : Nat} {S : Nat → Prop} (h : w.ownsRow base e 2 v n (vCells l ss)) (hn : l.length = n) (hss : ss.length = n) (hk : ∀ k (h : k < l.length) (h' : k < ss.length), KAt w S ss[k] l[k].ks) :
   KAt w (fun b => S b ∨ v.ownBlock = some b) v l := by
 subst hn
 obtain ⟨A, c, rfl, h1, h2⟩ := own_bounds h
 refine .mk A _ c l ss rfl hss h1 h2 (fun hn => ?_) (fun k h h' => (hk k h h').keep (fun b hb => .inl hb) (fun _ _ => rfl))
 obtain ⟨g, rfl, h3, h4, h5, h6⟩ := own_at h hn
 refine ⟨_, rfl, .inr h3, fun k hk hk' => ?_⟩
 have h7 := vCells_at hk hk'
 have h8 := h6 _ _ h7.1
 have h9 := h6 _ _ h7.2
 refine ⟨h8, ?_⟩
 rw [← h9]
 congr 1
 unfold Addr.add
 by_cases h0 : k * 2 = 0 <;> simp [h0]
structure VRow (w : World) (e L B : Nat) (v : Value) (l : List V) (ss : List Value) : Prop where
 own : w.ownsRow B e 2 v l.length (vCells l ss)
 len : ss.length = l.length
 kid : ∀ k (h : k < l.length) (h' : k < ss.length), KAt w (fun b => L ≤ b ∧ b < w.heap.size ∧ v.ownBlock ≠ some b) ss[k] l[k].ks
section
variable {w w' A W : World} {e L B : Nat} {v v' : Value} {l : List V} {ss : List Value}
theorem VRow.nil (w : World) (e L B : Nat) : VRow w e L B (.slice none 0 0) [] [] := ⟨World.ownsRow_nil _ _ _ _, rfl, fun k h => absurd h (by simp)⟩
theorem VRow.kat (h : VRow w e L B v l ss) (hL : L ≤ B) : KAt w (fun b => L ≤ b ∧ b < w.heap.size) v l :=
 (own_KAt h.own rfl h.len h.kid).keep (fun b hb => by
   rcases hb with hb | hb
   · exact ⟨hb.1, hb.2.1⟩
   · have := h.own.lt b hb; exact ⟨by omega, this.2⟩) (fun _ _ => rfl)
theorem VRow.keep (h : VRow A e L B v l ss) {row : Option Nat} (hg : A.grownBy W row) (hr : ∀ r, row = some r → v.ownBlock ≠ some r ∧ (r < L)) : VRow W e L B v l ss := by
 refine ⟨h.own.kept hg ?_, h.len, fun k h1 h2 => (h.kid k h1 h2).keep (fun b hb => ⟨hb.1, Nat.lt_of_lt_of_le hb.2.1 hg.size, hb.2.2⟩) (fun p hp => World.cell?_of_block (hg.block p.block hp.2.1 (fun e => by have := (hr _ e.symm).2; omega)))⟩
 rcases hv : v.ownBlock with _ | k
 · exact .inl rfl
 · right; intro e; exact (hr k e.symm).1 hv
theorem VRow.bw (h : VRow A e L B v l ss) (hg : Bw A W) : VRow W e L B v l ss := h.keep hg.gr (fun r e => by cases e)
theorem VRow.push (h : VRow A e L B v l ss) {x : V} {s : Value} (hs : KAt A (fun b => L ≤ b ∧ b < A.heap.size ∧ v.ownBlock ≠ some b) s x.ks) (hown : W.ownsRow B e 2 v' (l.length + 1) (vCells l ss ++ [.int .i64 x.n, s])) (hg : A.grownBy W v.ownBlock) (hv : v'.ownBlock = v.ownBlock ∨ v'.ownBlock = some A.heap.size) :
   VRow W e L B v' (l ++ [x]) (ss ++ [s]) := by
 have key : ∀ {s : Value} {ks : List V}, KAt A (fun b => L ≤ b ∧ b < A.heap.size ∧ v.ownBlock ≠ some b) s ks → KAt W (fun b => L ≤ b ∧ b < W.heap.size ∧ v'.ownBlock ≠ some b) s ks := fun h => h.keep (fun b hb => ⟨hb.1, Nat.lt_of_lt_of_le hb.2.1 hg.size, by
   rcases hv with e | e
   · rw [e]; exact hb.2.2
   · rw [e]; intro e2; injection e2 with e2; have := hb.2.1; omega⟩) (fun p hp => World.cell?_of_block (hg.block p.block hp.2.1 (fun e => hp.2.2 e.symm)))
 refine ⟨by rw [vCells_append _ _ h.len]; simpa [vCells] using hown, by simp [h.len], fun k h1 h2 => ?_⟩
 by_cases hk : k < l.length
 · have := key (h.kid k hk (by rw [h.len]; exact hk))
   rw [List.getElem_append_left hk, List.getElem_append_left (by rw [h.len]; exact hk)]
   exact this
 · obtain rfl : k = l.length := by simp at h1; omega
   have e1 : (l ++ [x])[l.length]'(by simp) = x := by simp
   have e2 : (ss ++ [s])[l.length]'(by simp [h.len]) = s := by simp [← h.len]
   rw [e1, e2]
   exact key hs
theorem VRow.form (h : VRow w e L B v l ss) : ∃ A c, v = .slice A l.length c ∧ l.length ≤ c ∧ c ≤ maxLen := own_bounds h.own
end
theorem one2 (x : Int) (A : Option Addr) (n c : Nat) : ∀ u ∈ [Value.int .i64 x, .slice A n c], u.oneCell' = true := by simp [Value.oneCell']
theorem reads_new2 (W : World) (t : TypeId) (x : Int) (s : Value) : Reads (W.alloc (.cells #[.int .i64 x, s] t)) (W.heap.size + 1) 2 (some ⟨W.heap.size, 0, none⟩) 1 [.int .i64 x, s] := reads_blk (n := 1) (Blk.new W t #[.int .i64 x, s]) (by omega) rfl
theorem own_new (w : World) (t : TypeId) (cs : Array Value) (size : Nat) {n : Nat} {xs : List Value} (h : cs.toList = xs) (hs : xs.length = n * size) (hn : n ≤ maxLen := by (unfold maxLen; omega)) : (w.alloc (.cells cs t)).ownsRow w.heap.size t size (.slice (some ⟨w.heap.size, 0, none⟩) n n) n xs := by
 refine ⟨hs, .inr ⟨w.heap.size, n, cs, rfl, Nat.le_refl _, heap_alloc_new w _, Nat.le_refl _, hn, ?_, ?_⟩⟩
 · rw [← hs, ← h]; simp
 · rw [h, List.take_of_length_le (by omega)]
abbrev VS := V × Value
def pCells (ps : List VS) : List Value := ps.flatMap fun p => [.int .i64 p.1.n, p.2]
theorem pCells_length (ps : List VS) : (pCells ps).length = ps.length * 2 := by
 induction ps with
 | nil => rfl
 | cons p r ih => simp [pCells] at ih ⊢; omega
theorem pCells_append (a b : List VS) : pCells (a ++ b) = pCells a ++ pCells b := by simp [pCells]
theorem pCells_cons (p : VS) (r : List VS) : pCells (p :: r) = .int .i64 p.1.n :: p.2 :: pCells r := rfl
theorem pCells_get : ∀ {ps : List VS} {k : Nat} (h : k < ps.length), (pCells ps)[k * 2]? = some (.int .i64 ps[k].1.n) ∧ (pCells ps)[k * 2 + 1]? = some ps[k].2
 | p :: r, 0, _ => by simp [pCells_cons]
 | p :: r, k + 1, h => by
   have := pCells_get (ps := r) (k := k) (by simpa using h)
   simp only [pCells_cons, Nat.add_mul, Nat.one_mul, List.getElem_cons_succ]
   exact this
theorem pCells_set : ∀ {ps : List VS} {k : Nat} (h : k < ps.length) (x : VS), ((pCells ps).set (k * 2) (.int .i64 x.1.n)).set (k * 2 + 1) x.2 = pCells (ps.set k x)
 | p :: r, 0, _, x => by simp [pCells_cons]
 | p :: r, k + 1, h, x => by
   have := pCells_set (ps := r) (k := k) (by simpa using h) x
   simp only [pCells_cons, Nat.add_mul, Nat.one_mul, List.set_cons_succ, ← this]
theorem pCells_take (ps : List VS) (k : Nat) : (pCells ps).take (k * 2) = pCells (ps.take k) := by
 induction ps generalizing k with
 | nil => simp [pCells]
 | cons p r ih =>
   cases k with
   | zero => simp [pCells]
   | succ k => simp [pCells_cons, Nat.add_mul, ih]
theorem vCells_pairs (ps : List VS) : vCells (ps.map (·.1)) (ps.map (·.2)) = pCells ps := by
 induction ps with
 | nil => rfl
 | cons p r ih => simp [vCells, pCells_cons, ih]
structure MRow (w : World) (L : Nat) (v : Value) (ps : List VS) : Prop where
 own : w.ownsRow L 31 2 v ps.length (pCells ps)
 kid : ∀ p ∈ ps, KAt w (· < L) p.2 p.1.ks
section
variable {w A W : World} {L : Nat} {v v' : Value} {ps : List VS}
theorem MRow.nil (w : World) (L : Nat) : MRow w L (.slice none 0 0) [] := ⟨World.ownsRow_nil _ _ _ _, fun p h => absurd h (by simp)⟩
theorem MRow.kat (h : MRow w L v ps) : KAt w (fun b => b < L ∨ v.ownBlock = some b) v (ps.map (·.1)) :=
 own_KAt (ss := ps.map (·.2)) (n := ps.length) (by rw [vCells_pairs]; exact h.own) (by simp) (by simp) (fun k h1 h2 => by
   have := h.kid (ps[k]'(by simpa using h1)) (List.getElem_mem _)
   simpa using this)
theorem MRow.kb (h : MRow w L v ps) (hL : L ≤ w.heap.size) : KB w w.heap.size v (ps.map (·.1)) :=
 h.kat.keep (fun b hb => by
   rcases hb with hb | hb
   · omega
   · exact (h.own.lt b hb).2) (fun _ _ => rfl)
theorem MRow.form (h : MRow w L v ps) : ∃ A c, v = .slice A ps.length c ∧ ps.length ≤ c ∧ c ≤ maxLen := own_bounds h.own
theorem MRow.keep (h : MRow A L v ps) {row : Option Nat} (hg : A.grownBy W row) (hL : L ≤ A.heap.size) (hr : ∀ r, row = some r → v.ownBlock ≠ some r ∧ L ≤ r) : MRow W L v ps := by
 refine ⟨h.own.kept hg ?_, fun p hp => (h.kid p hp).keep (fun b hb => hb) (fun q hq => World.cell?_of_block (hg.block q.block (by omega) (fun e => by have := (hr _ e.symm).2; omega)))⟩
 rcases hv : v.ownBlock with _ | k
 · exact .inl rfl
 · right; intro e; exact (hr k e.symm).1 hv
theorem MRow.bw (h : MRow A L v ps) (hg : Bw A W) (hL : L ≤ A.heap.size) : MRow W L v ps := h.keep hg.gr hL (fun r e => by cases e)
theorem MRow.turn {ps' : List VS} (h : MRow A L v ps) (hg : A.grownBy W v.ownBlock) (hL : L ≤ A.heap.size) (hown : W.ownsRow L 31 2 v' ps'.length (pCells ps')) (hk : ∀ p ∈ ps', p ∈ ps ∨ KAt A (· < L) p.2 p.1.ks) : MRow W L v' ps' := by
 refine ⟨hown, fun p hp => ?_⟩
 have h1 : KAt A (· < L) p.2 p.1.ks := by
   rcases hk p hp with h1 | h1
   · exact h.kid p h1
   · exact h1
 exact h1.keep (fun b hb => hb) (fun q hq => World.cell?_of_block (hg.block q.block (by omega) (fun e => by have := (h.own.lt _ e.symm).1; omega)))
theorem MRow.push (h : MRow A L v ps) (hL : L ≤ A.heap.size) {x : VS} (hs : KAt A (· < L) x.2 x.1.ks) (hown : W.ownsRow L 31 2 v' (ps.length + 1) (pCells ps ++ [.int .i64 x.1.n, x.2])) (hg : A.grownBy W v.ownBlock) : MRow W L v' (ps ++ [x]) :=
 h.turn hg hL (by rw [pCells_append]; simpa [pCells] using hown) (fun p hp => by
   rcases List.mem_append.1 hp with hp | hp
   · exact .inl hp
   · obtain rfl := List.mem_singleton.1 hp; exact .inr hs)
theorem MRow.at_ {B : Option Addr} {n c : Nat} (h : MRow w L (.slice B n c) ps) (hn : ps.length = n) {k : Nat} (hk : k < n) : ∃ g, B = some ⟨g, 0, none⟩ ∧ L ≤ g ∧ g < w.heap.size ∧
   w.cell? ((⟨g, 0, none⟩ : Addr).add (k * 2)) = some (.int .i64 (ps[k]'(by omega)).1.n) ∧ w.cell? ⟨g, k * 2 + 1, none⟩ = some (ps[k]'(by omega)).2 ∧ w.frozen? ((⟨g, 0, none⟩ : Addr).add (k * 2)) = false ∧ w.frozen? ⟨g, k * 2 + 1, none⟩ = false := by
 subst hn
 obtain ⟨g, rfl, h1, h2, h3, h4⟩ := own_at h.own (by omega)
 have h5 := pCells_get hk
 have e : (⟨g, 0, none⟩ : Addr).add (k * 2) = ⟨g, k * 2, none⟩ := by
   unfold Addr.add
   by_cases h0 : k * 2 = 0 <;> simp [h0]
 have e2 : (⟨g, 0, none⟩ : Addr).add (k * 2 + 1) = ⟨g, k * 2 + 1, none⟩ := by
   unfold Addr.add; simp
 refine ⟨g, rfl, h2, h3, h4 _ _ h5.1, ?_, ?_, h.own.frozenAt _⟩
 · rw [← e2]; exact h4 _ _ h5.2
 · rw [e]; exact h.own.frozenAt _
theorem MRow.cells {ad : Addr} {n c : Nat} (h : MRow w L (.slice (some ad) n c) ps) (hn : ps.length = n) {k : Nat} (hk : k < n) : L ≤ ad.block ∧ ad.block < w.heap.size ∧ ad = ⟨ad.block, 0, none⟩ ∧
   w.cell? (ad.add (k * 2)) = some (.int .i64 (ps[k]'(by omega)).1.n) ∧ w.cell? ⟨(ad.add (k * 2)).block, (ad.add (k * 2)).off + 1, none⟩ = some (ps[k]'(by omega)).2 ∧ w.frozen? (ad.add (k * 2)) = false ∧ w.frozen? ⟨(ad.add (k * 2)).block, (ad.add (k * 2)).off + 1, none⟩ = false := by
 obtain ⟨g, e, h1, h2, h3, h4, h5, h6⟩ := h.at_ hn hk
 injection e with e
 subst e
 have e : (⟨g, 0, none⟩ : Addr).add (k * 2) = ⟨g, k * 2, none⟩ := by
   unfold Addr.add
   by_cases h0 : k * 2 = 0 <;> simp [h0]
 exact ⟨h1, h2, rfl, h3, by rw [e]; exact h4, h5, by rw [e]; exact h6⟩
theorem MRow.put {ad : Addr} {n c : Nat} (h : MRow w L (.slice (some ad) n c) ps) (hn : ps.length = n) (hL : L ≤ w.heap.size) {k : Nat} (hk : k < n) {x : VS} (hx : x ∈ ps) {W : World}
   (hW : W = (w.setCell (ad.add (k * 2)) (.int .i64 x.1.n)).setCell ⟨(ad.add (k * 2)).block, (ad.add (k * 2)).off + 1, none⟩ x.2) : MRow W L (.slice (some ad) n c) (ps.set k x) ∧ w.grownBy W (some ad.block) := by
 subst hn
 subst hW
 obtain ⟨g, e, _⟩ := h.at_ rfl hk
 injection e with e
 subst e
 have h1 := h.own.stored (k * 2) (.int .i64 x.1.n)
 have h2 := h1.1.stored (k * 2 + 1) x.2
 rw [pCells_set hk] at h2
 have e : (⟨g, 0, none⟩ : Addr).add (k * 2) = ⟨g, k * 2, none⟩ := by
   unfold Addr.add
   by_cases h0 : k * 2 = 0 <;> simp [h0]
 have hg : w.grownBy ((w.setCell ⟨g, k * 2, none⟩ (.int .i64 x.1.n)).setCell ⟨g, k * 2 + 1, none⟩ x.2) (some g) := grownBy_setCell (p := ⟨g, k * 2 + 1, none⟩) h1.2 (.inl rfl) _
 rw [e]
 refine ⟨h.turn hg hL ?_ (fun p hp => .inl ?_), hg⟩
 · rw [List.length_set]; exact h2.1
 · rcases List.mem_or_eq_of_mem_set hp with hp | rfl
   · exact hp
   · exact hx
end
theorem zeroVal (w : World) : (zeroValue 31).run Tryz.prog w = .ok (.agg #[.int .i64 0, .slice none 0 0]) w := by kernel_rfl
def zVS : VS := (.mk 0 [], .slice none 0 0)
theorem zcells (n : Nat) : (Builtin.zeroCells (Value.agg #[.int .i64 0, .slice none 0 0]).cells n).toList = pCells (List.replicate n zVS) := by
 apply List.ext_getElem
 · rw [pCells_length]; simp [size_zeroCells, Value.cells]
 · intro i h1 h2
   have h3 : i < n * 2 := by rw [pCells_length] at h2; simpa using h2
   have h4 := pCells_get (ps := List.replicate n zVS) (k := i / 2) (by simp; omega)
   simp only [List.getElem_replicate] at h4
   have e := Nat.div_add_mod i 2
   rcases Nat.mod_two_eq_zero_or_one i with h0 | h0
   · have e1 : i / 2 * 2 = i := by omega
     rw [e1, List.getElem?_eq_getElem h2] at h4
     rw [Option.some.inj h4.1]
     simp [Builtin.zeroCells, Value.cells, h0, zVS]
   · have e1 : i / 2 * 2 + 1 = i := by omega
     rw [e1, List.getElem?_eq_getElem h2] at h4
     rw [Option.some.inj h4.2]
     simp [Builtin.zeroCells, Value.cells, h0, zVS]
end
end Go.Proofs.YthhbkabdhkdafaaGreat
