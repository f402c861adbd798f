/- Part of a proof of basisSets_holds. -/
import Derived.Test.YtbmheekaclmibaaGreatXOneCQ
set_option maxRecDepth 100000
set_option maxHeartbeats 16000000
namespace Go.Proofs.YtbmheekaclmibaaGreat
open Go.RowKit
set_option linter.unusedSimpArgs false
set_option linter.unusedVariables false
theorem infoInt : (Tryz.prog.info? 3).map (fun i => (i.zero, i.size, i.bytes)) = some (some (.int .i64 0), 1, 8) := by kernel_rfl
theorem infoVal : (Tryz.prog.info? 39).map (fun i => (i.zero, i.size, i.bytes)) = some (some (.agg #[.int .i64 0, .slice none 0 0]), 2, 32) := by kernel_rfl
theorem infoTree : (Tryz.prog.info? 95).map (fun i => (i.zero, i.size, i.bytes)) = some (some (.agg #[.int .i64 0, .slice none 0 0]), 2, 32) := by kernel_rfl
theorem infoType : (Tryz.prog.info? 29).map (fun i => (i.zero, i.size, i.bytes)) = some (some (.agg #[.int .i64 0, .int .i64 0, .slice none 0 0, .slice none 0 0]), 4, 64) := by kernel_rfl

theorem own_base {w : World} {B B' e size n : Nat} {v : Value} {xs : List Value} (h : w.ownsRow B' e size v n xs) (hb : B ≤ B') : w.ownsRow B e size v n xs := by
 refine ⟨h.1, ?_⟩
 rcases h.2 with h2 | ⟨g, cap, cur, h1, h2, h3⟩
 · exact .inl h2
 · exact .inr ⟨g, cap, cur, h1, Nat.le_trans hb h2, h3⟩
theorem own_bounds {w : World} {base : Nat} {e : TypeId} {size n : Nat} {v : Value} {xs : List Value} (h : w.ownsRow base e size v n xs) : ∃ A c, v = .slice A n c ∧ n ≤ c ∧ c ≤ maxLen := by
 rcases h.2 with ⟨rfl, rfl⟩ | ⟨g, cap, cur, rfl, _, _, h3, h4, _⟩
 · exact ⟨none, 0, rfl, Nat.le_refl _, Nat.zero_le _⟩
 · exact ⟨_, _, rfl, h3, h4⟩
theorem own_at {w : World} {base : Nat} {e : TypeId} {size n : Nat} {A : Option Addr} {c : Nat} {xs : List Value} (h : w.ownsRow base e size (.slice A n c) n xs) (hn : 0 < n) : ∃ g, A = some ⟨g, 0, none⟩ ∧ (Value.slice A n c).ownBlock = some g ∧ base ≤ g ∧ g < w.heap.size ∧ ∀ j u, xs[j]? = some u → w.cell? ((⟨g, 0, none⟩ : Addr).add j) = some u := by
 obtain ⟨g, cap, hv, hb, hlt⟩ := h.form hn
 injection hv with e1 _ _
 subst e1
 exact ⟨g, rfl, rfl, hb, hlt, h.cells (g := g) rfl⟩
def intVs (cs : List Int) : List Value := cs.map (Value.int .i64)
theorem own_IAt {w : World} {base : Nat} {e : TypeId} {v : Value} {cs : List Int} {n : Nat} (h : w.ownsRow base e 1 v n (intVs cs)) (hn : cs.length = n) : IAt w (fun b => v.ownBlock = some b) v cs := by
 subst hn
 obtain ⟨A, c, rfl, h1, h2⟩ := own_bounds h
 refine ⟨A, _, c, rfl, rfl, h1, h2, fun hn => ?_⟩
 obtain ⟨g, rfl, h3, h4, h5, h6⟩ := own_at h hn
 exact ⟨_, rfl, h3, fun k hk => h6 k _ (by simp [intVs, hk])⟩
theorem own_IB {w : World} {base : Nat} {e : TypeId} {v : Value} {cs : List Int} {n : Nat} (h : w.ownsRow base e 1 v n (intVs cs)) (hn : cs.length = n) : IAt w (fun b => base ≤ b ∧ b < w.heap.size) v cs :=
 (own_IAt h hn).keep (fun b hb => h.lt b hb) (fun _ _ => rfl)
theorem IAt.reads {w : World} {B n c : Nat} {A : Option Addr} {cs : List Int} (h : IB w B (.slice A n c) cs) : Reads w B 1 A n (intVs cs) := by
 obtain ⟨A', n', c', e, h2, h3, h4, h5⟩ := h
 injection e with e1 e2 e3
 subst e1 e2 e3
 refine ⟨by simp [intVs]; omega, fun hn => ?_⟩
 obtain ⟨ad, rfl, h6, h7⟩ := h5 hn
 refine ⟨ad, rfl, h6, fun j u hu => ?_⟩
 have hj : j < cs.length := by
   rcases Nat.lt_or_ge j cs.length with h | h
   · exact h
   · rw [List.getElem?_eq_none (by simp [intVs]; omega)] at hu; cases hu
 rw [h7 j hj]
 simpa [intVs, hj] using hu
theorem intVs_one (cs : List Int) : ∀ u ∈ intVs cs, u.oneCell' = true := by
 intro u hu
 obtain ⟨x, _, rfl⟩ := List.mem_map.1 hu
 rfl
theorem intVs_append (a b : List Int) : intVs a ++ intVs b = intVs (a ++ b) := by simp [intVs]

def vCells : List V → List Value → List Value
 | v :: l, s :: ss => .int .i64 v.n :: s :: vCells l ss
 | _, _ => []
theorem vCells_append : ∀ {l : List V} {ss : List Value} (l' : List V) (ss' : List Value), ss.length = l.length → vCells (l ++ l') (ss ++ ss') = vCells l ss ++ vCells l' ss'
 | [], [], _, _, _ => rfl
 | [], _ :: _, _, _, h => by simp at h
 | _ :: _, [], _, _, h => by simp at h
 | _ :: l, _ :: ss, l', ss', h => by simp [vCells, vCells_append (l := l) (ss := ss) l' ss' (by simpa using h)]
theorem vCells_at : ∀ {l : List V} {ss : List Value} {k : Nat} (h : k < l.length) (h' : k < ss.length), (vCells l ss)[k * 2]? = some (.int .i64 l[k].n) ∧ (vCells l ss)[k * 2 + 1]? = some ss[k]
 | v :: l, s :: ss, 0, _, _ => by simp [vCells]
 | v :: l, s :: ss, k + 1, h, h' => by
   have := vCells_at (l := l) (ss := ss) (k := k) (by simpa using h) (by simpa using h')
   simp only [vCells, List.getElem_cons_succ, Nat.add_mul, Nat.one_mul]
   exact this
theorem own_KAt {w : World} {base : Nat} {e : TypeId} {v : Value} {l : List V} {ss : List Value} {n : Nat} {S : Nat → Prop} (h : w.ownsRow base e 2 v n (vCells l ss)) (hn : l.length = n) (hss : ss.length = n) (hk : ∀ k (h : k < l.length) (h' : k < ss.length), KAt w S ss[k] l[k].ks) :
   KAt w (fun b => S b ∨ v.ownBlock = some b) v l := by
 subst hn
 obtain ⟨A, c, rfl, h1, h2⟩ := own_bounds h
 refine .mk A _ c l ss rfl hss h1 h2 (fun hn => ?_) (fun k h h' => (hk k h h').keep (fun b hb => .inl hb) (fun _ _ => rfl))
 obtain ⟨g, rfl, h3, h4, h5, h6⟩ := own_at h hn
 refine ⟨_, rfl, .inr h3, fun k hk hk' => ?_⟩
 have h7 := vCells_at hk hk'
 have h8 := h6 _ _ h7.1
 have h9 := h6 _ _ h7.2
 refine ⟨h8, ?_⟩
 rw [← h9]
 congr 1
 unfold Addr.add
 by_cases h0 : k * 2 = 0 <;> simp [h0]
structure VRow (w : World) (e L B : Nat) (v : Value) (l : List V) (ss : List Value) : Prop where
 own : w.ownsRow B e 2 v l.length (vCells l ss)
 len : ss.length = l.length
 kid : ∀ k (h : k < l.length) (h' : k < ss.length), KAt w (fun b => L ≤ b ∧ b < w.heap.size ∧ v.ownBlock ≠ some b) ss[k] l[k].ks
section
variable {w w' A W : World} {e L B : Nat} {v v' : Value} {l : List V} {ss : List Value}
theorem VRow.nil (w : World) (e L B : Nat) : VRow w e L B (.slice none 0 0) [] [] := ⟨World.ownsRow_nil _ _ _ _, rfl, fun k h => absurd h (by simp)⟩
theorem VRow.kat (h : VRow w e L B v l ss) (hL : L ≤ B) : KAt w (fun b => L ≤ b ∧ b < w.heap.size) v l :=
 (own_KAt h.own rfl h.len h.kid).keep (fun b hb => by
   rcases hb with hb | hb
   · exact ⟨hb.1, hb.2.1⟩
   · have := h.own.lt b hb; exact ⟨by omega, this.2⟩) (fun _ _ => rfl)
theorem VRow.keep (h : VRow A e L B v l ss) {row : Option Nat} (hg : A.grownBy W row) (hr : ∀ r, row = some r → v.ownBlock ≠ some r ∧ (r < L)) : VRow W e L B v l ss := by
 refine ⟨h.own.kept hg ?_, h.len, fun k h1 h2 => (h.kid k h1 h2).keep (fun b hb => ⟨hb.1, Nat.lt_of_lt_of_le hb.2.1 hg.size, hb.2.2⟩) (fun p hp => World.cell?_of_block (hg.block p.block hp.2.1 (fun e => by have := (hr _ e.symm).2; omega)))⟩
 rcases hv : v.ownBlock with _ | k
 · exact .inl rfl
 · right; intro e; exact (hr k e.symm).1 hv
theorem VRow.bw (h : VRow A e L B v l ss) (hg : Bw A W) : VRow W e L B v l ss := h.keep hg.gr (fun r e => by cases e)
theorem VRow.push (h : VRow A e L B v l ss) {x : V} {s : Value} (hs : KAt A (fun b => L ≤ b ∧ b < A.heap.size ∧ v.ownBlock ≠ some b) s x.ks) (hown : W.ownsRow B e 2 v' (l.length + 1) (vCells l ss ++ [.int .i64 x.n, s])) (hg : A.grownBy W v.ownBlock) (hv : v'.ownBlock = v.ownBlock ∨ v'.ownBlock = some A.heap.size) :
   VRow W e L B v' (l ++ [x]) (ss ++ [s]) := by
 have key : ∀ {s : Value} {ks : List V}, KAt A (fun b => L ≤ b ∧ b < A.heap.size ∧ v.ownBlock ≠ some b) s ks → KAt W (fun b => L ≤ b ∧ b < W.heap.size ∧ v'.ownBlock ≠ some b) s ks := fun h => h.keep (fun b hb => ⟨hb.1, Nat.lt_of_lt_of_le hb.2.1 hg.size, by
   rcases hv with e | e
   · rw [e]; exact hb.2.2
   · rw [e]; intro e2; injection e2 with e2; have := hb.2.1; omega⟩) (fun p hp => World.cell?_of_block (hg.block p.block hp.2.1 (fun e => hp.2.2 e.symm)))
 refine ⟨by rw [vCells_append _ _ h.len]; simpa [vCells] using hown, by simp [h.len], fun k h1 h2 => ?_⟩
 by_cases hk : k < l.length
 · have := key (h.kid k hk (by rw [h.len]; exact hk))
   rw [List.getElem_append_left hk, List.getElem_append_left (by rw [h.len]; exact hk)]
   exact this
 · obtain rfl : k = l.length := by simp at h1; omega
   have e1 : (l ++ [x])[l.length]'(by simp) = x := by simp
   have e2 : (ss ++ [s])[l.length]'(by simp [h.len]) = s := by simp [← h.len]
   rw [e1, e2]
   exact key hs
theorem VRow.form (h : VRow w e L B v l ss) : ∃ A c, v = .slice A l.length c ∧ l.length ≤ c ∧ c ≤ maxLen := own_bounds h.own
end
theorem KAt.fresh {A : World} {L B : Nat} {v s : Value} {ks : List V} (h : KAt A (fun b => B ≤ b ∧ b < A.heap.size) s ks) (hL : L ≤ B) (hv : ∀ b, v.ownBlock = some b → b < B) : KAt A (fun b => L ≤ b ∧ b < A.heap.size ∧ v.ownBlock ≠ some b) s ks :=
 h.keep (fun b hb => ⟨by omega, hb.2, fun e => by have := hv b e; omega⟩) (fun _ _ => rfl)
theorem one2 (x : Int) (A : Option Addr) (n c : Nat) : ∀ u ∈ [Value.int .i64 x, .slice A n c], u.oneCell' = true := by simp [Value.oneCell']
theorem reads_blk {W : World} {g : Nat} {t : TypeId} {cs : Array Value} {B size n : Nat} (h : Blk W g t cs) (hg : g < B) (hl : cs.toList.length = n * size) : Reads W B size (some ⟨g, 0, none⟩) n cs.toList := by
 refine ⟨hl, fun _ => ⟨_, rfl, hg, fun j u hu => ?_⟩⟩
 have e : ((⟨g, 0, none⟩ : Addr).add j) = ⟨g, j, none⟩ := by
   unfold Addr.add
   by_cases h0 : j = 0 <;> simp [h0]
 rw [e, h.cell j]
 simpa using hu
theorem reads_new2 (W : World) (t : TypeId) (x : Int) (s : Value) : Reads (W.alloc (.cells #[.int .i64 x, s] t)) (W.heap.size + 1) 2 (some ⟨W.heap.size, 0, none⟩) 1 [.int .i64 x, s] := reads_blk (n := 1) (Blk.new W t #[.int .i64 x, s]) (by omega) rfl
theorem reads_new1 (W : World) (x : Int) : Reads (W.alloc (.cells #[.int .i64 x] 3)) (W.heap.size + 1) 1 (some ⟨W.heap.size, 0, none⟩) 1 [.int .i64 x] := reads_blk (n := 1) (Blk.new W 3 #[.int .i64 x]) (by omega) rfl
theorem own_new (w : World) (t : TypeId) (cs : Array Value) (size : Nat) {n : Nat} {xs : List Value} (h : cs.toList = xs) (hs : xs.length = n * size) (hn : n ≤ maxLen := by (unfold maxLen; omega)) : (w.alloc (.cells cs t)).ownsRow w.heap.size t size (.slice (some ⟨w.heap.size, 0, none⟩) n n) n xs := by
 refine ⟨hs, .inr ⟨w.heap.size, n, cs, rfl, Nat.le_refl _, heap_alloc_new w _, Nat.le_refl _, hn, ?_, ?_⟩⟩
 · rw [← hs, ← h]; simp
 · rw [h, List.take_of_length_le (by omega)]
abbrev VS := V × Value
def pCells (ps : List VS) : List Value := ps.flatMap fun p => [.int .i64 p.1.n, p.2]
theorem pCells_length (ps : List VS) : (pCells ps).length = ps.length * 2 := by
 induction ps with
 | nil => rfl
 | cons p r ih => simp [pCells] at ih ⊢; omega
theorem pCells_append (a b : List VS) : pCells (a ++ b) = pCells a ++ pCells b := by simp [pCells]
theorem pCells_cons (p : VS) (r : List VS) : pCells (p :: r) = .int .i64 p.1.n :: p.2 :: pCells r := rfl
theorem pCells_get : ∀ {ps : List VS} {k : Nat} (h : k < ps.length), (pCells ps)[k * 2]? = some (.int .i64 ps[k].1.n) ∧ (pCells ps)[k * 2 + 1]? = some ps[k].2
 | p :: r, 0, _ => by simp [pCells_cons]
 | p :: r, k + 1, h => by
   have := pCells_get (ps := r) (k := k) (by simpa using h)
   simp only [pCells_cons, Nat.add_mul, Nat.one_mul, List.getElem_cons_succ]
   exact this
theorem pCells_set : ∀ {ps : List VS} {k : Nat} (h : k < ps.length) (x : VS), ((pCells ps).set (k * 2) (.int .i64 x.1.n)).set (k * 2 + 1) x.2 = pCells (ps.set k x)
 | p :: r, 0, _, x => by simp [pCells_cons]
 | p :: r, k + 1, h, x => by
   have := pCells_set (ps := r) (k := k) (by simpa using h) x
   simp only [pCells_cons, Nat.add_mul, Nat.one_mul, List.set_cons_succ, ← this]
theorem pCells_take (ps : List VS) (k : Nat) : (pCells ps).take (k * 2) = pCells (ps.take k) := by
 induction ps generalizing k with
 | nil => simp [pCells]
 | cons p r ih =>
   cases k with
   | zero => simp [pCells]
   | succ k => simp [pCells_cons, Nat.add_mul, ih]
theorem vCells_pairs (ps : List VS) : vCells (ps.map (·.1)) (ps.map (·.2)) = pCells ps := by
 induction ps with
 | nil => rfl
 | cons p r ih => simp [vCells, pCells_cons, ih]
structure MRow (w : World) (L : Nat) (v : Value) (ps : List VS) : Prop where
 own : w.ownsRow L 39 2 v ps.length (pCells ps)
 kid : ∀ p ∈ ps, KAt w (· < L) p.2 p.1.ks
section
variable {w A W : World} {L : Nat} {v v' : Value} {ps : List VS}
theorem MRow.nil (w : World) (L : Nat) : MRow w L (.slice none 0 0) [] := ⟨World.ownsRow_nil _ _ _ _, fun p h => absurd h (by simp)⟩
theorem MRow.kat (h : MRow w L v ps) : KAt w (fun b => b < L ∨ v.ownBlock = some b) v (ps.map (·.1)) :=
 own_KAt (ss := ps.map (·.2)) (n := ps.length) (by rw [vCells_pairs]; exact h.own) (by simp) (by simp) (fun k h1 h2 => by
   have := h.kid (ps[k]'(by simpa using h1)) (List.getElem_mem _)
   simpa using this)
theorem MRow.kb (h : MRow w L v ps) (hL : L ≤ w.heap.size) : KB w w.heap.size v (ps.map (·.1)) :=
 h.kat.keep (fun b hb => by
   rcases hb with hb | hb
   · omega
   · exact (h.own.lt b hb).2) (fun _ _ => rfl)
theorem MRow.form (h : MRow w L v ps) : ∃ A c, v = .slice A ps.length c ∧ ps.length ≤ c ∧ c ≤ maxLen := own_bounds h.own
theorem MRow.keep (h : MRow A L v ps) {row : Option Nat} (hg : A.grownBy W row) (hL : L ≤ A.heap.size) (hr : ∀ r, row = some r → v.ownBlock ≠ some r ∧ L ≤ r) : MRow W L v ps := by
 refine ⟨h.own.kept hg ?_, fun p hp => (h.kid p hp).keep (fun b hb => hb) (fun q hq => World.cell?_of_block (hg.block q.block (by omega) (fun e => by have := (hr _ e.symm).2; omega)))⟩
 rcases hv : v.ownBlock with _ | k
 · exact .inl rfl
 · right; intro e; exact (hr k e.symm).1 hv
theorem MRow.bw (h : MRow A L v ps) (hg : Bw A W) (hL : L ≤ A.heap.size) : MRow W L v ps := h.keep hg.gr hL (fun r e => by cases e)
theorem MRow.turn {ps' : List VS} (h : MRow A L v ps) (hg : A.grownBy W v.ownBlock) (hL : L ≤ A.heap.size) (hown : W.ownsRow L 39 2 v' ps'.length (pCells ps')) (hk : ∀ p ∈ ps', p ∈ ps ∨ KAt A (· < L) p.2 p.1.ks) : MRow W L v' ps' := by
 refine ⟨hown, fun p hp => ?_⟩
 have h1 : KAt A (· < L) p.2 p.1.ks := by
   rcases hk p hp with h1 | h1
   · exact h.kid p h1
   · exact h1
 exact h1.keep (fun b hb => hb) (fun q hq => World.cell?_of_block (hg.block q.block (by omega) (fun e => by have := (h.own.lt _ e.symm).1; omega)))
theorem MRow.push (h : MRow A L v ps) (hL : L ≤ A.heap.size) {x : VS} (hs : KAt A (· < L) x.2 x.1.ks) (hown : W.ownsRow L 39 2 v' (ps.length + 1) (pCells ps ++ [.int .i64 x.1.n, x.2])) (hg : A.grownBy W v.ownBlock) : MRow W L v' (ps ++ [x]) :=
 h.turn hg hL (by rw [pCells_append]; simpa [pCells] using hown) (fun p hp => by
   rcases List.mem_append.1 hp with hp | hp
   · exact .inl hp
   · obtain rfl := List.mem_singleton.1 hp; exact .inr hs)
theorem MRow.take {B : Option Addr} {n c : Nat} (h : MRow w L (.slice B n c) ps) (hn : ps.length = n) {i : Nat} (hi : i ≤ n) : MRow w L (.slice B i c) (ps.take i) := by
 subst hn
 refine ⟨?_, fun p hp => h.kid p (List.mem_of_mem_take hp)⟩
 have hl : (ps.take i).length = i := by simp; omega
 rw [hl, ← pCells_take]
 obtain ⟨h1, h2⟩ := h.own
 refine ⟨by rw [List.length_take, pCells_length]; omega, ?_⟩
 rcases h2 with ⟨e, h0⟩ | ⟨g, cap, cur, e, h3, h4, h5, h6, h7, h8⟩
 · injection e with e1 e2 e3
   subst e1 e3
   obtain rfl : i = 0 := by omega
   exact .inl ⟨rfl, rfl⟩
 · injection e with e1 e2 e3
   subst e1 e3
   refine .inr ⟨g, _, cur, rfl, h3, h4, by omega, h6, h7, ?_⟩
   rw [← h8, List.take_take]
   congr 1; omega
theorem MRow.at_ {B : Option Addr} {n c : Nat} (h : MRow w L (.slice B n c) ps) (hn : ps.length = n) {k : Nat} (hk : k < n) : ∃ g, B = some ⟨g, 0, none⟩ ∧ L ≤ g ∧ g < w.heap.size ∧
   w.cell? ((⟨g, 0, none⟩ : Addr).add (k * 2)) = some (.int .i64 (ps[k]'(by omega)).1.n) ∧ w.cell? ⟨g, k * 2 + 1, none⟩ = some (ps[k]'(by omega)).2 ∧ w.frozen? ((⟨g, 0, none⟩ : Addr).add (k * 2)) = false ∧ w.frozen? ⟨g, k * 2 + 1, none⟩ = false := by
 subst hn
 obtain ⟨g, rfl, h1, h2, h3, h4⟩ := own_at h.own (by omega)
 have h5 := pCells_get hk
 have e : (⟨g, 0, none⟩ : Addr).add (k * 2) = ⟨g, k * 2, none⟩ := by
   unfold Addr.add
   by_cases h0 : k * 2 = 0 <;> simp [h0]
 have e2 : (⟨g, 0, none⟩ : Addr).add (k * 2 + 1) = ⟨g, k * 2 + 1, none⟩ := by
   unfold Addr.add; simp
 refine ⟨g, rfl, h2, h3, h4 _ _ h5.1, ?_, ?_, h.own.frozenAt _⟩
 · rw [← e2]; exact h4 _ _ h5.2
 · rw [e]; exact h.own.frozenAt _
theorem MRow.cells {ad : Addr} {n c : Nat} (h : MRow w L (.slice (some ad) n c) ps) (hn : ps.length = n) {k : Nat} (hk : k < n) : L ≤ ad.block ∧ ad.block < w.heap.size ∧ ad = ⟨ad.block, 0, none⟩ ∧
   w.cell? (ad.add (k * 2)) = some (.int .i64 (ps[k]'(by omega)).1.n) ∧ w.cell? ⟨(ad.add (k * 2)).block, (ad.add (k * 2)).off + 1, none⟩ = some (ps[k]'(by omega)).2 ∧ w.frozen? (ad.add (k * 2)) = false ∧ w.frozen? ⟨(ad.add (k * 2)).block, (ad.add (k * 2)).off + 1, none⟩ = false := by
 obtain ⟨g, e, h1, h2, h3, h4, h5, h6⟩ := h.at_ hn hk
 injection e with e
 subst e
 have e : (⟨g, 0, none⟩ : Addr).add (k * 2) = ⟨g, k * 2, none⟩ := by
   unfold Addr.add
   by_cases h0 : k * 2 = 0 <;> simp [h0]
 exact ⟨h1, h2, rfl, h3, by rw [e]; exact h4, h5, by rw [e]; exact h6⟩
theorem MRow.put {ad : Addr} {n c : Nat} (h : MRow w L (.slice (some ad) n c) ps) (hn : ps.length = n) (hL : L ≤ w.heap.size) {k : Nat} (hk : k < n) {x : VS} (hx : x ∈ ps) {W : World}
   (hW : W = (w.setCell (ad.add (k * 2)) (.int .i64 x.1.n)).setCell ⟨(ad.add (k * 2)).block, (ad.add (k * 2)).off + 1, none⟩ x.2) : MRow W L (.slice (some ad) n c) (ps.set k x) ∧ w.grownBy W (some ad.block) := by
 subst hn
 subst hW
 obtain ⟨g, e, _⟩ := h.at_ rfl hk
 injection e with e
 subst e
 have h1 := h.own.stored (k * 2) (.int .i64 x.1.n)
 have h2 := h1.1.stored (k * 2 + 1) x.2
 rw [pCells_set hk] at h2
 have e : (⟨g, 0, none⟩ : Addr).add (k * 2) = ⟨g, k * 2, none⟩ := by
   unfold Addr.add
   by_cases h0 : k * 2 = 0 <;> simp [h0]
 have hg : w.grownBy ((w.setCell ⟨g, k * 2, none⟩ (.int .i64 x.1.n)).setCell ⟨g, k * 2 + 1, none⟩ x.2) (some g) := grownBy_setCell (p := ⟨g, k * 2 + 1, none⟩) h1.2 (.inl rfl) _
 rw [e]
 refine ⟨h.turn hg hL ?_ (fun p hp => .inl ?_), hg⟩
 · rw [List.length_set]; exact h2.1
 · rcases List.mem_or_eq_of_mem_set hp with hp | rfl
   · exact hp
   · exact hx
theorem MRow.set_ {g n c : Nat} (h : MRow w L (.slice (some ⟨g, 0, none⟩) n c) ps) (hn : ps.length = n) (hL : L ≤ w.heap.size) {k : Nat} (hk : k < n) {x : VS} (hx : x ∈ ps) :
   MRow ((w.setCell ⟨g, k * 2, none⟩ (.int .i64 x.1.n)).setCell ⟨g, k * 2 + 1, none⟩ x.2) L (.slice (some ⟨g, 0, none⟩) n c) (ps.set k x) ∧ w.grownBy ((w.setCell ⟨g, k * 2, none⟩ (.int .i64 x.1.n)).setCell ⟨g, k * 2 + 1, none⟩ x.2) (some g) := by
 subst hn
 have h1 := h.own.stored (k * 2) (.int .i64 x.1.n)
 have h2 := h1.1.stored (k * 2 + 1) x.2
 rw [pCells_set hk] at h2
 have hg : w.grownBy ((w.setCell ⟨g, k * 2, none⟩ (.int .i64 x.1.n)).setCell ⟨g, k * 2 + 1, none⟩ x.2) (some g) := grownBy_setCell (p := ⟨g, k * 2 + 1, none⟩) h1.2 (.inl rfl) _
 refine ⟨h.turn hg hL ?_ (fun p hp => .inl ?_), hg⟩
 · rw [List.length_set]; exact h2.1
 · rcases List.mem_or_eq_of_mem_set hp with hp | rfl
   · exact hp
   · exact hx
end
theorem zeroVal (w : World) : (zeroValue 39).run Tryz.prog w = .ok (.agg #[.int .i64 0, .slice none 0 0]) w := by kernel_rfl
def zVS : VS := (.mk 0 [], .slice none 0 0)
theorem zcells (n : Nat) : (Builtin.zeroCells (Value.agg #[.int .i64 0, .slice none 0 0]).cells n).toList = pCells (List.replicate n zVS) := by
 apply List.ext_getElem
 · rw [pCells_length]; simp [size_zeroCells, Value.cells]
 · intro i h1 h2
   have h3 : i < n * 2 := by rw [pCells_length] at h2; simpa using h2
   have h4 := pCells_get (ps := List.replicate n zVS) (k := i / 2) (by simp; omega)
   simp only [List.getElem_replicate] at h4
   have e := Nat.div_add_mod i 2
   rcases Nat.mod_two_eq_zero_or_one i with h0 | h0
   · have e1 : i / 2 * 2 = i := by omega
     rw [e1, List.getElem?_eq_getElem h2] at h4
     rw [Option.some.inj h4.1]
     simp [Builtin.zeroCells, Value.cells, h0, zVS]
   · have e1 : i / 2 * 2 + 1 = i := by omega
     rw [e1, List.getElem?_eq_getElem h2] at h4
     rw [Option.some.inj h4.2]
     simp [Builtin.zeroCells, Value.cells, h0, zVS]
def ValsPost (w : World) (l : List V) (e : Ending) (w' : World) : Prop := ∃ s, e = .returned s ∧ KAt w' (fun b => w.heap.size ≤ b ∧ b < w'.heap.size) s l ∧ Bw w w'
def ValPost (w : World) (v : V) (e : Ending) (w' : World) : Prop := ∃ s, e = .returned (.agg #[.int .i64 v.n, s]) ∧ KAt w' (fun b => w.heap.size ≤ b ∧ b < w'.heap.size) s v.ks ∧ Bw w w'
theorem ocopies_step (l : List V) (ih : ∀ v ∈ l, ∀ (s : Value) (W : World), KB W W.heap.size s v.ks → Calls Tryz.prog 106 #[aggV v s] W (ValPost W v)) (s : Value) (w : World) (h : KB w w.heap.size s l) (h9 : l.length ≤ 1000000) :
   Calls Tryz.prog 70 #[s] w (ValsPost w l) := by
 obtain ⟨A, n, c, rfl, ln, bn, mn⟩ := h.form
 unfold maxLen at mn
 rw [ln] at h9
 have HK := Lib.hid h
 have HIH := Lib.hid ih
 have LN := Lib.hid ln
 clear h ih ln
 obtain ⟨i0, hi, hz0, hz1, hz2⟩ := info_parts infoVal
 go_enter Tryz.func70, Tryz.ntmps70
 go_wp2
 go_loopw [3, 8] (fun s3 i wr => ∃ k : Nat, k ≤ n ∧ i = .int .i64 k ∧ Hid (∃ ss, VRow wr 39 w.heap.size w.heap.size s3 (l.take k) ss ∧ Bw w wr)) (fun _ i _ => n - (intOf i).toNat)
 case atStart => exact ⟨0, by omega, rfl, Lib.hid ⟨[], VRow.nil _ _ _ _, Bw.refl _⟩⟩
 case round =>
   obtain ⟨k, hk, rfl, HR⟩ := hrel
   obtain ⟨ss, hv, hw⟩ := HR.out
   by_cases hlt : k < n
   · have e1 : k < l.length := by rw [LN.out]; exact hlt
     obtain ⟨ad, sA, sn, sc, rfl, hb, q0, q1, sl, hs⟩ := (HK.out.bw hw).at_ e1
     obtain ⟨VA, vc, rfl, _, _⟩ := hv.form
     have hlk : (l.take k).length = k := by simp; omega
     rw [hlk] at hv ⊢
     have CP : Hid (∀ o, Calls Tryz.prog 106 #[.agg #[.int .i64 l[k].n, .slice sA sn sc]] (wr.alloc o) (ValPost (wr.alloc o) l[k])) := Lib.hid (fun o => HIH.out _ (List.getElem_mem e1) _ _ (hs.bw ((Bw.refl _).alloc _)))
     have HV := Lib.hid hv
     have HW := Lib.hid hw
     have hsw := hw.size
     have HT : Hid (l.take (k + 1) = l.take k ++ [l[k]]) := Lib.hid (List.take_succ_eq_append_getElem e1)
     clear hs sl hv hw HR hlk
     generalize hx : l[k] = x at *
     clear hx
     obtain ⟨xn, hxn⟩ : ∃ xn, x.n = xn := ⟨_, rfl⟩
     unfold ValPost at CP
     rw [hxn] at CP q0
     have HXN := Lib.hid hxn
     clear hxn
     go_wp2_with (first
       | (go_at_call 106; go_must (refine (CP.out _).mono ?_; rintro e w6 ⟨s6, rfl, hk6, hg6⟩; obtain ⟨A6, n6, c6, rfl, ln6, _, _⟩ := hk6.form; (have HK6 := Lib.hid hk6); (have HG6 : Hid (Bw wr w6) := Lib.hid (((Bw.refl _).alloc _).trans hg6)); (have hs6 : wr.heap.size < w6.heap.size := by have := hg6.size; simp at this; omega); (have HV6 := Lib.hid (HV.out.bw HG6.out)); clear hk6 hg6 ln6))
       | (at_builtin; go_must (refine wpList_append_any _ rfl _ _ 31 rfl w.heap.size 39 i0 _ 2 32 Tryz.underlying31 hi hz0 hz1 hz2 rfl (by decide) (.slice VA k vc) k (vCells (l.take k) ss) rfl (by have := (HV6.out.own.alloc (.cells #[.int .i64 xn, .slice A6 n6 c6] 39)); rwa [show (l.take k).length = k by simp; omega] at this) (w6.heap.size + 1) (some ⟨w6.heap.size, 0, none⟩) 1 1 [.int .i64 xn, .slice A6 n6 c6] rfl (reads_new2 w6 _ _ _) (one2 _ _ _ _) (by unfold maxLen; omega) (by omega) (by simp; omega) ?_; intro v7 w7 hown7 hgr7 hl7; obtain ⟨A7, c7, rfl⟩ := own_form hown7; (have HO7 := Lib.hid hown7); (have HG7 := Lib.hid hgr7); (have HL7 := Lib.hid hl7); clear hown7 hgr7 hl7)))
     go_roundw
     case rel =>
       have hlk : (l.take k).length = k := by simp; omega
       have hv6 := HV6.out
       have hk6 := HK6.out
       have hs7 := HG7.out.size
       refine ⟨k + 1, by omega, by go_num, Lib.hid ⟨ss ++ [.slice A6 n6 c6], ?_, ?_⟩⟩
       · rw [HT.out]
         refine (hv6.bw (((Bw.refl w6).alloc _))).push (x := x) (s := .slice A6 n6 c6) ?_ ?_ HG7.out HL7.out
         · refine KAt.keep (S := fun b => wr.heap.size < b ∧ b < w6.heap.size) ?_ (fun b hb => ⟨by omega, by simp; omega, fun e => ?_⟩) (fun p hp => World.cell?_alloc_lt w6 _ p hp.2)
           · exact hk6.keep (fun b hb => ⟨by have := hb.1; simp at this; omega, hb.2⟩) (fun _ _ => rfl)
           · have := (HV.out.own.lt b (by rw [hlk] at *; exact e)).2; omega
         · rw [hlk, HXN.out]; exact HO7.out
       · exact Below.trans (HW.out.trans (HG6.out.alloc _)) (below_own (Below.refl w.heap.size _) ((hv6.own.alloc _)) HG7.out (by simp; omega))
     case measure => simp [intOf]; omega
   · obtain rfl : k = n := by omega
     obtain ⟨VA, vc, rfl, _, _⟩ := hv.form
     have HV := Lib.hid hv
     have HW := Lib.hid hw
     clear hv hw HR
     go_wp2
     go_ret
     refine ⟨_, rfl, ?_, HW.out⟩
     have := HV.out.kat (Nat.le_refl _)
     rwa [List.take_of_length_le (by rw [LN.out]; omega)] at this ⊢

theorem ocopy_step (v : V) (s : Value) (w : World) (h : KB w w.heap.size s v.ks) (ih : ∀ (s : Value) (W : World), KB W W.heap.size s v.ks → Calls Tryz.prog 70 #[s] W (ValsPost W v.ks)) : Calls Tryz.prog 106 #[.agg #[.int .i64 v.n, s]] w (ValPost w v) := by
 obtain ⟨A, n, c, rfl, ln, bn, mn⟩ := h.form
 have CP : Hid (∀ W, Bw w W → Calls Tryz.prog 70 #[.slice A n c] W (ValsPost W v.ks)) := Lib.hid (fun W g => ih _ _ (h.bw g))
 unfold ValPost
 clear h ih ln
 generalize v.n = x at *
 go_enter Tryz.func106, Tryz.ntmps106
 go_wp2_with fail
 refine wp_world (fun W => Hid (Bw w W ∧ Blk W w.heap.size 39 #[.int .i64 x, .slice A n c] ∧ Blk W (w.heap.size + 1) 39 #[.int .i64 0, .slice none 0 0])) (Lib.hid ⟨((Bw.refl _).alloc _).alloc _, (Blk.new _ _ _).alloc _, by have := Blk.new (w.alloc (.cells #[.int .i64 x, .slice A n c] 39)) 39 #[.int .i64 0, .slice none 0 0]; simpa only [World.size_alloc] using this⟩) ?_
 intro W HW
 obtain ⟨hg, k1, k2⟩ := HW.out
 have p0 := k1.cell 0
 have p1 := k1.cell 1
 have z1 := k1.lt
 have z2 := k2.lt
 have hs0 := hg.size
 have e0 := k2.cell 0
 have e1 := k2.cell 1
 have f0 := k2.frozen 0
 have f1 := k2.frozen 1
 have KS : Hid (∀ w', Bw W.drew w' → w.heap.size + 1 < w'.heap.size ∧ w'.cell? ⟨w.heap.size, 0, none⟩ = some (.int .i64 x) ∧ w'.cell? ⟨w.heap.size + 1, 0, none⟩ = some (.int .i64 0) ∧ w'.cell? ⟨w.heap.size + 1, 1, none⟩ = some (.slice none 0 0) ∧ w'.frozen? ⟨w.heap.size + 1, 0, none⟩ = false ∧ w'.frozen? ⟨w.heap.size + 1, 1, none⟩ = false ∧ Blk w' (w.heap.size + 1) 39 #[.int .i64 0, .slice none 0 0]) := Lib.hid (fun w' g => by
   have g : Bw W w' := (Bw.refl W).drew.trans g
   have k3 := k2.below g.b z2
   exact ⟨k3.lt, (g.b.cell (p := ⟨w.heap.size, 0, none⟩) z1).trans p0, k3.cell 0, k3.cell 1, k3.frozen 0, k3.frozen 1, k3⟩)
 have CP2 : Hid (∀ W', Bw W W' → Calls Tryz.prog 70 #[.slice A n c] W' (ValsPost W' v.ks)) := Lib.hid (fun W' g => CP.out _ (hg.trans g))
 have HG := Lib.hid hg
 clear hg k1 k2 HW CP
 generalize hz : w.heap.size = z at *
 have HZ := Lib.hid hz
 clear hz
 go_region_with ((go_at_call 70; refine (CP2.out _ (by first | exact (Bw.refl _).drew | exact Bw.refl _)).mono ?_; rintro e w' ⟨s6, rfl, hk6, hg6⟩; obtain ⟨A6, n6, c6, rfl, ln6, _, _⟩ := hk6.form; obtain ⟨u0, u1, u2, u3, u4, u5, u6⟩ := KS.out _ hg6; (have HK6 := Lib.hid hk6); (have HG6 := Lib.hid hg6); (have HU6 := Lib.hid u6); clear hk6 hg6 ln6 u6))
 all_goals
   have HBB := Lib.hid (blk_set (i := 1) (.slice A6 n6 c6) (blk_set (i := 0) (.int .i64 x) HU6.out))
   go_wp2
   refine bodyPost_ret (results_cell_row (p := 2) (ty := 39) rfl _ _ (z + 1) 39 _ (0, 0) _ rfl HBB.out Tryz.underlying39 rfl (by kernel_rfl)) rfl ?_
   have hz := HZ.out
   refine ⟨.slice A6 n6 c6, rfl, HK6.out.keep (fun b hb => ⟨?_, ?_⟩) (fun p hp => ?_), ?_⟩
   · have h1 : W.heap.size ≤ b := hb.1
     omega
   · have h1 := hb.2
     simp [World.setCell]; omega
   · have h1 : W.heap.size ≤ p.block := hp.1
     rw [World.cell?_setCell_other _ _ _ _ (by intro e; subst e; simp at h1; omega), World.cell?_setCell_other _ _ _ _ (by intro e; subst e; simp at h1; omega)]
   · have h2 : Bw w w' := HG.out.trans ((Bw.refl W).drew.trans HG6.out)
     exact (h2.setCell (p := ⟨z + 1, 0, none⟩) (by dsimp only; omega) _).setCell (p := ⟨z + 1, 1, none⟩) (by dsimp only; omega) _
theorem ocopy_any (v : V) : v.size ≤ 1000000 → ∀ (s : Value) (w : World), KB w w.heap.size s v.ks → Calls Tryz.prog 106 #[aggV v s] w (ValPost w v) := by
 induction v using V.ind with
 | h n ks ih =>
   intro hsz s w h
   have h1 : sizeL ks < 1000000 := by simp [V.size] at hsz; omega
   exact ocopy_step (.mk n ks) s w h fun s' W h' => ocopies_step ks (fun v hv s2 W2 h2 => ih v hv (by have := sizeL_mem hv; omega) s2 W2 h2) s' W h' (by have := sizeL_length ks; omega)
theorem ocopies_any (l : List V) (h9 : sizeL l ≤ 1000000) (s : Value) (w : World) (h : KB w w.heap.size s l) : Calls Tryz.prog 70 #[s] w (ValsPost w l) :=
 ocopies_step l (fun v hv s2 W2 h2 => ocopy_any v (by have := sizeL_mem hv; omega) s2 W2 h2) s w h (by have := sizeL_length l; omega)
def IntsPost (w : World) (cs : List Int) (e : Ending) (w' : World) : Prop := ∃ s, e = .returned s ∧ IAt w' (fun b => w.heap.size ≤ b ∧ b < w'.heap.size) s cs ∧ Bw w w'
theorem oletters_any (l : List V) (s : Value) (w : World) (h : KB w w.heap.size s l) (h9 : l.length ≤ 1000000) : Calls Tryz.prog 138 #[s] w (IntsPost w (l.map V.n)) := by
 obtain ⟨A, n, c, rfl, ln, bn, mn⟩ := h.form
 unfold maxLen at mn
 rw [ln] at h9
 have HK := Lib.hid h
 have LN := Lib.hid ln
 clear h ln
 obtain ⟨i0, hi, hz0, hz1, hz2⟩ := info_parts infoInt
 go_enter Tryz.func138, Tryz.ntmps138
 go_wp2
 go_loopw [3, 8] (fun s3 i wr => ∃ k : Nat, k ≤ n ∧ i = .int .i64 k ∧ Hid (wr.ownsRow w.heap.size 3 1 s3 k (intVs ((l.take k).map V.n)) ∧ Bw w wr)) (fun _ i _ => n - (intOf i).toNat)
 case atStart => exact ⟨0, by omega, rfl, Lib.hid ⟨World.ownsRow_nil _ _ _ _, Bw.refl _⟩⟩
 case round =>
   obtain ⟨k, hk, rfl, HR⟩ := hrel
   obtain ⟨hv, hw⟩ := HR.out
   obtain ⟨VA, vc, rfl, _, _⟩ := own_bounds hv
   by_cases hlt : k < n
   · have e1 : k < l.length := by rw [LN.out]; exact hlt
     obtain ⟨ad, sA, sn, sc, rfl, hb, q0, q1, sl, hs⟩ := (HK.out.bw hw).at_ e1
     have HT : Hid (intVs ((l.take (k + 1)).map V.n) = intVs ((l.take k).map V.n) ++ [.int .i64 l[k].n]) := Lib.hid (by rw [List.take_succ_eq_append_getElem e1, List.map_append, ← intVs_append]; rfl)
     have HV := Lib.hid hv
     have HW := Lib.hid hw
     have hsw := hw.size
     clear hs sl hv hw HR
     generalize l[k].n = x at *
     go_wp2_with (at_builtin; go_must (refine wpList_append_any _ rfl _ _ 22 rfl w.heap.size 3 i0 _ 1 8 Tryz.underlying22 hi hz0 hz1 hz2 rfl (by decide) (.slice VA k vc) k (intVs ((l.take k).map V.n)) rfl ((HV.out.alloc _).alloc _) (wr.heap.size + 1 + 1) (some ⟨wr.heap.size + 1, 0, none⟩) 1 1 [.int .i64 x] rfl (by have := reads_new1 (wr.alloc (.cells #[.int .i64 x, .slice sA sn sc] 39)) x; simpa only [World.size_alloc] using this) (by simp [Value.oneCell']) (by unfold maxLen; omega) (by omega) (by simp; omega) ?_; intro v7 w7 hown7 hgr7 hl7; obtain ⟨A7, c7, rfl⟩ := own_form hown7; (have HO7 := Lib.hid hown7); (have HG7 := Lib.hid hgr7); clear hown7 hgr7 hl7))
     go_roundw
     case rel =>
       refine ⟨k + 1, by omega, by go_num, Lib.hid ⟨?_, ?_⟩⟩
       · rw [HT.out]; exact HO7.out
       · exact Below.trans ((HW.out.alloc _).alloc _) (below_own (Below.refl w.heap.size _) ((HV.out.alloc _).alloc _) HG7.out (by simp; omega))
     case measure => simp [intOf]; omega
   · obtain rfl : k = n := by omega
     have HV := Lib.hid hv
     have HW := Lib.hid hw
     clear hv hw HR
     go_wp2
     go_ret
     refine ⟨_, rfl, ?_, HW.out⟩
     have := own_IB (cs := l.map V.n) (n := k) (by have := HV.out; rwa [List.take_of_length_le (by rw [LN.out]; omega)] at this) (by simp [LN.out])
     exact this
end Go.Proofs.YtbmheekaclmibaaGreat
