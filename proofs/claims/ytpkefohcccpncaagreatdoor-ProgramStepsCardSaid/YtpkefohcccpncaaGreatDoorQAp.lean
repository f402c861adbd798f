/- What the reference's Parse holds in memory. Setting the numbers of threads changes no shape (plain). -/
import Derived.Test.YtpkefohcccpncaaGreatDoorQAn
import Derived.Test.YtpkefohcccpncaaGreatDoorQAo
import Derived.Test.YtpkefohcccpncaaGreatDoorQAj
import Derived.Test.YtpkefohcccpncaaGreatDoorQAi
import Derived.Test.YtpkefohcccpncaaGreatDoorQAd
namespace Go.Proofs.YtpkefohcccpncaaGreatDoor
open Go.RowKit
set_option linter.unusedSimpArgs false
set_option linter.unusedVariables false

/-- a row of threads of the call's own, each with its row of lines -/
structure TrI (W : World) (B : Nat) (ts : List Th) (tv : Value) (vs : List Value) (lim : Nat) : Prop where
  Bw : B ≤ W.heap.size
  vl : vs.length = ts.length
  th : W.ownsRow B 45 2 tv ts.length (thCells ts vs)
  ln : ∀ k (h : k < vs.length) (h' : k < ts.length), W.ownsRow B 42 3 vs[k] ts[k].ls.length (lnCells ts[k].ls)
  limw : lim ≤ W.heap.size
  pre : ∀ k (h : k < vs.length), k + 1 < vs.length → ∀ g', vs[k].ownBlock = some g' → g' < lim
  last : ∀ k (h : k < vs.length), k + 1 = vs.length → ∀ g', vs[k].ownBlock = some g' → lim ≤ g'
  dis : ∀ j k (hj : j < vs.length) (hk : k < vs.length), j < k → ∀ g', vs[j].ownBlock = some g' → vs[k].ownBlock ≠ some g'
theorem own_keptT {A W : World} {row : Option Nat} {B e size n : Nat} {v : Value} {xs : List Value} (h : A.ownsRow B e size v n xs) (hg : A.grownBy W row) (hr : ∀ r, row = some r → r < B ∨ ∃ c T fz, A.heap[r]? = some (.cells c T fz) ∧ T ≠ e) : W.ownsRow B e size v n xs := by
  refine h.kept hg ?_
  rcases ho : v.ownBlock with _ | k
  · exact .inl rfl
  · right; intro e
    obtain ⟨c, fz, hc⟩ := own_kindP h k ho
    rcases hr k e.symm with h2 | ⟨c', T, fz', h2, hne⟩
    · have := (h.lt k ho).1; omega
    · rw [hc] at h2; injection h2 with h2; injection h2 with _ h2; exact hne h2.symm
section
variable {W w' : World} {B : Nat} {ts : List Th} {tv : Value} {vs : List Value} {lim : Nat}
theorem TrI.kept (h : TrI W B ts tv vs lim) {row : Option Nat} (hg : W.grownBy w' row) (hr : ∀ r, row = some r → r < B ∨ ∃ c T fz, W.heap[r]? = some (.cells c T fz) ∧ T ≠ 45 ∧ T ≠ 42) : TrI w' B ts tv vs lim :=
  ⟨Nat.le_trans h.Bw hg.size, h.vl, own_keptT h.th hg (fun r e => (hr r e).imp id (fun ⟨c, T, fz, h1, h2, _⟩ => ⟨c, T, fz, h1, h2⟩)), fun k h1 h2 => own_keptT (h.ln k h1 h2) hg (fun r e => (hr r e).imp id (fun ⟨c, T, fz, h1, _, h2⟩ => ⟨c, T, fz, h1, h2⟩)), Nat.le_trans h.limw hg.size, h.pre, h.last, h.dis⟩
theorem TrI.below (h : TrI W B ts tv vs lim) (hb : Below W.heap.size W w') : TrI w' B ts tv vs lim := h.kept (grownBy_of_below hb none) (fun r e => by cases e)
theorem TrI.set_ (h : TrI W B ts tv vs lim) {p : Addr} (hp : p.block < B) (u : Value) : TrI (W.setCell p u) B ts tv vs lim :=
  h.kept (row := some p.block) (grownBy_setCell (World.grownBy.refl _ _) (.inl rfl) _) (fun r e => by injection e with e; exact .inl (by omega))
theorem TrI.ths {A : Option Addr} {c n : Nat} (h : TrI W B ts (.slice A n c) vs lim) (hn : ts.length = n) : ThsAt W W.heap.size A ts := by
  subst hn
  refine ⟨vs, h.vl, own_reads h.th rfl (thCells_length _ _ h.vl), fun k h1 h2 => ?_⟩
  have hl := h.ln k h2 h1
  obtain ⟨LA, lc, hv⟩ := own_form hl
  exact ⟨LA, lc, hv, own_reads hl hv (lnCells_length _)⟩
theorem TrI.put (h : TrI W B ts tv vs lim) {pre : List Th} {t : Th} (hts : ts = pre ++ [t]) {pvs : List Value} {vn : Value} (hvs : vs = pvs ++ [vn]) {gt c : Nat} (htv : tv = .slice (some ⟨gt, 0, none⟩) ts.length c) (l : Ln) {v' : Value}
    (hown' : w'.ownsRow B 42 3 v' (t.ls ++ [l]).length (lnCells (t.ls ++ [l]))) (hgr : W.grownBy w' vn.ownBlock) (hd : v'.ownBlock = vn.ownBlock ∨ v'.ownBlock = some W.heap.size) :
    TrI (w'.setCell ⟨gt, pre.length * 2 + 1, none⟩ v') B (putLn ts l) tv (pvs ++ [v']) lim ∧ W.grownBy w' vn.ownBlock ∧ B ≤ gt := by
  subst hvs
  have hvl := h.vl
  have hpl : pvs.length = pre.length := by rw [hts] at hvl; simpa using hvl
  have hts2 : putLn ts l = pre ++ [⟨t.nm, t.ls ++ [l]⟩] := by rw [hts, putLn_snoc]
  have hvn : W.ownsRow B 42 3 vn t.ls.length (lnCells t.ls) := by
    have := h.ln pre.length (by simp [hpl]) (by rw [hts]; simp)
    simpa [hts, hpl, List.getElem_append_right] using this
  have hth := h.th
  rw [htv] at hth
  have hgtne : ∀ {e size n : Nat} {v : Value} {xs : List Value}, W.ownsRow B e size v n xs → e ≠ 45 → v.ownBlock ≠ some gt := fun hv hne e => own_own_ne hv hth hne gt e rfl
  have hgtB : B ≤ gt := (hth.lt gt rfl).1
  have hth' := own_kept_grow hth hvn (by decide) hgr
  have hs : (w'.setCell ⟨gt, pre.length * 2 + 1, none⟩ v').heap.size = w'.heap.size := by simp [World.setCell]
  have hsz := hgr.size
  have hv'gt : v'.ownBlock ≠ some gt := fun e => own_own_ne hown' hth' (by decide) gt e rfl
  refine ⟨⟨by rw [hs]; have := h.Bw; omega, ?_, ?_, ?_, by rw [hs]; have := h.limw; omega, ?_, ?_, ?_⟩, hgr, hgtB⟩
  · show (pvs ++ [v']).length = (putLn ts l).length
    rw [hts2]; simp [hpl]
  · show (w'.setCell _ v').ownsRow B 45 2 tv (putLn ts l).length (thCells (putLn ts l) (pvs ++ [v']))
    have h1 := (hth'.stored (pre.length * 2 + 1) v').1
    have e1 : (thCells ts (pvs ++ [vn])).set (pre.length * 2 + 1) v' = thCells (putLn ts l) (pvs ++ [v']) := by
      rw [hts2, hts, thCells_snoc _ _ _ _ hpl, thCells_snoc _ _ _ _ hpl, List.set_append_right _ _ (by rw [thCells_length _ _ hpl]; omega), thCells_length _ _ hpl, show pre.length * 2 + 1 - pre.length * 2 = 1 from by omega]
      rfl
    have e2 : (putLn ts l).length = ts.length := by rw [hts2, hts]; simp
    rw [e1] at h1
    rw [e2, htv]; exact h1
  · intro k h1 h2
    simp only [hts2] at h2 ⊢
    by_cases e : k < pre.length
    · have h3 := h.ln k (by simp; omega) (by rw [hts]; simp; omega)
      simp only [hts] at h3
      rw [List.getElem_append_left (by omega), List.getElem_append_left e] at h3
      rw [List.getElem_append_left (by omega), List.getElem_append_left e]
      have hne : ∀ g', pvs[k].ownBlock = some g' → vn.ownBlock ≠ some g' := by
        intro g' hg' hvg
        have q1 := h.pre k (by simp; omega) (by simp; omega) g' (by rw [List.getElem_append_left (by omega)]; exact hg')
        have q2 := h.last pre.length (by simp [hpl]) (by simp [hpl]) g' (by rw [List.getElem_append_right (by omega)]; simpa [hpl] using hvg)
        omega
      have h4 : w'.ownsRow B 42 3 pvs[k] pre[k].ls.length (lnCells pre[k].ls) := by
        refine h3.kept hgr ?_
        rcases ho : (pvs[k]).ownBlock with _ | g'
        · exact .inl rfl
        · exact .inr (fun e => hne g' ho e.symm)
      exact own_kept_set h4 (fun e => own_own_ne h4 hth' (by decide) gt e rfl)
    · obtain rfl : k = pre.length := by simp at h2; omega
      have a1 : (pvs ++ [v'])[pre.length]'(by simp [hpl]) = v' := by simp [List.getElem_append_right, hpl]
      have a2 : (pre ++ [(⟨t.nm, t.ls ++ [l]⟩ : Th)])[pre.length]'(by simp) = ⟨t.nm, t.ls ++ [l]⟩ := by simp
      rw [a1, a2]
      exact own_kept_set hown' hv'gt
  · intro k h1 h2 g' hg'
    have hk : k < pvs.length := by simp at h2; omega
    rw [List.getElem_append_left hk] at hg'
    exact h.pre k (by simp; omega) (by simp; omega) g' (by rw [List.getElem_append_left hk]; exact hg')
  · intro k h1 h2 g' hg'
    have hk : k = pvs.length := by simp at h2; omega
    subst hk
    have a1 : (pvs ++ [v'])[pvs.length]'(by simp) = v' := by simp
    rw [a1] at hg'
    rcases hd with hd | hd
    · exact h.last pvs.length (by simp) (by simp) g' (by simp [← hd, hg'])
    · rw [hd] at hg'; injection hg' with hg'; have := h.limw; omega
  · intro j k hj hk hjk g' hg' hgk
    have hj2 : j < pvs.length := by simp at hk; omega
    rw [List.getElem_append_left hj2] at hg'
    by_cases e : k < pvs.length
    · rw [List.getElem_append_left e] at hgk
      exact h.dis j k (by simp; omega) (by simp; omega) hjk g' (by rw [List.getElem_append_left hj2]; exact hg') (by rw [List.getElem_append_left e]; exact hgk)
    · obtain rfl : k = pvs.length := by simp at hk; omega
      have a1 : (pvs ++ [v'])[pvs.length]'(by simp) = v' := by simp
      rw [a1] at hgk
      rcases hd with hd | hd
      · exact h.dis j pvs.length (by simp; omega) (by simp) hjk g' (by rw [List.getElem_append_left hj2]; exact hg') (by simp [← hd, hgk])
      · rw [hd] at hgk; injection hgk with hgk
        have hjt : j < pre.length := by omega
        have := ((h.ln j (by simp; omega) (by rw [hts]; simp; omega)).lt g' (by rw [List.getElem_append_left hj2]; exact hg')).2
        omega
/-- a thread more, without lines yet -/
theorem TrI.thread (h : TrI W B ts tv vs lim) {x : ByteArray} {tv' : Value} (hown' : w'.ownsRow B 45 2 tv' (ts ++ [(⟨x, []⟩ : Th)]).length (thCells ts vs ++ [.string x, .slice none 0 0])) (hgr : W.grownBy w' tv.ownBlock) :
    TrI w' B (ts ++ [⟨x, []⟩]) tv' (vs ++ [.slice none 0 0]) w'.heap.size := by
  have hsz := hgr.size
  have hvl := h.vl
  refine ⟨by have := h.Bw; omega, by simp [hvl], ?_, ?_, Nat.le_refl _, ?_, ?_, ?_⟩
  · rw [thCells_snoc _ _ _ _ hvl]
    exact hown'
  · intro k h1 h2
    by_cases e : k < vs.length
    · have h4 := own_kept_grow (h.ln k e (by omega)) h.th (by decide) hgr
      simp only [List.getElem_append_left e, List.getElem_append_left (show k < ts.length by omega)]
      exact h4
    · obtain rfl : k = vs.length := by simp at h1; omega
      have a1 : (vs ++ [Value.slice none 0 0])[vs.length]'(by simp) = .slice none 0 0 := by simp
      have a2 : (ts ++ [(⟨x, []⟩ : Th)])[vs.length]'(by simp [hvl]) = ⟨x, []⟩ := by simp [hvl]
      simp only [a1, a2]
      exact World.ownsRow_nil _ _ _ _
  · intro k h1 h2 g' hg'
    have e : k < vs.length := by simp at h2; omega
    rw [List.getElem_append_left e] at hg'
    have := ((h.ln k e (by omega)).lt g' hg').2
    omega
  · intro k h1 h2 g' hg'
    obtain rfl : k = vs.length := by simp at h2; omega
    have a1 : (vs ++ [Value.slice none 0 0])[vs.length]'(by simp) = .slice none 0 0 := by simp
    rw [a1] at hg'; cases hg'
  · intro j k hj hk hjk g' hg' hgk
    have hj2 : j < vs.length := by simp at hk; omega
    rw [List.getElem_append_left hj2] at hg'
    by_cases e : k < vs.length
    · rw [List.getElem_append_left e] at hgk
      exact h.dis j k hj2 e hjk g' hg' hgk
    · obtain rfl : k = vs.length := by simp at hk; omega
      have a1 : (vs ++ [Value.slice none 0 0])[vs.length]'(by simp) = .slice none 0 0 := by simp
      rw [a1] at hgk; cases hgk
theorem TrI.lineA (h : TrI W B ts tv vs lim) {i j : Nat} (hi : i < ts.length) (hi2 : i < vs.length) (hj : j < ts[i].ls.length) (a : Int) {lb lc : Nat} (hv : vs[i] = .slice (some ⟨lb, 0, none⟩) ts[i].ls.length lc)
    {ts' : List Th} (hts : ts' = ts.set i ⟨ts[i].nm, ts[i].ls.set j ⟨ts[i].ls[j].k, a, ts[i].ls[j].n⟩⟩) :
    TrI (W.setCell ⟨lb, j * 3 + 1, none⟩ (.int .i64 a)) B ts' tv vs lim ∧ B ≤ lb := by
  subst hts
  have hln := h.ln i hi2 hi
  rw [hv] at hln
  have hlb := (hln.lt lb rfl).1
  have hs : (W.setCell ⟨lb, j * 3 + 1, none⟩ (.int .i64 a)).heap.size = W.heap.size := by simp [World.setCell]
  refine ⟨⟨by rw [hs]; exact h.Bw, by simp [h.vl], ?_, ?_, by rw [hs]; exact h.limw, h.pre, h.last, h.dis⟩, hlb⟩
  · have e1 : (ts.set i ⟨ts[i].nm, ts[i].ls.set j ⟨ts[i].ls[j].k, a, ts[i].ls[j].n⟩⟩).map (·.nm) = ts.map (·.nm) := by
      apply List.ext_getElem
      · simp
      · intro k h1 h2
        simp only [List.getElem_map, List.getElem_set]
        split
        · rename_i e; subst e; rfl
        · rfl
    simp only [List.length_set]
    rw [thCells_names _ _ vs e1]
    exact own_kept_set h.th (fun e => own_own_ne h.th hln (by decide) lb e rfl)
  · intro k h1 h2
    have h2' : k < ts.length := by simpa using h2
    by_cases e : k = i
    · subst e
      have h3 := (hln.stored (j * 3 + 1) (.int .i64 a)).1
      rw [← lnCells_set _ _ hj] at h3
      simp only [List.getElem_set_self, List.length_set]
      rw [hv]; exact h3
    · simp only [List.getElem_set_ne (Ne.symm e)]
      refine own_kept_set (h.ln k h1 h2') (fun e2 => ?_)
      have e3 : (vs[i]).ownBlock = some lb := by rw [hv]; rfl
      rcases Nat.lt_or_gt_of_ne e with e4 | e4
      · exact h.dis k i h1 hi2 e4 lb e2 e3
      · exact h.dis i k hi2 h1 e4 lb e3 e2
end
/-! ### all of it -/
def spCells (l : List Sp) : List Value := l.flatMap fun s => [.int .i64 (s.t : Int), .int .i64 (s.l : Int), .string ⟨s.nm.toArray⟩]
theorem spCells_length (l : List Sp) : (spCells l).length = l.length * 3 := by
  induction l with
  | nil => rfl
  | cons x xs ih => simp only [spCells, List.flatMap_cons, List.length_append, List.length_cons] at *; rw [ih]; simp; omega
theorem spCells_append (a b : List Sp) : spCells (a ++ b) = spCells a ++ spCells b := by simp [spCells]
theorem spCells_get : ∀ (xs : List Sp) (k : Nat) (hk : k < xs.length), (spCells xs)[k * 3]? = some (.int .i64 (xs[k].t : Int)) ∧ (spCells xs)[k * 3 + 1]? = some (.int .i64 (xs[k].l : Int)) ∧ (spCells xs)[k * 3 + 2]? = some (.string ⟨xs[k].nm.toArray⟩) := by
  intro xs
  induction xs with
  | nil => intro k hk; simp at hk
  | cons x xs ih =>
    intro k hk
    have e : spCells (x :: xs) = .int .i64 (x.t : Int) :: .int .i64 (x.l : Int) :: .string ⟨x.nm.toArray⟩ :: spCells xs := rfl
    cases k with
    | zero => simp [e]
    | succ k =>
      have h := ih k (by simpa using hk)
      rw [e, show (k + 1) * 3 = k * 3 + 1 + 1 + 1 from by omega, show k * 3 + 1 + 1 + 1 + 1 = (k * 3 + 1) + 1 + 1 + 1 from by omega, show k * 3 + 1 + 1 + 1 + 2 = (k * 3 + 2) + 1 + 1 + 1 from by omega]
      simpa using h
structure RsI (w W : World) (st : PS) (tv lv : Value) (vs : List Value) (lim : Nat) (sps : List Sp) : Prop where
  tr : TrI W (w.heap.size + 2) st.ts tv vs lim
  sp : W.ownsRow (w.heap.size + 2) 102 3 lv sps.length (spCells sps)
  res : Blk W w.heap.size 28 #[.int .i64 0, .slice none 0 0]
  blk : Blk W (w.heap.size + 1) 28 #[.int .i64 st.v, tv]
  be : Below w.heap.size w W
section
variable {w W w' : World} {st : PS} {tv lv : Value} {vs : List Value} {lim : Nat} {sps : List Sp}
theorem RsI.below (h : RsI w W st tv lv vs lim sps) (hb : Below W.heap.size W w') : RsI w w' st tv lv vs lim sps :=
  ⟨h.tr.below hb, own_kept_below h.sp hb, h.res.below hb h.res.lt, h.blk.below hb h.blk.lt, h.be.trans (hb.mono h.be.size)⟩
theorem RsI.alloc (h : RsI w W st tv lv vs lim sps) (o : Obj) : RsI w (W.alloc o) st tv lv vs lim sps := h.below ((Below.refl _ _).alloc (Nat.le_refl _) o)
theorem RsI.drewN (h : RsI w W st tv lv vs lim sps) (q : Nat) : RsI w (W.drewN q) st tv lv vs lim sps := h.below (below_drewN (Below.refl _ _) q)
theorem RsI.st_ {st' : PS} (h : RsI w W st tv lv vs lim sps) (h1 : st'.ts = st.ts) (h2 : st'.v = st.v) : RsI w W st' tv lv vs lim sps := by
  obtain ⟨a, b, c, d, e⟩ := h
  exact ⟨by rw [h1]; exact a, b, c, by rw [h2]; exact d, e⟩
theorem RsI.setv {st' : PS} (h : RsI w W st tv lv vs lim sps) (n : Int) (h1 : st'.ts = st.ts) (h2 : st'.v = n) : RsI w (W.setCell ⟨w.heap.size + 1, 0, none⟩ (.int .i64 n)) st' tv lv vs lim sps := by
  refine ⟨by rw [h1]; exact h.tr.set_ (by dsimp only; omega) _, own_set (g := w.heap.size + 1) h.sp (by omega), h.res.far (by dsimp only; omega) _, ?_, h.be.setCell (by dsimp only; omega) _⟩
  rw [h2]; exact h.blk.set_ 0 _
theorem RsI.thread {st' : PS} (h : RsI w W st tv lv vs lim sps) {x : ByteArray} {tv' : Value} (hown' : w'.ownsRow (w.heap.size + 2) 45 2 tv' (st.ts ++ [(⟨x, []⟩ : Th)]).length (thCells st.ts vs ++ [.string x, .slice none 0 0])) (hgr : W.grownBy w' tv.ownBlock)
    (h1 : st'.ts = st.ts ++ [⟨x, []⟩]) (h2 : st'.v = st.v) : RsI w (w'.setCell ⟨w.heap.size + 1, 1, none⟩ tv') st' tv' lv (vs ++ [.slice none 0 0]) w'.heap.size sps := by
  have hg : ∀ k, k < w.heap.size + 2 → some k ≠ tv.ownBlock := fun k hk e => by have := (h.tr.th.lt k e.symm).1; omega
  have hs : (w'.setCell ⟨w.heap.size + 1, 1, none⟩ tv').heap.size = w'.heap.size := by simp [World.setCell]
  refine ⟨by rw [h1]; exact (h.tr.thread hown' hgr).set_ (by dsimp only; omega) _, own_set (g := w.heap.size + 1) (own_kept_grow h.sp h.tr.th (by decide) hgr) (by omega), (h.res.grown hgr (hg _ (by omega))).far (by dsimp only; omega) _, ?_, (h.be.grown hgr h.be.size (fun k hk => by have := (h.tr.th.lt k hk).1; omega)).setCell (by dsimp only; omega) _⟩
  rw [h2]; exact (h.blk.grown hgr (hg _ (by omega))).set_ 1 _
theorem RsI.spawn (h : RsI w W st tv lv vs lim sps) (s : Sp) {lv' : Value} (hown' : w'.ownsRow (w.heap.size + 2) 102 3 lv' (sps ++ [s]).length (spCells (sps ++ [s]))) (hgr : W.grownBy w' lv.ownBlock) : RsI w w' st tv lv' vs lim (sps ++ [s]) := by
  have hg : ∀ k, k < w.heap.size + 2 → some k ≠ lv.ownBlock := fun k hk e => by have := (h.sp.lt k e.symm).1; omega
  refine ⟨h.tr.kept hgr (fun r e => .inr ?_), hown', h.res.grown hgr (hg _ (by omega)), h.blk.grown hgr (hg _ (by omega)), h.be.grown hgr h.be.size (fun k hk => by have := (h.sp.lt k hk).1; omega)⟩
  obtain ⟨c, fz, hc⟩ := own_kindP h.sp r e
  exact ⟨c, _, fz, hc, by decide, by decide⟩
theorem RsI.put {st' : PS} (h : RsI w W st tv lv vs lim sps) {pre : List Th} {t : Th} (hts : st.ts = pre ++ [t]) {pvs : List Value} {vn : Value} (hvs : vs = pvs ++ [vn]) {gt c : Nat} (htv : tv = .slice (some ⟨gt, 0, none⟩) st.ts.length c) (l : Ln) {v' : Value}
    (hown' : w'.ownsRow (w.heap.size + 2) 42 3 v' (t.ls ++ [l]).length (lnCells (t.ls ++ [l]))) (hgr : W.grownBy w' vn.ownBlock) (hd : v'.ownBlock = vn.ownBlock ∨ v'.ownBlock = some W.heap.size) (h1 : st'.ts = putLn st.ts l) (h2 : st'.v = st.v) :
    RsI w (w'.setCell ⟨gt, pre.length * 2 + 1, none⟩ v') st' tv lv (pvs ++ [v']) lim sps := by
  obtain ⟨ht, _, hgt⟩ := h.tr.put hts hvs htv l hown' hgr hd
  have hvn : W.ownsRow (w.heap.size + 2) 42 3 vn t.ls.length (lnCells t.ls) := by
    have hvl := h.tr.vl
    have hpl : pvs.length = pre.length := by rw [hts, hvs] at hvl; simpa using hvl
    have := h.tr.ln pre.length (by rw [hvs]; simp [hpl]) (by rw [hts]; simp)
    simpa [hvs, hts, hpl, List.getElem_append_right] using this
  have hg : ∀ k, k < w.heap.size + 2 → some k ≠ vn.ownBlock := fun k hk e => by have := (hvn.lt k e.symm).1; omega
  have hth : W.ownsRow (w.heap.size + 2) 45 2 (.slice (some ⟨gt, 0, none⟩) st.ts.length c) st.ts.length (thCells st.ts vs) := by have := h.tr.th; rw [htv] at this; exact this
  have hsp := own_kept_grow h.sp hvn (by decide) hgr
  refine ⟨by rw [h1]; exact ht, own_kept_set hsp (fun e => own_own_ne hsp (own_kept_grow hth hvn (by decide) hgr) (by decide) gt e rfl), (h.res.grown hgr (hg _ (by omega))).far (by dsimp only; omega) _, ?_, (h.be.grown hgr h.be.size (fun k hk => by have := (hvn.lt k hk).1; omega)).setCell (by dsimp only; omega) _⟩
  rw [h2]; exact (h.blk.grown hgr (hg _ (by omega))).far (by dsimp only; omega) _
theorem RsI.lineA {st' : PS} (h : RsI w W st tv lv vs lim sps) {i j : Nat} (hi : i < st.ts.length) (hi2 : i < vs.length) (hj : j < st.ts[i].ls.length) (a : Int) {lb lc : Nat} (hv : vs[i] = .slice (some ⟨lb, 0, none⟩) st.ts[i].ls.length lc)
    (h1 : st'.ts = st.ts.set i ⟨st.ts[i].nm, st.ts[i].ls.set j ⟨st.ts[i].ls[j].k, a, st.ts[i].ls[j].n⟩⟩) (h2 : st'.v = st.v) : RsI w (W.setCell ⟨lb, j * 3 + 1, none⟩ (.int .i64 a)) st' tv lv vs lim sps := by
  obtain ⟨ht, hlb⟩ := h.tr.lineA hi hi2 hj a hv h1
  have hln := h.tr.ln i hi2 hi
  rw [hv] at hln
  refine ⟨ht, own_kept_set h.sp (fun e => own_own_ne h.sp hln (by decide) lb e rfl), h.res.far (by dsimp only; omega) _, ?_, h.be.setCell (by dsimp only; omega) _⟩
  rw [h2]; exact h.blk.far (by dsimp only; omega) _
theorem RsI.new (w : World) : RsI w ((w.alloc (.cells #[.int .i64 0, .slice none 0 0] 28)).alloc (.cells #[.int .i64 0, .slice none 0 0] 28)) ps0 (.slice none 0 0) (.slice none 0 0) [] (w.heap.size + 2) [] := by
  have h := Blk.new (w.alloc (.cells #[.int .i64 0, .slice none 0 0] 28)) 28 #[.int .i64 0, .slice none 0 0]
  rw [World.size_alloc] at h
  refine ⟨⟨by simp, rfl, World.ownsRow_nil _ _ _ _, fun k h => absurd h (by simp), by simp, fun k h => absurd h (by simp), fun k h => absurd h (by simp), fun j k hj => absurd hj (by simp)⟩, World.ownsRow_nil _ _ _ _, (Blk.new w _ _).alloc _, h, ((Below.refl _ _).alloc (Nat.le_refl _) _).alloc (by simp) _⟩
end
end Go.Proofs.YtpkefohcccpncaaGreatDoor
namespace Go.Proofs.YtpkefohcccpncaaGreatDoor
open Go.RowKit
set_option linter.unusedSimpArgs false
set_option linter.unusedVariables false

def shp (t : Th) : ByteArray × Nat := (t.nm, t.ls.length)
theorem setA_shape (all ts : List Th) (s : Sp) : (setA all ts s).map shp = ts.map shp := by
  unfold setA
  rcases h : ts[s.t]? with _ | t
  · rfl
  · simp only
    apply List.ext_getElem?
    intro k
    rw [List.getElem?_map, List.getElem?_map]
    by_cases e : k = s.t
    · subst e
      have hlt : s.t < ts.length := (List.getElem?_eq_some_iff.1 h).1
      rw [List.getElem?_set_self hlt, h]
      simp only [Option.map_some, shp]
      congr 2
      split
      · rfl
      · simp
    · rw [List.getElem?_set_ne (Ne.symm e)]
theorem fold_shape (all : List Th) : ∀ (l : List Sp) (ts : List Th), (l.foldl (setA all) ts).map shp = ts.map shp := by
  intro l
  induction l with
  | nil => intro ts; rfl
  | cons s r ih => intro ts; rw [List.foldl_cons, ih, setA_shape]
theorem shape_len {a b : List Th} (h : a.map shp = b.map shp) : a.length = b.length := by
  have := congrArg List.length h
  simpa using this
theorem shape_nm {a b : List Th} (h : a.map shp = b.map shp) : a.map (·.nm) = b.map (·.nm) := by
  have := congrArg (List.map Prod.fst) h
  simpa [List.map_map, shp, Function.comp_def] using this
theorem shape_at {a b : List Th} (h : a.map shp = b.map shp) {k : Nat} (ha : k < a.length) (hb : k < b.length) : a[k].nm = b[k].nm ∧ a[k].ls.length = b[k].ls.length := by
  have h1 : (a.map shp)[k]? = (b.map shp)[k]? := by rw [h]
  rw [List.getElem?_map, List.getElem?_map, List.getElem?_eq_getElem ha, List.getElem?_eq_getElem hb] at h1
  simp only [Option.map_some, Option.some.injEq, shp, Prod.mk.injEq] at h1
  exact h1
theorem spL_mem (i : Nat) : ∀ (ns : List (List UInt8)) (j : Nat), ∀ s ∈ spL i j ns, s.t = i ∧ s.l < j + ns.length := by
  intro ns
  induction ns with
  | nil => intro j s hs; cases hs
  | cons x r ih =>
    intro j s hs
    rw [spL_cons] at hs
    rcases List.mem_append.1 hs with h | h
    · rcases x with _ | ⟨c, y⟩
      · cases h
      · simp only [sp1, List.mem_singleton] at h
        subst h
        exact ⟨rfl, by simp⟩
    · obtain ⟨h1, h2⟩ := ih (j + 1) s h
      exact ⟨h1, by simp; omega⟩
theorem spT_mem : ∀ (ts : List Th) (i : Nat) (ns : List (List UInt8)), ∀ s ∈ spT i ts ns, ∃ k, s.t = i + k ∧ ∃ h : k < ts.length, s.l < ts[k].ls.length := by
  intro ts
  induction ts with
  | nil => intro i ns s hs; cases hs
  | cons t r ih =>
    intro i ns s hs
    rw [spT] at hs
    rcases List.mem_append.1 hs with h | h
    · obtain ⟨h1, h2⟩ := spL_mem i _ _ s h
      refine ⟨0, by omega, by simp, ?_⟩
      rw [List.length_take] at h2
      simp only [List.getElem_cons_zero]
      omega
    · obtain ⟨k, h1, h2, h3⟩ := ih (i + 1) _ s h
      exact ⟨k + 1, by omega, by simp; exact h2, by simpa using h3⟩
theorem spT_mem0 {ts : List Th} {ns : List (List UInt8)} {s : Sp} (hs : s ∈ spT 0 ts ns) : ∃ h : s.t < ts.length, s.l < ts[s.t].ls.length := by
  obtain ⟨k, h1, h2, h3⟩ := spT_mem ts 0 ns s hs
  have : s.t = k := by omega
  rw [← this] at h2
  subst this
  exact ⟨h2, h3⟩
theorem setA_eq {all cur : List Th} {s : Sp} (h1 : s.t < cur.length) (h2 : s.l < cur[s.t].ls.length) :
    setA all cur s = cur.set s.t ⟨cur[s.t].nm, cur[s.t].ls.set s.l ⟨cur[s.t].ls[s.l].k, ((findTh all s.nm).getD all.length : Nat), cur[s.t].ls[s.l].n⟩⟩ := by
  unfold setA
  rw [List.getElem?_eq_getElem h1]
  simp only
  rw [List.getElem?_eq_getElem h2]
/-- the first thread with a name, or the number of threads -/
def findN (ts : List Th) (x : List UInt8) : Nat := (findTh ts x).getD ts.length
theorem findN_le (ts : List Th) (x : List UInt8) : findN ts x ≤ ts.length := by
  unfold findN findTh
  rcases h : ts.findIdx? fun t => t.nm.data.toList == x with _ | k
  · rw [h]; exact Nat.le_refl _
  · have := (List.findIdx?_eq_some_iff_getElem.1 h).1
    rw [h]
    show k ≤ ts.length
    omega
theorem findN_at {ts : List Th} {x : List UInt8} {k : Nat} (hk : k < ts.length) (hb : ∀ j, (h : j < k) → ts[j].nm.data.toList ≠ x) (he : ts[k].nm.data.toList = x) : findN ts x = k := by
  unfold findN findTh
  have : (ts.findIdx? fun t => t.nm.data.toList == x) = some k := by
    rw [List.findIdx?_eq_some_iff_getElem]
    exact ⟨hk, by simpa using he, fun j hj => by simpa using hb j hj⟩
  rw [this]; rfl
theorem findN_none {ts : List Th} {x : List UInt8} (hb : ∀ j, (h : j < ts.length) → ts[j].nm.data.toList ≠ x) : findN ts x = ts.length := by
  unfold findN findTh
  have : (ts.findIdx? fun t => t.nm.data.toList == x) = none := by
    rw [List.findIdx?_eq_none_iff]
    intro t ht
    obtain ⟨j, hj, rfl⟩ := List.getElem_of_mem ht
    simpa using hb j hj
  rw [this]; rfl
theorem findN_names {ts ts' : List Th} (x : List UInt8) (h : ts.map shp = ts'.map shp) : findN ts x = findN ts' x := by
  unfold findN
  rw [findTh_names ts ts' x (shape_nm h), shape_len h]
end Go.Proofs.YtpkefohcccpncaaGreatDoor
