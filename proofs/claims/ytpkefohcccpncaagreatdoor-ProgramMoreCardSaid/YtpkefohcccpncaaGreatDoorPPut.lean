/- What an append to the last thread's lines, to the names, to the threads leaves of the reader. -/
import Derived.Test.YtpkefohcccpncaaGreatDoorPSt
namespace Go.Proofs.YtpkefohcccpncaaGreatDoor
open Go.RowKit
set_option linter.unusedSimpArgs false
set_option linter.unusedVariables false

theorem own_kindP {w : World} {B e size n : Nat} {v : Value} {xs : List Value} (hown : w.ownsRow B e size v n xs) : ∀ g, v.ownBlock = some g → ∃ c fz, w.heap[g]? = some (.cells c e fz) := by
  intro g hg
  rcases hown.2 with ⟨rfl, _⟩ | ⟨g', cap, cur, rfl, _, hh, _⟩
  · cases hg
  · have : g' = g := by simpa [Value.ownBlock] using hg
    subst this; exact ⟨_, _, hh⟩
theorem own_own_ne {w : World} {B e size n B' e' size' n' : Nat} {v v' : Value} {xs xs' : List Value} (h : w.ownsRow B e size v n xs) (h' : w.ownsRow B' e' size' v' n' xs') (hne : e ≠ e') : ∀ g, v.ownBlock = some g → v'.ownBlock ≠ some g := by
  intro g hg hg'
  obtain ⟨c, fz, h1⟩ := own_kindP h g hg
  obtain ⟨c', fz', h2⟩ := own_kindP h' g hg'
  rw [h1] at h2
  injection h2 with h2
  injection h2 with _ h2
  exact hne h2
/-- kept where a row of another element type grew -/
theorem own_kept_grow {w w' : World} {B e size n B' e' size' n' : Nat} {v v' : Value} {xs xs' : List Value} (h : w.ownsRow B e size v n xs) (h' : w.ownsRow B' e' size' v' n' xs') (hne : e ≠ e') (hg : w.grownBy w' v'.ownBlock) : w'.ownsRow B e size v n xs := by
  refine h.kept hg ?_
  rcases ho : v.ownBlock with _ | k
  · exact .inl rfl
  · exact .inr (fun e => own_own_ne h h' hne k ho e.symm)
theorem own_kept_set {w : World} {B e size n g i : Nat} {v u : Value} {xs : List Value} (h : w.ownsRow B e size v n xs) (hne : v.ownBlock ≠ some g) : (w.setCell ⟨g, i, none⟩ u).ownsRow B e size v n xs :=
  h.kept (row := some g) (grownBy_setCell (p := ⟨g, i, none⟩) (World.grownBy.refl _ _) (.inl rfl) _) (.inr hne)

section
variable {W w' : World} {B g : Nat} {st : PS} {tv nv : Value} {vs : List Value} {lim : Nat}
theorem PsI.put (h : PsI W B g st tv nv vs lim) {pre : List Th} {t : Th} (hts : st.ts = pre ++ [t]) {pvs : List Value} {vn : Value} (hvs : vs = pvs ++ [vn]) {gt c : Nat} (htv : tv = .slice (some ⟨gt, 0, none⟩) st.ts.length c) (l : Ln) {v' : Value}
    (hown' : w'.ownsRow B 42 3 v' (t.ls ++ [l]).length (lnCells (t.ls ++ [l]))) (hgr : W.grownBy w' vn.ownBlock) (hd : v'.ownBlock = vn.ownBlock ∨ v'.ownBlock = some W.heap.size) :
    PsI (w'.setCell ⟨gt, pre.length * 2 + 1, none⟩ v') B g { st with ts := putLn st.ts l } tv nv (pvs ++ [v']) lim ∧ FrB B g W (w'.setCell ⟨gt, pre.length * 2 + 1, none⟩ v') := by
  subst hvs
  have hvl := h.vl
  have hpl : pvs.length = pre.length := by rw [hts] at hvl; simpa using hvl
  have hts2 : putLn st.ts l = pre ++ [⟨t.nm, t.ls ++ [l]⟩] := by rw [hts, putLn_snoc]
  have hvn : W.ownsRow B 42 3 vn t.ls.length (lnCells t.ls) := by
    have := h.ln pre.length (by simp [hpl]) (by rw [hts]; simp)
    simpa [hts, hpl, List.getElem_append_right] using this
  have hth := h.th
  rw [htv] at hth
  have hgtne : ∀ {e size n : Nat} {v : Value} {xs : List Value}, W.ownsRow B e size v n xs → e ≠ 45 → v.ownBlock ≠ some gt := fun hv hne e => own_own_ne hv hth hne gt e rfl
  have hgtB : B ≤ gt := (hth.lt gt rfl).1
  have hth' := own_kept_grow hth hvn (by decide) hgr
  have hs : (w'.setCell ⟨gt, pre.length * 2 + 1, none⟩ v').heap.size = w'.heap.size := by simp [World.setCell]
  have hsz := hgr.size
  have hgvn : some g ≠ vn.ownBlock := fun e => PsI.g_ne hvn h.gB e.symm
  have hblk : Blk w' g 88 #[.int .i64 st.v, tv, .bool st.op, nv] := h.blk.grown hgr hgvn
  have hv'gt : v'.ownBlock ≠ some gt := fun e => own_own_ne hown' hth' (by decide) gt e rfl
  refine ⟨⟨hblk.far (p := ⟨gt, pre.length * 2 + 1, none⟩) (by have := h.gB; simp only []; omega) v', h.gB, by rw [hs]; have := h.Bw; omega, ?_, ?_, ?_, ?_, by rw [hs]; have := h.limw; omega, ?_, ?_, ?_⟩, ?_⟩
  · exact own_kept_set (own_kept_grow h.nm hvn (by decide) hgr) (fun e => own_own_ne (own_kept_grow h.nm hvn (by decide) hgr) hth' (by decide) gt e rfl)
  · show (pvs ++ [v']).length = (putLn st.ts l).length
    rw [hts2]; simp [hpl]
  · show (w'.setCell _ v').ownsRow B 45 2 tv (putLn st.ts l).length (thCells (putLn st.ts l) (pvs ++ [v']))
    have h1 := (hth'.stored (pre.length * 2 + 1) v').1
    have e1 : (thCells st.ts (pvs ++ [vn])).set (pre.length * 2 + 1) v' = thCells (putLn st.ts l) (pvs ++ [v']) := by
      rw [hts2, hts, thCells_snoc _ _ _ _ hpl, thCells_snoc _ _ _ _ hpl, List.set_append_right _ _ (by rw [thCells_length _ _ hpl]; omega), thCells_length _ _ hpl, show pre.length * 2 + 1 - pre.length * 2 = 1 from by omega]
      rfl
    have e2 : (putLn st.ts l).length = st.ts.length := by rw [hts2, hts]; simp
    rw [e1] at h1
    rw [e2, htv]; exact h1
  · intro k h1 h2
    simp only [hts2] at h2 ⊢
    by_cases e : k < pre.length
    · have h3 := h.ln k (by simp; omega) (by rw [hts]; simp; omega)
      simp only [hts] at h3
      rw [List.getElem_append_left (by omega), List.getElem_append_left e] at h3
      rw [List.getElem_append_left (by omega), List.getElem_append_left e]
      have hne : ∀ g', pvs[k].ownBlock = some g' → vn.ownBlock ≠ some g' := by
        intro g' hg' hvg
        have q1 := h.pre k (by simp; omega) (by simp; omega) g' (by rw [List.getElem_append_left (by omega)]; exact hg')
        have q2 := h.last pre.length (by simp [hpl]) (by simp [hpl]) g' (by rw [List.getElem_append_right (by omega)]; simpa [hpl] using hvg)
        omega
      have h4 : w'.ownsRow B 42 3 pvs[k] pre[k].ls.length (lnCells pre[k].ls) := by
        refine h3.kept hgr ?_
        rcases ho : (pvs[k]).ownBlock with _ | g'
        · exact .inl rfl
        · exact .inr (fun e => hne g' ho e.symm)
      exact own_kept_set h4 (fun e => own_own_ne h4 hth' (by decide) gt e rfl)
    · obtain rfl : k = pre.length := by simp at h2; omega
      have a1 : (pvs ++ [v'])[pre.length]'(by simp [hpl]) = v' := by simp [List.getElem_append_right, hpl]
      have a2 : (pre ++ [(⟨t.nm, t.ls ++ [l]⟩ : Th)])[pre.length]'(by simp) = ⟨t.nm, t.ls ++ [l]⟩ := by simp
      rw [a1, a2]
      exact own_kept_set hown' hv'gt
  · intro k h1 h2 g' hg'
    have hk : k < pvs.length := by simp at h2; omega
    rw [List.getElem_append_left hk] at hg'
    exact h.pre k (by simp; omega) (by simp; omega) g' (by rw [List.getElem_append_left hk]; exact hg')
  · intro k h1 h2 g' hg'
    have hk : k = pvs.length := by simp at h2; omega
    subst hk
    have a1 : (pvs ++ [v'])[pvs.length]'(by simp) = v' := by simp
    rw [a1] at hg'
    rcases hd with hd | hd
    · exact h.last pvs.length (by simp) (by simp) g' (by simp [← hd, hg'])
    · rw [hd] at hg'; injection hg' with hg'; have := h.limw; omega
  · intro j k hj hk hjk g' hg' hgk
    have hj2 : j < pvs.length := by simp at hk; omega
    rw [List.getElem_append_left hj2] at hg'
    by_cases e : k < pvs.length
    · rw [List.getElem_append_left e] at hgk
      exact h.dis j k (by simp; omega) (by simp; omega) hjk g' (by rw [List.getElem_append_left hj2]; exact hg') (by rw [List.getElem_append_left e]; exact hgk)
    · obtain rfl : k = pvs.length := by simp at hk; omega
      have a1 : (pvs ++ [v'])[pvs.length]'(by simp) = v' := by simp
      rw [a1] at hgk
      rcases hd with hd | hd
      · exact h.dis j pvs.length (by simp; omega) (by simp) hjk g' (by rw [List.getElem_append_left hj2]; exact hg') (by simp [← hd, hgk])
      · rw [hd] at hgk; injection hgk with hgk
        have hjt : j < pre.length := by omega
        have := ((h.ln j (by simp; omega) (by rw [hts]; simp; omega)).lt g' (by rw [List.getElem_append_left hj2]; exact hg')).2
        omega
  · refine (FrB.of_grown hgr h.Bw (fun r hr => ?_) (fun r hr => by obtain ⟨c, fz, hc⟩ := own_kindP hvn r hr; exact ⟨_, _, _, hc⟩)).setCell (p := ⟨gt, pre.length * 2 + 1, none⟩) (.inr hgtB) _
    exact .inr (hvn.lt r hr).1
/-- a name more -/
theorem PsI.name (h : PsI W B g st tv nv vs lim) {x : List UInt8} {nv' : Value} (hown' : w'.ownsRow B 9 1 nv' (st.ns ++ [x]).length ((st.ns ++ [x]).map fun x => Value.string ⟨x.toArray⟩)) (hgr : W.grownBy w' nv.ownBlock) :
    PsI (w'.setCell ⟨g, 3, none⟩ nv') B g { st with ns := st.ns ++ [x] } tv nv' vs lim ∧ FrB B g W (w'.setCell ⟨g, 3, none⟩ nv') := by
  have hs : (w'.setCell ⟨g, 3, none⟩ nv').heap.size = w'.heap.size := by simp [World.setCell]
  have hsz := hgr.size
  have hblk : Blk w' g 88 #[.int .i64 st.v, tv, .bool st.op, nv] := h.blk.grown hgr (fun e => PsI.g_ne h.nm h.gB e.symm)
  refine ⟨⟨hblk.set_ 3 nv', h.gB, by rw [hs]; have := h.Bw; omega, own_kept_set hown' (PsI.g_ne hown' h.gB), h.vl, ?_, ?_, by rw [hs]; have := h.limw; omega, h.pre, h.last, h.dis⟩, ?_⟩
  · have := own_kept_grow h.th h.nm (by decide) hgr
    exact own_kept_set this (PsI.g_ne this h.gB)
  · intro k h1 h2
    have := own_kept_grow (h.ln k h1 h2) h.nm (by decide) hgr
    exact own_kept_set this (PsI.g_ne this h.gB)
  · exact (FrB.of_grown hgr h.Bw (fun r hr => .inr (h.nm.lt r hr).1) (fun r hr => by obtain ⟨c, fz, hc⟩ := own_kindP h.nm r hr; exact ⟨_, _, _, hc⟩)).setCell (p := ⟨g, 3, none⟩) (.inl rfl) _
/-- a thread more, without lines yet -/
theorem PsI.thread (h : PsI W B g st tv nv vs lim) {x : ByteArray} {tv' : Value} (hown' : w'.ownsRow B 45 2 tv' (st.ts ++ [(⟨x, []⟩ : Th)]).length (thCells st.ts vs ++ [.string x, .slice none 0 0])) (hgr : W.grownBy w' tv.ownBlock) :
    PsI (w'.setCell ⟨g, 1, none⟩ tv') B g { st with ts := st.ts ++ [⟨x, []⟩] } tv' nv (vs ++ [.slice none 0 0]) w'.heap.size ∧ FrB B g W (w'.setCell ⟨g, 1, none⟩ tv') := by
  have hs : (w'.setCell ⟨g, 1, none⟩ tv').heap.size = w'.heap.size := by simp [World.setCell]
  have hsz := hgr.size
  have hvl := h.vl
  have hblk : Blk w' g 88 #[.int .i64 st.v, tv, .bool st.op, nv] := h.blk.grown hgr (fun e => PsI.g_ne h.th h.gB e.symm)
  refine ⟨⟨hblk.set_ 1 tv', h.gB, by rw [hs]; have := h.Bw; omega, ?_, by simp [hvl], ?_, ?_, by rw [hs]; exact Nat.le_refl _, ?_, ?_, ?_⟩, ?_⟩
  · have := own_kept_grow h.nm h.th (by decide) hgr
    exact own_kept_set this (PsI.g_ne this h.gB)
  · rw [thCells_snoc _ _ _ _ hvl]
    exact own_kept_set hown' (PsI.g_ne hown' h.gB)
  · intro k h1 h2
    by_cases e : k < vs.length
    · have := own_kept_grow (h.ln k e (by omega)) h.th (by decide) hgr
      have h4 := own_kept_set (i := 1) (u := tv') this (PsI.g_ne this h.gB)
      simp only [List.getElem_append_left e, List.getElem_append_left (show k < st.ts.length by omega)]
      exact h4
    · obtain rfl : k = vs.length := by simp at h1; omega
      have a1 : (vs ++ [Value.slice none 0 0])[vs.length]'(by simp) = .slice none 0 0 := by simp
      have a2 : (st.ts ++ [(⟨x, []⟩ : Th)])[vs.length]'(by simp [hvl]) = ⟨x, []⟩ := by simp [hvl]
      simp only [a1, a2]
      exact World.ownsRow_nil _ _ _ _
  · intro k h1 h2 g' hg'
    have e : k < vs.length := by simp at h2; omega
    rw [List.getElem_append_left e] at hg'
    have := ((h.ln k e (by omega)).lt g' hg').2
    omega
  · intro k h1 h2 g' hg'
    obtain rfl : k = vs.length := by simp at h2; omega
    have a1 : (vs ++ [Value.slice none 0 0])[vs.length]'(by simp) = .slice none 0 0 := by simp
    rw [a1] at hg'; cases hg'
  · intro j k hj hk hjk g' hg' hgk
    have hj2 : j < vs.length := by simp at hk; omega
    rw [List.getElem_append_left hj2] at hg'
    by_cases e : k < vs.length
    · rw [List.getElem_append_left e] at hgk
      exact h.dis j k hj2 e hjk g' hg' hgk
    · obtain rfl : k = vs.length := by simp at hk; omega
      have a1 : (vs ++ [Value.slice none 0 0])[vs.length]'(by simp) = .slice none 0 0 := by simp
      rw [a1] at hgk; cases hgk
  · exact (FrB.of_grown hgr h.Bw (fun r hr => .inr (h.th.lt r hr).1) (fun r hr => by obtain ⟨c, fz, hc⟩ := own_kindP h.th r hr; exact ⟨_, _, _, hc⟩)).setCell (p := ⟨g, 1, none⟩) (.inl rfl) _
end
end Go.Proofs.YtpkefohcccpncaaGreatDoor
