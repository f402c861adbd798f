/- What an append to the last thread's lines, to the names, to the threads leaves of the reader. '[]byte(s)' of a string, a byte of it set, and 'string(b)' back. The reader's step at a line of a thread. -/
import Derived.Test.YtpkefohcccpncaaGreatDoorQAh
import Derived.Test.YtpkefohcccpncaaGreatDoorQAa
import Derived.Laws.IdiomStrings
import Derived.Deep.DeepCutAuto
import Derived.Deep.CutBlock
import Derived.Deep.RegionLaw
namespace Go.Proofs.YtpkefohcccpncaaGreatDoor
open Go.RowKit
set_option linter.unusedSimpArgs false
set_option linter.unusedVariables false

theorem own_kindP {w : World} {B e size n : Nat} {v : Value} {xs : List Value} (hown : w.ownsRow B e size v n xs) : ∀ g, v.ownBlock = some g → ∃ c fz, w.heap[g]? = some (.cells c e fz) := by
  intro g hg
  rcases hown.2 with ⟨rfl, _⟩ | ⟨g', cap, cur, rfl, _, hh, _⟩
  · cases hg
  · have : g' = g := by simpa [Value.ownBlock] using hg
    subst this; exact ⟨_, _, hh⟩
theorem own_own_ne {w : World} {B e size n B' e' size' n' : Nat} {v v' : Value} {xs xs' : List Value} (h : w.ownsRow B e size v n xs) (h' : w.ownsRow B' e' size' v' n' xs') (hne : e ≠ e') : ∀ g, v.ownBlock = some g → v'.ownBlock ≠ some g := by
  intro g hg hg'
  obtain ⟨c, fz, h1⟩ := own_kindP h g hg
  obtain ⟨c', fz', h2⟩ := own_kindP h' g hg'
  rw [h1] at h2
  injection h2 with h2
  injection h2 with _ h2
  exact hne h2
/-- kept where a row of another element type grew -/
theorem own_kept_grow {w w' : World} {B e size n B' e' size' n' : Nat} {v v' : Value} {xs xs' : List Value} (h : w.ownsRow B e size v n xs) (h' : w.ownsRow B' e' size' v' n' xs') (hne : e ≠ e') (hg : w.grownBy w' v'.ownBlock) : w'.ownsRow B e size v n xs := by
  refine h.kept hg ?_
  rcases ho : v.ownBlock with _ | k
  · exact .inl rfl
  · exact .inr (fun e => own_own_ne h h' hne k ho e.symm)
theorem own_kept_set {w : World} {B e size n g i : Nat} {v u : Value} {xs : List Value} (h : w.ownsRow B e size v n xs) (hne : v.ownBlock ≠ some g) : (w.setCell ⟨g, i, none⟩ u).ownsRow B e size v n xs :=
  h.kept (row := some g) (grownBy_setCell (p := ⟨g, i, none⟩) (World.grownBy.refl _ _) (.inl rfl) _) (.inr hne)

section
variable {W w' : World} {B g : Nat} {st : PS} {tv nv : Value} {vs : List Value} {lim : Nat}
theorem PsI.put (h : PsI W B g st tv nv vs lim) {pre : List Th} {t : Th} (hts : st.ts = pre ++ [t]) {pvs : List Value} {vn : Value} (hvs : vs = pvs ++ [vn]) {gt c : Nat} (htv : tv = .slice (some ⟨gt, 0, none⟩) st.ts.length c) (l : Ln) {v' : Value}
    (hown' : w'.ownsRow B 42 3 v' (t.ls ++ [l]).length (lnCells (t.ls ++ [l]))) (hgr : W.grownBy w' vn.ownBlock) (hd : v'.ownBlock = vn.ownBlock ∨ v'.ownBlock = some W.heap.size) :
    PsI (w'.setCell ⟨gt, pre.length * 2 + 1, none⟩ v') B g { st with ts := putLn st.ts l } tv nv (pvs ++ [v']) lim ∧ FrB B g W (w'.setCell ⟨gt, pre.length * 2 + 1, none⟩ v') := by
  subst hvs
  have hvl := h.vl
  have hpl : pvs.length = pre.length := by rw [hts] at hvl; simpa using hvl
  have hts2 : putLn st.ts l = pre ++ [⟨t.nm, t.ls ++ [l]⟩] := by rw [hts, putLn_snoc]
  have hvn : W.ownsRow B 42 3 vn t.ls.length (lnCells t.ls) := by
    have := h.ln pre.length (by simp [hpl]) (by rw [hts]; simp)
    simpa [hts, hpl, List.getElem_append_right] using this
  have hth := h.th
  rw [htv] at hth
  have hgtne : ∀ {e size n : Nat} {v : Value} {xs : List Value}, W.ownsRow B e size v n xs → e ≠ 45 → v.ownBlock ≠ some gt := fun hv hne e => own_own_ne hv hth hne gt e rfl
  have hgtB : B ≤ gt := (hth.lt gt rfl).1
  have hth' := own_kept_grow hth hvn (by decide) hgr
  have hs : (w'.setCell ⟨gt, pre.length * 2 + 1, none⟩ v').heap.size = w'.heap.size := by simp [World.setCell]
  have hsz := hgr.size
  have hgvn : some g ≠ vn.ownBlock := fun e => PsI.g_ne hvn h.gB e.symm
  have hblk : Blk w' g 88 #[.int .i64 st.v, tv, .bool st.op, nv] := h.blk.grown hgr hgvn
  have hv'gt : v'.ownBlock ≠ some gt := fun e => own_own_ne hown' hth' (by decide) gt e rfl
  refine ⟨⟨hblk.far (p := ⟨gt, pre.length * 2 + 1, none⟩) (by have := h.gB; simp only []; omega) v', h.gB, by rw [hs]; have := h.Bw; omega, ?_, ?_, ?_, ?_, by rw [hs]; have := h.limw; omega, ?_, ?_, ?_⟩, ?_⟩
  · exact own_kept_set (own_kept_grow h.nm hvn (by decide) hgr) (fun e => own_own_ne (own_kept_grow h.nm hvn (by decide) hgr) hth' (by decide) gt e rfl)
  · show (pvs ++ [v']).length = (putLn st.ts l).length
    rw [hts2]; simp [hpl]
  · show (w'.setCell _ v').ownsRow B 45 2 tv (putLn st.ts l).length (thCells (putLn st.ts l) (pvs ++ [v']))
    have h1 := (hth'.stored (pre.length * 2 + 1) v').1
    have e1 : (thCells st.ts (pvs ++ [vn])).set (pre.length * 2 + 1) v' = thCells (putLn st.ts l) (pvs ++ [v']) := by
      rw [hts2, hts, thCells_snoc _ _ _ _ hpl, thCells_snoc _ _ _ _ hpl, List.set_append_right _ _ (by rw [thCells_length _ _ hpl]; omega), thCells_length _ _ hpl, show pre.length * 2 + 1 - pre.length * 2 = 1 from by omega]
      rfl
    have e2 : (putLn st.ts l).length = st.ts.length := by rw [hts2, hts]; simp
    rw [e1] at h1
    rw [e2, htv]; exact h1
  · intro k h1 h2
    simp only [hts2] at h2 ⊢
    by_cases e : k < pre.length
    · have h3 := h.ln k (by simp; omega) (by rw [hts]; simp; omega)
      simp only [hts] at h3
      rw [List.getElem_append_left (by omega), List.getElem_append_left e] at h3
      rw [List.getElem_append_left (by omega), List.getElem_append_left e]
      have hne : ∀ g', pvs[k].ownBlock = some g' → vn.ownBlock ≠ some g' := by
        intro g' hg' hvg
        have q1 := h.pre k (by simp; omega) (by simp; omega) g' (by rw [List.getElem_append_left (by omega)]; exact hg')
        have q2 := h.last pre.length (by simp [hpl]) (by simp [hpl]) g' (by rw [List.getElem_append_right (by omega)]; simpa [hpl] using hvg)
        omega
      have h4 : w'.ownsRow B 42 3 pvs[k] pre[k].ls.length (lnCells pre[k].ls) := by
        refine h3.kept hgr ?_
        rcases ho : (pvs[k]).ownBlock with _ | g'
        · exact .inl rfl
        · exact .inr (fun e => hne g' ho e.symm)
      exact own_kept_set h4 (fun e => own_own_ne h4 hth' (by decide) gt e rfl)
    · obtain rfl : k = pre.length := by simp at h2; omega
      have a1 : (pvs ++ [v'])[pre.length]'(by simp [hpl]) = v' := by simp [List.getElem_append_right, hpl]
      have a2 : (pre ++ [(⟨t.nm, t.ls ++ [l]⟩ : Th)])[pre.length]'(by simp) = ⟨t.nm, t.ls ++ [l]⟩ := by simp
      rw [a1, a2]
      exact own_kept_set hown' hv'gt
  · intro k h1 h2 g' hg'
    have hk : k < pvs.length := by simp at h2; omega
    rw [List.getElem_append_left hk] at hg'
    exact h.pre k (by simp; omega) (by simp; omega) g' (by rw [List.getElem_append_left hk]; exact hg')
  · intro k h1 h2 g' hg'
    have hk : k = pvs.length := by simp at h2; omega
    subst hk
    have a1 : (pvs ++ [v'])[pvs.length]'(by simp) = v' := by simp
    rw [a1] at hg'
    rcases hd with hd | hd
    · exact h.last pvs.length (by simp) (by simp) g' (by simp [← hd, hg'])
    · rw [hd] at hg'; injection hg' with hg'; have := h.limw; omega
  · intro j k hj hk hjk g' hg' hgk
    have hj2 : j < pvs.length := by simp at hk; omega
    rw [List.getElem_append_left hj2] at hg'
    by_cases e : k < pvs.length
    · rw [List.getElem_append_left e] at hgk
      exact h.dis j k (by simp; omega) (by simp; omega) hjk g' (by rw [List.getElem_append_left hj2]; exact hg') (by rw [List.getElem_append_left e]; exact hgk)
    · obtain rfl : k = pvs.length := by simp at hk; omega
      have a1 : (pvs ++ [v'])[pvs.length]'(by simp) = v' := by simp
      rw [a1] at hgk
      rcases hd with hd | hd
      · exact h.dis j pvs.length (by simp; omega) (by simp) hjk g' (by rw [List.getElem_append_left hj2]; exact hg') (by simp [← hd, hgk])
      · rw [hd] at hgk; injection hgk with hgk
        have hjt : j < pre.length := by omega
        have := ((h.ln j (by simp; omega) (by rw [hts]; simp; omega)).lt g' (by rw [List.getElem_append_left hj2]; exact hg')).2
        omega
  · refine (FrB.of_grown hgr h.Bw (fun r hr => ?_) (fun r hr => by obtain ⟨c, fz, hc⟩ := own_kindP hvn r hr; exact ⟨_, _, _, hc⟩)).setCell (p := ⟨gt, pre.length * 2 + 1, none⟩) (.inr hgtB) _
    exact .inr (hvn.lt r hr).1
/-- a name more -/
theorem PsI.name (h : PsI W B g st tv nv vs lim) {x : List UInt8} {nv' : Value} (hown' : w'.ownsRow B 9 1 nv' (st.ns ++ [x]).length ((st.ns ++ [x]).map fun x => Value.string ⟨x.toArray⟩)) (hgr : W.grownBy w' nv.ownBlock) :
    PsI (w'.setCell ⟨g, 3, none⟩ nv') B g { st with ns := st.ns ++ [x] } tv nv' vs lim ∧ FrB B g W (w'.setCell ⟨g, 3, none⟩ nv') := by
  have hs : (w'.setCell ⟨g, 3, none⟩ nv').heap.size = w'.heap.size := by simp [World.setCell]
  have hsz := hgr.size
  have hblk : Blk w' g 88 #[.int .i64 st.v, tv, .bool st.op, nv] := h.blk.grown hgr (fun e => PsI.g_ne h.nm h.gB e.symm)
  refine ⟨⟨hblk.set_ 3 nv', h.gB, by rw [hs]; have := h.Bw; omega, own_kept_set hown' (PsI.g_ne hown' h.gB), h.vl, ?_, ?_, by rw [hs]; have := h.limw; omega, h.pre, h.last, h.dis⟩, ?_⟩
  · have := own_kept_grow h.th h.nm (by decide) hgr
    exact own_kept_set this (PsI.g_ne this h.gB)
  · intro k h1 h2
    have := own_kept_grow (h.ln k h1 h2) h.nm (by decide) hgr
    exact own_kept_set this (PsI.g_ne this h.gB)
  · exact (FrB.of_grown hgr h.Bw (fun r hr => .inr (h.nm.lt r hr).1) (fun r hr => by obtain ⟨c, fz, hc⟩ := own_kindP h.nm r hr; exact ⟨_, _, _, hc⟩)).setCell (p := ⟨g, 3, none⟩) (.inl rfl) _
/-- a thread more, without lines yet -/
theorem PsI.thread (h : PsI W B g st tv nv vs lim) {x : ByteArray} {tv' : Value} (hown' : w'.ownsRow B 45 2 tv' (st.ts ++ [(⟨x, []⟩ : Th)]).length (thCells st.ts vs ++ [.string x, .slice none 0 0])) (hgr : W.grownBy w' tv.ownBlock) :
    PsI (w'.setCell ⟨g, 1, none⟩ tv') B g { st with ts := st.ts ++ [⟨x, []⟩] } tv' nv (vs ++ [.slice none 0 0]) w'.heap.size ∧ FrB B g W (w'.setCell ⟨g, 1, none⟩ tv') := by
  have hs : (w'.setCell ⟨g, 1, none⟩ tv').heap.size = w'.heap.size := by simp [World.setCell]
  have hsz := hgr.size
  have hvl := h.vl
  have hblk : Blk w' g 88 #[.int .i64 st.v, tv, .bool st.op, nv] := h.blk.grown hgr (fun e => PsI.g_ne h.th h.gB e.symm)
  refine ⟨⟨hblk.set_ 1 tv', h.gB, by rw [hs]; have := h.Bw; omega, ?_, by simp [hvl], ?_, ?_, by rw [hs]; exact Nat.le_refl _, ?_, ?_, ?_⟩, ?_⟩
  · have := own_kept_grow h.nm h.th (by decide) hgr
    exact own_kept_set this (PsI.g_ne this h.gB)
  · rw [thCells_snoc _ _ _ _ hvl]
    exact own_kept_set hown' (PsI.g_ne hown' h.gB)
  · intro k h1 h2
    by_cases e : k < vs.length
    · have := own_kept_grow (h.ln k e (by omega)) h.th (by decide) hgr
      have h4 := own_kept_set (i := 1) (u := tv') this (PsI.g_ne this h.gB)
      simp only [List.getElem_append_left e, List.getElem_append_left (show k < st.ts.length by omega)]
      exact h4
    · obtain rfl : k = vs.length := by simp at h1; omega
      have a1 : (vs ++ [Value.slice none 0 0])[vs.length]'(by simp) = .slice none 0 0 := by simp
      have a2 : (st.ts ++ [(⟨x, []⟩ : Th)])[vs.length]'(by simp [hvl]) = ⟨x, []⟩ := by simp [hvl]
      simp only [a1, a2]
      exact World.ownsRow_nil _ _ _ _
  · intro k h1 h2 g' hg'
    have e : k < vs.length := by simp at h2; omega
    rw [List.getElem_append_left e] at hg'
    have := ((h.ln k e (by omega)).lt g' hg').2
    omega
  · intro k h1 h2 g' hg'
    obtain rfl : k = vs.length := by simp at h2; omega
    have a1 : (vs ++ [Value.slice none 0 0])[vs.length]'(by simp) = .slice none 0 0 := by simp
    rw [a1] at hg'; cases hg'
  · intro j k hj hk hjk g' hg' hgk
    have hj2 : j < vs.length := by simp at hk; omega
    rw [List.getElem_append_left hj2] at hg'
    by_cases e : k < vs.length
    · rw [List.getElem_append_left e] at hgk
      exact h.dis j k hj2 e hjk g' hg' hgk
    · obtain rfl : k = vs.length := by simp at hk; omega
      have a1 : (vs ++ [Value.slice none 0 0])[vs.length]'(by simp) = .slice none 0 0 := by simp
      rw [a1] at hgk; cases hgk
  · exact (FrB.of_grown hgr h.Bw (fun r hr => .inr (h.th.lt r hr).1) (fun r hr => by obtain ⟨c, fz, hc⟩ := own_kindP h.th r hr; exact ⟨_, _, _, hc⟩)).setCell (p := ⟨g, 1, none⟩) (.inl rfl) _
end
end Go.Proofs.YtpkefohcccpncaaGreatDoor
namespace Go.Proofs.YtpkefohcccpncaaGreatDoor
open Go.RowKit
set_option linter.unusedSimpArgs false
set_option linter.unusedVariables false

theorem wrapI64 (k : Nat) (h : k < 100000) : IntKind.i64.wrap (k : Int) = k := by
  simp [IntKind.wrap, IntKind.bits, IntKind.signed]; omega
/-- the bytes that a row holds -/
def BytesAt (w : World) (B : Nat) (l : List UInt8) : Prop := ∀ i (h : i < l.length), w.cell? ⟨B, i, none⟩ = some (.int .u8 (l[i].toNat : Int))
/-- what '[]byte(s)' leaves in the world w3 -/
structure Conv (w3 : World) (s : ByteArray) (C : Array Value) (cap : Nat) : Prop where
  cells : ∀ i (h : i < s.data.toList.length), C[i]? = some (.int .u8 (s.data.toList[i].toNat : Int))
theorem conv_pack (w3 : World) (s : ByteArray) : ∃ (C : Array Value) (cap : Nat),
    (Go.convert 9 22 (.string s)).run Tryz.prog w3 = .ok (.slice (some ⟨w3.heap.size, 0, none⟩) s.size cap) (w3.drew.alloc (.cells C 5 (C.size, C.size + 1))) ∧ Conv w3 s C cap := by
  refine ⟨bytesRow s (grownCap w3 s.size 0 5), grownCap w3 s.size 0 5, run_bytes_of_string (P := Tryz.prog) w3 9 22 5 s Tryz.underlying9 Tryz.underlying22 Tryz.underlying5, ⟨fun i h => ?_⟩⟩
  have h' : i < s.data.size := by simpa using h
  unfold bytesRow
  rw [Array.getElem?_append_left (by simpa using h'), Array.getElem?_map, Array.getElem?_eq_getElem h']
  rfl
section
variable {w3 : World} {s : ByteArray} {C : Array Value} {cap : Nat}
theorem Conv.at_ (h : Conv w3 s C cap) : BytesAt (w3.alloc (.cells C 5 (C.size, C.size + 1))) w3.heap.size s.data.toList := fun i hi => by
  rw [cell_of_row _ _ _ _ _ _ (heap_alloc_new w3 _)]; exact h.cells i hi
theorem Conv.cell (h : Conv w3 s C cap) {j : Nat} (hj : j < s.size) : ∃ v, (w3.alloc (.cells C 5 (C.size, C.size + 1))).cell? ⟨w3.heap.size, j, none⟩ = some v := ⟨_, by rw [cell_of_row _ _ _ _ _ _ (heap_alloc_new w3 _)]; exact h.cells j hj⟩
theorem Conv.frozen (h : Conv w3 s C cap) {j : Nat} (hj : j < s.size) : (w3.alloc (.cells C 5 (C.size, C.size + 1))).frozen? ⟨w3.heap.size, j, none⟩ = false := by
  have h1 := (Array.getElem?_eq_some_iff.1 (h.cells j hj)).1
  unfold World.frozen?
  simp only [heap_alloc_new]
  simp; omega
end
theorem BytesAt.set_ {w : World} {B : Nat} {l : List UInt8} (h : BytesAt w B l) {j : Nat} (hj : j < l.length) {by_ : Int} (h0 : 0 ≤ by_) (h1 : by_ ≤ 255) : BytesAt (w.setCell ⟨B, j, none⟩ (.int .u8 by_)) B (l.set j (UInt8.ofNat by_.toNat)) := by
  intro i hi
  rw [List.length_set] at hi
  by_cases hij : j = i
  · subst hij
    rw [World.cell?_setCell_same _ _ _ (h j hi), List.getElem_set_self]
    have : ((UInt8.ofNat by_.toNat).toNat : Int) = by_ := by simp; omega
    rw [this]
  · rw [World.cell?_setCell_other _ _ _ _ (by intro e; exact hij (Addr.mk.inj e).2.1), List.getElem_set_ne hij]
    exact h i hi
theorem BytesAt.back {w : World} {B : Nat} {l : List UInt8} (h : BytesAt w B l) (cap : Nat) {n : Nat} (hn : l.length = n) {s2 : ByteArray} (hs : s2.data.toList = l) :
    (Go.convert 22 9 (.slice (some ⟨B, 0, none⟩) n cap)).run Tryz.prog w = .ok (.string s2) w := by
  subst hn
  obtain rfl : (⟨l.toArray⟩ : ByteArray) = s2 := by rw [← hs]
  exact run_convert_bytes_back (P := Tryz.prog) w 22 9 5 ⟨B, 0, none⟩ cap l Tryz.underlying22 Tryz.underlying5 Tryz.underlying9 (fun i h' => by
    rw [show (⟨B, 0, none⟩ : Addr).add i = ⟨B, i, none⟩ from by by_cases hi : i = 0 <;> simp [Addr.add, hi]]
    exact h i h')
theorem BytesAt.below {w w' : World} {B : Nat} {l : List UInt8} (h : BytesAt w B l) {b : Nat} (hb : Below b w w') (hB : B < b) : BytesAt w' B l := fun i hi => (hb.cell (p := ⟨B, i, none⟩) hB).trans (h i hi)
end Go.Proofs.YtpkefohcccpncaaGreatDoor
namespace Go.Proofs.YtpkefohcccpncaaGreatDoor
open Go.RowKit
set_option linter.unusedSimpArgs false
set_option linter.unusedVariables false

theorem own_far {w : World} {B e size n : Nat} {v u : Value} {xs : List Value} {p : Addr} {t : TypeId} {cs : Array Value} (hown : w.ownsRow B e size v n xs) (hb : Blk w p.block t cs) (hne : e ≠ t) : (w.setCell p u).ownsRow B e size v n xs :=
  hown.kept (row := some p.block) (grownBy_setCell (World.grownBy.refl _ _) (.inl rfl) _) (.inr (own_blk_ne hown hb hne))
theorem PsI.far {w : World} {B g : Nat} {st : PS} {tv nv : Value} {vs : List Value} {lim : Nat} (h : PsI w B g st tv nv vs lim) {p : Addr} {t : TypeId} {cs : Array Value} (hb : Blk w p.block t cs) (h1 : 9 ≠ t) (h2 : 45 ≠ t) (h3 : 88 ≠ t) (u : Value)
    (h5 : ∀ k (h : k < vs.length) g', vs[k].ownBlock = some g' → g' ≠ p.block) : PsI (w.setCell p u) B g st tv nv vs lim := by
  have hs : (w.setCell p u).heap.size = w.heap.size := by simp [World.setCell]
  refine ⟨h.blk.far (h.blk.ne_ hb h3) u, h.gB, by rw [hs]; exact h.Bw, own_far h.nm hb h1, h.vl, own_far h.th hb h2, fun k h6 h7 => ?_, by rw [hs]; exact h.limw, h.pre, h.last, h.dis⟩
  exact (h.ln k h6 h7).kept (row := some p.block) (grownBy_setCell (World.grownBy.refl _ _) (.inl rfl) _) (.inr (fun e => h5 k h6 _ e rfl))
theorem infoLine : (Tryz.prog.info? 42).map (fun i => (i.zero, i.size, i.bytes)) = some (some (.agg #[.int .i64 0, .int .i64 0, .int .i64 0]), 3, 24) := by kernel_rfl
def LinePost (w : World) (B g : Nat) (r : Option PS) (e : Ending) (w' : World) : Prop :=
  e = .returned (.bool r.isSome) ∧ FrB B g w w' ∧ ∀ st', r = some st' → ∃ tv nv vs lim, PsI w' B g st' tv nv vs lim
/-- bounds of what the reader holds -/
structure PsB (st : PS) (N : Nat) : Prop where
  ts : st.ts.length ≤ N
  ns : st.ns.length ≤ N
  ls : ∀ t ∈ st.ts, t.ls.length ≤ N
set_option maxRecDepth 100000 in
set_option maxHeartbeats 4000000 in
theorem line_any (B g : Nat) (st : PS) (tv nv : Value) (vs : List Value) (lim : Nat) (at_ : Nat) (key rest : ByteArray) (more : Bool) (w : World) (hat : at_ ≤ 5000) (hks : key.size ≤ 5000) (hrs : rest.size ≤ 5000) (hg : GlobP w) (h : PsI w B g st tv nv vs lim) (hB : PsB st 5000) (hne : st.ts ≠ [])
    (r : Option PS) (hr : rdLine st at_ key.data.toList rest.data.toList more = r) :
    Calls Tryz.prog 74 #[.pointer (some ⟨g, 0, none⟩), .int .i64 at_, .string key, .string rest, .bool more] w (LinePost w B g r) := by
  have H := Lib.hid h
  have HG := Lib.hid hg
  have HR := Lib.hid hr
  have HNE := Lib.hid hne
  have HB := Lib.hid hB
  have IX : Hid (∀ o, o = Obj.cells #[.string key] 9 → Calls Tryz.prog 90 #[.slice (some ⟨0, 0, none⟩) 8 8, .func (.func 91) #[] #[.pointer (some ⟨w.heap.size, 0, none⟩)]] (w.alloc o) fun e w' => e = .returned (.int .i64 (kindR key.data.toList)) ∧ Below (w.alloc o).heap.size (w.alloc o) w') := Lib.hid (fun o ho => by
    subst ho
    exact idxWord_any key w.heap.size _ (hg.below ((Below.refl _ _).alloc (Nat.le_refl _) _)) (by rw [cell_of_row _ _ _ _ _ _ (heap_alloc_new w _)]; rfl) (by simp))
  clear h hg hr hne hB
  by_cases hk : kindOf key.data.toList = 0
  · have HF : Hid (r = none) := Lib.hid (by rw [← HR.out]; unfold rdLine; rw [if_pos hk])
    have hkr : kindR key.data.toList = -1 := by unfold kindR; rw [if_pos hk]
    rw [hkr] at IX
    clear hk hkr
    go_enter Tryz.func74, Tryz.ntmps74
    go_wp2_with (go_at_call 90; go_must (refine (IX.out _ rfl).mono ?_; rintro e w1 ⟨rfl, hb1⟩))
    go_ret
    exact ⟨ret_bool (by rw [HF.out]; rfl), ((FrB.refl B g w).alloc H.out.Bw _).trans (FrB.of_below hb1 (by have := H.out.Bw; simp; omega)), fun st' e => by rw [HF.out] at e; cases e⟩
  · obtain ⟨hkk, k1, k7⟩ := kindOf_eq hk
    have hkr : kindR key.data.toList = (kindOf key.data.toList : Int) := by unfold kindR; rw [if_neg hk]
    rw [hkr] at IX
    generalize hkd : kindOf key.data.toList = kk at *
    have HKD := Lib.hid hkd
    clear hk hkr hkk hkd
    go_enter Tryz.func74, Tryz.ntmps74
    go_upto_block 0 with (go_at_call 90; go_must (refine (IX.out _ rfl).mono ?_; rintro e w1 ⟨rfl, hb1⟩; have hz1 := hb1.size; have hq : w1.cell? ⟨0, kk * 2 + 1, none⟩ = some (.int .i64 (argOf kk)) := ((HG.out.below (((Below.refl _ _).alloc (Nat.le_refl _) _).trans (hb1.mono (by simp)))).wd kk (by omega)).2; have hl := (HG.out.below (((Below.refl _ _).alloc (Nat.le_refl _) _).trans (hb1.mono (by simp)))).lt.2.2.1))
    have HB1 : Hid (Below w.heap.size w w1) := Lib.hid (((Below.refl _ _).alloc (Nat.le_refl _) _).trans (hb1.mono (by simp)))
    have hz2 : w.heap.size < w1.heap.size := by simp at hz1; omega
    clear hb1 IX hz1
    go_cut [13] from 17 to 46 (fun s13 wx => ∃ (nm : ByteArray) (a : Int), s13 = .string nm ∧ Hid (r = some { st with ts := putLn st.ts ⟨(kk : Int), a, (at_ : Int)⟩, ns := st.ns ++ [nm.data.toList] } ∧ PsI wx B g st tv nv vs lim ∧ FrB B g w wx ∧ Blk wx w1.heap.size 42 #[.int .i64 kk, .int .i64 a, .int .i64 at_] ∧ GlobP wx))
    case first =>
      have hBw := H.out.Bw
      have HGA : Hid (∀ o, GlobP (w1.alloc o)) := Lib.hid (fun o => HG.out.below (HB1.out.alloc (by omega) o))
      have HFA : Hid (∀ o, FrB B g w (w1.alloc o)) := Lib.hid (fun o => (FrB.of_below HB1.out hBw).alloc (by omega) o)
      have HPA : Hid (∀ o, PsI (w1.alloc o) B g st tv nv vs lim) := Lib.hid (fun o => (H.out.below HB1.out).alloc o)
      by_cases a0 : argOf kk = 0
      · have e0 : ((argOf kk : Int) == 0) = true := by simp [a0]
        cases more
        · have HF : Hid (r = some { st with ts := putLn st.ts ⟨(kk : Int), 0, (at_ : Int)⟩, ns := st.ns ++ [[]] }) := Lib.hid (by
            rw [← HR.out]; unfold rdLine; rw [HKD.out, if_neg (by omega), if_pos a0, if_neg (by decide)])
          clear a0
          go_wp2_with fail
          go_meet
          exact ⟨⟨#[]⟩, 0, rfl, Lib.hid ⟨HF.out, HPA.out _, HFA.out _, Blk.new _ _ _, HGA.out _⟩⟩
        · have HF : Hid (r = none) := Lib.hid (by
            rw [← HR.out]; unfold rdLine; rw [HKD.out, if_neg (by omega), if_pos a0, if_pos rfl])
          clear a0
          go_wp2_with fail
          go_ret
          exact ⟨ret_bool (by rw [HF.out]; rfl), HFA.out _, fun st' e => by rw [HF.out] at e; cases e⟩
      by_cases a3 : argOf kk = 3
      · have e0 : ((argOf kk : Int) == 0) = false := by simp; omega
        have e3 : ((argOf kk : Int) == 3) = true := by simp [a3]
        obtain ⟨b, hb⟩ : ∃ b, namedL rest.data.toList = b := ⟨_, rfl⟩
        have NM : Hid (∀ o, Calls Tryz.prog 44 #[.string rest] (w1.alloc o) fun e w' => e = .returned (.bool b) ∧ w1.alloc o = w') := Lib.hid (fun o => named_any rest _ (by omega) (HGA.out o) b hb)
        cases b
        · have HF : Hid (r = none) := Lib.hid (by
            rw [← HR.out]; unfold rdLine; rw [HKD.out, if_neg (by omega), if_neg a0, if_pos a3, if_neg (by rw [hb]; decide)])
          clear a0 a3 hb
          go_wp2_with (go_at_call 44; go_must (refine (NM.out _).mono ?_; rintro e w' ⟨rfl, rfl⟩))
          go_ret
          exact ⟨ret_bool (by rw [HF.out]; rfl), HFA.out _, fun st' e => by rw [HF.out] at e; cases e⟩
        · have HF : Hid (r = some { st with ts := putLn st.ts ⟨(kk : Int), 0, (at_ : Int)⟩, ns := st.ns ++ [rest.data.toList] }) := Lib.hid (by
            rw [← HR.out]; unfold rdLine; rw [HKD.out, if_neg (by omega), if_neg a0, if_pos a3, if_pos hb])
          clear a0 a3 hb
          go_wp2_with (go_at_call 44; go_must (refine (NM.out _).mono ?_; rintro e w' ⟨rfl, rfl⟩))
          go_meet
          exact ⟨rest, 0, rfl, Lib.hid ⟨HF.out, HPA.out _, HFA.out _, Blk.new _ _ _, HGA.out _⟩⟩
      · have e0 : ((argOf kk : Int) == 0) = false := by simp; omega
        have e3 : ((argOf kk : Int) == 3) = false := by simp; omega
        obtain ⟨b, hb⟩ : ∃ b, numL rest.data.toList = b := ⟨_, rfl⟩
        have NM : Hid (∀ o, Calls Tryz.prog 89 #[.string rest] (w1.alloc o) (NumPost (w1.alloc o) rest.data.toList b)) := Lib.hid (fun o => numberP_any rest _ (by omega) (HGA.out o) b hb)
        cases b
        · have HF : Hid (r = none) := Lib.hid (by
            rw [← HR.out]; unfold rdLine; rw [HKD.out, if_neg (by omega), if_neg a0, if_neg a3, if_neg (by rw [hb]; decide)])
          clear a0 a3 hb
          go_wp2_with (go_at_call 89; go_must (refine (NM.out _).mono ?_; rintro e w2 ⟨n, rfl, hb2, _⟩))
          go_ret
          exact ⟨ret_bool (by rw [HF.out]; rfl), (HFA.out _).trans (FrB.of_below hb2 (by simp; omega)), fun st' e => by rw [HF.out] at e; cases e⟩
        · have HF : Hid (r = some { st with ts := putLn st.ts ⟨(kk : Int), valD rest.data.toList, (at_ : Int)⟩, ns := st.ns ++ [[]] }) := Lib.hid (by
            rw [← HR.out]; unfold rdLine; rw [HKD.out, if_neg (by omega), if_neg a0, if_neg a3, if_pos hb])
          clear a0 a3 hb
          go_wp2_with (go_at_call 89; go_must (refine (NM.out _).mono ?_; rintro e w2 ⟨n, rfl, hb2, hn⟩; (have HN := Lib.hid (hn rfl)); (have q3 : Blk w2 w1.heap.size 42 #[.int .i64 kk, .int .i64 0, .int .i64 at_] := (Blk.new w1 _ _).below hb2 (by simp)); (have q4 := q3.cell 1); (have q5 := q3.frozen 1); (have Q3 := Lib.hid q3); (have HB2 := Lib.hid hb2); clear q3 hb2 hn))
          go_meet
          refine ⟨⟨#[]⟩, n, rfl, Lib.hid ⟨by rw [HF.out, HN.out], ?_, ?_, Q3.out.set_ 1 _, ?_⟩⟩
          · have hp2 := (HPA.out _).below HB2.out
            exact hp2.far (p := ⟨w1.heap.size, 1, none⟩) Q3.out (by decide) (by decide) (by decide) _ (fun k h g' e => by
              have := ((H.out.below HB1.out).ln k h (by rw [← H.out.vl]; exact h)).lt _ e
              simp only []; omega)
          · exact ((HFA.out _).trans (FrB.of_below HB2.out (by simp; omega))).setCell (p := ⟨w1.heap.size, 1, none⟩) (.inr (by simp; omega)) _
          · exact HG.out.below ((HB1.out.alloc (by omega) _).trans (HB2.out.mono (by simp; omega)) |>.setCell (p := ⟨w1.heap.size, 1, none⟩) (by simp; omega) _)
    case rest =>
      obtain ⟨nm, a, rfl, HC⟩ := hcut
      clear hq hl
      obtain ⟨hr, hp, hfr, hlb, hgw⟩ := HC.out
      have HRR := Lib.hid hr
      have HP := Lib.hid hp
      have HFR := Lib.hid hfr
      have HLB := Lib.hid hlb
      have HGW := Lib.hid hgw
      obtain ⟨q0, q1, q2, q3, f0, f1, f2, f3⟩ := hp.cells
      obtain ⟨gt, c, rfl, hgtB, hgtl⟩ := hp.th.form (List.length_pos_iff.2 HNE.out)
      obtain ⟨pre, t, hts⟩ : ∃ pre t, st.ts = pre ++ [t] := ⟨_, _, (List.dropLast_concat_getLast HNE.out).symm⟩
      obtain ⟨ntl, hntl⟩ : ∃ ntl, st.ts.length = ntl + 1 := ⟨pre.length, by rw [hts]; simp⟩
      have hB5 := HB.out.ts
      rw [hntl] at q1 hB5
      clear hr hp hfr hlb hgw q0 q2 q3 f0 f2 f3
      have dw : IntKind.i64.wrap (ntl : Int) = ntl := wrapI64 ntl (by omega)
      have dw2 : IntKind.i64.wrap ((ntl : Int) + 1 - 1) = ntl := by rw [show (ntl : Int) + 1 - 1 = ntl from by omega]; exact dw
      have dlt : ntl < ntl + 1 := by omega
      have dnn : decide ((0 : Int) ≤ ntl) = true := by simp
      go_wp2_with fail
      go_quiet (fail)
      go_wp2_with fail
      refine wp_world (fun W => Hid (PsI W B g st (.slice (some ⟨gt, 0, none⟩) st.ts.length c) nv vs lim ∧ FrB B g w W ∧ Blk W w1.heap.size 42 #[.int .i64 kk, .int .i64 a, .int .i64 at_])) (Lib.hid ⟨HP.out.drewN _, HFR.out.drewN _, HLB.out.drewN _⟩) ?_
      clear hB5 dw dw2 dlt dnn q1 HP HFR HLB HGW HC hgtl
      intro W HW
      obtain ⟨hp, hfr, hlb⟩ := HW.out
      have hpre : pre.length = ntl := by rw [hts] at hntl; simpa using hntl
      obtain ⟨pvs, vn, hvs⟩ : ∃ pvs vn, vs = pvs ++ [vn] := ⟨_, _, (List.dropLast_concat_getLast (by intro e; have := hp.vl; rw [e, hntl] at this; simp at this)).symm⟩
      have hpl : pvs.length = pre.length := by have := hp.vl; rw [hvs, hts] at this; simpa using this
      have hvn : W.ownsRow B 42 3 vn t.ls.length (lnCells t.ls) := by
        have := hp.ln pre.length (by rw [hvs]; simp [hpl]) (by rw [hts]; simp)
        simpa [hvs, hts, hpl, List.getElem_append_right] using this
      obtain ⟨LA, lc, rfl⟩ := own_form hvn
      have htl : t.ls.length ≤ 5000 := HB.out.ls t (by rw [hts]; simp)
      obtain ⟨ln, hln⟩ : ∃ ln, t.ls.length = ln := ⟨_, rfl⟩
      rw [hln] at hvn hvs htl
      have hth := hp.th
      have hcl : W.cell? ⟨gt, ntl * 2 + 1, none⟩ = some (.slice LA ln lc) := by
        rw [hth.cellAt (ntl * 2 + 1) (by rw [hntl]; omega)]
        have h1 := (thCells_get st.ts vs hp.vl ntl (by omega)).2
        rw [h1]
        simp [hvs, ← hpre, ← hpl]
      have b0 := hlb.cell 0
      have b1 := hlb.cell 1
      have b2 := hlb.cell 2
      obtain ⟨i0, hi, hz0, hz1, hz2⟩ := info_parts infoLine
      have HI := Lib.hid hi
      have H0 := Lib.hid hz0
      have H1 := Lib.hid hz1
      have H2 := Lib.hid hz2
      have hBW := hp.Bw
      have hgtB' : B ≤ gt := hgtB
      have hgtW : gt < W.heap.size := (hth.lt gt rfl).2
      have hlbW : w1.heap.size < W.heap.size := hlb.lt
      have hgW : g < W.heap.size := hp.blk.lt
      have HO : Hid (((W.alloc (.cells #[.int .i64 kk, .int .i64 a, .int .i64 at_] 42)).drew).ownsRow B 42 3 (.slice LA ln lc) ln (lnCells t.ls)) := Lib.hid (hvn.alloc _)
      have HRD : Hid (Reads ((W.alloc (.cells #[.int .i64 kk, .int .i64 a, .int .i64 at_] 42)).drew) (W.heap.size + 1) 3 (some ⟨W.heap.size, 0, none⟩) 1 (lnCells [⟨(kk : Int), a, (at_ : Int)⟩])) := Lib.hid
        ⟨rfl, fun _ => ⟨_, rfl, Nat.lt_succ_self _, cells_new_list W 42 (lnCells [⟨(kk : Int), a, (at_ : Int)⟩])⟩⟩
      have HTH : Hid (((W.alloc (.cells #[.int .i64 kk, .int .i64 a, .int .i64 at_] 42)).drew).ownsRow B 45 2 (.slice (some ⟨gt, 0, none⟩) st.ts.length c) st.ts.length (thCells st.ts vs)) := Lib.hid (hth.alloc _)
      have HCELL : Hid ((thCells st.ts vs)[ntl * 2 + 1]? = some (.slice LA ln lc)) := Lib.hid (by
        rw [(thCells_get st.ts vs hp.vl ntl (by omega)).2]
        simp [hvs, ← hpre, ← hpl])
      have HIX : Hid (ntl * 2 + 1 < st.ts.length * 2) := Lib.hid (by rw [hntl]; omega)
      have HP2 := Lib.hid hp
      have HFR2 := Lib.hid hfr
      have HVN := Lib.hid hvn
      have HVS := Lib.hid hvs
      have HTS := Lib.hid hts
      have HPRE := Lib.hid hpre
      have HLN := Lib.hid hln
      have HNTL := Lib.hid hntl
      clear hp hfr hlb hth hvn hvs hts hpre hpl hln hntl hi hz0 hz1 hz2 HW
      go_region_law (refine step_append_any _ rfl (.tmp 64) (.tmp 66) 43 rfl B 42 i0 _ 3 24 Tryz.underlying43 HI.out H0.out H1.out H2.out rfl (by decide) (.slice LA ln lc) ln (lnCells t.ls) (by simp [Act.eval, Act.put]) HO.out (W.heap.size + 1) (some ⟨W.heap.size, 0, none⟩) 1 1 (lnCells [⟨(kk : Int), a, (at_ : Int)⟩]) (by simp [Act.eval, Act.put]) HRD.out (by simp [lnCells, Value.oneCell']) (by unfold maxLen; omega) (by omega) (by simp <;> omega) ?_; intro v7 w7 hown7 hgr7 hd7; obtain ⟨A7, c7, rfl⟩ := own_form hown7; have hth7 := own_kept_grow HTH.out HO.out (by decide) hgr7; have k0 : w7.cell? ⟨gt, ntl * 2 + 1, none⟩ = some (.slice LA ln lc) := (hth7.cellAt (ntl * 2 + 1) HIX.out).trans HCELL.out; have k1 := hth7.frozenAt (ntl * 2 + 1); have HO7 := Lib.hid hown7; have HG7 := Lib.hid hgr7; have HD7 := Lib.hid hd7; clear hown7 hgr7 hd7 hth7)
      all_goals
        go_upto_region 20 with fail
        have hown8 : w7.ownsRow B 42 3 (.slice A7 (ln + 1) c7) (t.ls ++ [(⟨(kk : Int), a, (at_ : Int)⟩ : Ln)]).length (lnCells (t.ls ++ [⟨(kk : Int), a, (at_ : Int)⟩])) := by
          have := HO7.out
          rw [lnCells_append, List.length_append, HLN.out]; exact this
        have hput := PsI.put (HP2.out.below (((Below.refl _ _).alloc (Nat.le_refl _) (.cells #[.int .i64 kk, .int .i64 a, .int .i64 at_] 42)).drew)) HTS.out HVS.out rfl ⟨(kk : Int), a, (at_ : Int)⟩ hown8 HG7.out HD7.out
        rw [HPRE.out] at hput
        refine wp_world (fun W2 => Hid ((∃ tv' vs', PsI W2 B g { st with ts := putLn st.ts ⟨(kk : Int), a, (at_ : Int)⟩ } tv' nv vs' lim) ∧ FrB B g w W2)) (Lib.hid ⟨⟨_, _, hput.1⟩, ((HFR2.out.alloc hBW (.cells #[.int .i64 kk, .int .i64 a, .int .i64 at_] 42)).drewN 1).trans hput.2⟩) ?_
        clear hput hown8 HO7 HG7 HD7 HP2 HFR2 HTH HO HRD HVN HVS HCELL HIX b0 b1 b2 k0 k1 hcl
        intro W2 HW2
        obtain ⟨⟨tv2, vs2, hp2⟩, hfr2⟩ := HW2.out
        have hb2w := hp2.Bw
        obtain ⟨q0, q1, q2, q3, f0, f1, f2, f3⟩ := hp2.cells
        obtain ⟨NA, nc, rfl⟩ := own_form hp2.nm
        have hnl := HB.out.ns
        obtain ⟨i1, hi1, hz3, hz4, hz5⟩ := info_parts infoString
        have hgW2 : g < W2.heap.size := hp2.blk.lt
        have HP3 := Lib.hid hp2
        have HFR3 := Lib.hid hfr2
        have HNM : Hid (W2.ownsRow B 9 1 (.slice NA st.ns.length nc) st.ns.length (st.ns.map fun x => Value.string ⟨x.toArray⟩)) := Lib.hid hp2.nm
        have HGN : Hid (some g ≠ (Value.slice NA st.ns.length nc).ownBlock) := Lib.hid (fun e => PsI.g_ne hp2.nm hp2.gB e.symm)
        clear hp2 hfr2 HW2
        go_wp2_with (at_builtin; go_must (refine wpList_append_own _ rfl _ _ 60 rfl B 9 i1 _ 1 16 Tryz.underlying60 hi1 hz3 hz4 hz5 rfl (by decide) _ _ _ rfl (HNM.out.alloc _) ⟨W2.heap.size, 0, none⟩ 1 1 [.string nm] rfl rfl (cells_new_list W2 _ _) (by simp [Value.oneCell']) (by unfold maxLen; omega) (by omega) (by simp; omega) ?_; intro v9 w9 hown9 hgr9 _; obtain ⟨A9, c9, rfl⟩ := own_form hown9; (have hk9 : Blk w9 g 88 _ := (HP3.out.blk.alloc _).grown hgr9 HGN.out); (have k9 := hk9.cell 3); (have k8 := hk9.frozen 3); (have HO9 := Lib.hid hown9); (have HG9 := Lib.hid hgr9); clear hown9 hgr9 hk9))
        go_ret
        have hown10 : w9.ownsRow B 9 1 (.slice A9 (st.ns.length + 1) c9) (st.ns ++ [nm.data.toList]).length ((st.ns ++ [nm.data.toList]).map fun x => Value.string ⟨x.toArray⟩) := by
          have := HO9.out
          rw [List.length_append, List.map_append]; exact this
        have hname := PsI.name (HP3.out.below ((Below.refl _ _).alloc (Nat.le_refl _) (.cells #[.string nm] 9))) hown10 HG9.out
        exact ⟨ret_bool (by rw [HRR.out]; rfl), (HFR3.out.alloc hb2w _).trans hname.2, fun st' e => by
          rw [HRR.out] at e; injection e with e; subst e
          exact ⟨_, _, _, _, hname.1⟩⟩
end Go.Proofs.YtpkefohcccpncaaGreatDoor
