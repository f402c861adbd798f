/- Part of a proof of basisSets_holds. -/
import Derived.Test.YtbmheekaclmibaaGreatXNumAQ
import Derived.Test.YtbmheekaclmibaaGreatXMatAQ
set_option maxRecDepth 100000
set_option maxHeartbeats 16000000
namespace Go.Proofs.YtbmheekaclmibaaGreat
open Go.RowKit
set_option linter.unusedSimpArgs false
set_option linter.unusedVariables false
theorem embG_rel {α β : Type} {f : α → α → Bool} {g : β → β → Bool} {R S : α → β → Prop} (h : ∀ p a q b, R p a → S q b → f p q = g a b) {qs : List α} {bs : List β} (h2 : All2 S qs bs) : ∀ {ps : List α} {xs : List β}, All2 R ps xs → embG f ps qs = embG g xs bs := by
 induction h2 with
 | nil => intro ps xs h1; cases h1 <;> rfl
 | @cons q b qs bs hs _ ih =>
   intro ps xs h1
   cases h1 with
   | nil => rfl
   | @cons p a ps xs hr h1 =>
     simp only [embG]
     rw [h p a q b hr hs, ih h1, ih (.cons hr h1)]
theorem all2_get {α β : Type} {R : α → β → Prop} : ∀ {l : List α} {l' : List β}, l.length = l'.length → (∀ i (h : i < l.length) (h' : i < l'.length), R l[i] l'[i]) → All2 R l l'
 | [], [], _, _ => .nil
 | [], _ :: _, h, _ => by simp at h
 | _ :: _, [], h, _ => by simp at h
 | a :: l, b :: l', h, hr => .cons (hr 0 (by simp) (by simp)) (all2_get (by simpa using h) fun i h1 h2 => hr (i + 1) (by simpa using h1) (by simpa using h2))
theorem starts_all {t : V} {i : Nat} (hi : i < (subs t).length) : All2 (fun p v => ∃ h : p < (subs t).length, (subs t)[p] = v) (starts (i + 1) (subs t)[i].ks) (subs t)[i].ks := by
 refine all2_get (starts_length _ _) fun j h1 h2 => ?_
 obtain ⟨p, e, hp, h3, _⟩ := kid_at hi h2
 rw [List.getElem?_eq_getElem h1] at e
 rw [Option.some.inj e]
 exact ⟨hp, h3⟩
theorem plc_sub {a b : V} {i j : Nat} (hi : i < (subs a).length) (hj : j < (subs b).length) : (plc (intoP a b) (starts (i + 1) (subs a)[i].ks) (starts (j + 1) (subs b)[j].ks)).isSome = subT (subs a)[i].ks (subs b)[j].ks := by
 rw [plc_embG, subT_eq]
 refine embG_rel (fun p x q y h1 h2 => ?_) (starts_all hj) (starts_all hi)
 obtain ⟨hp, rfl⟩ := h1
 obtain ⟨hq, rfl⟩ := h2
 exact into_iff hp hq
def toN (a b : V) (i j : Nat) : List Nat := (List.range j).filter fun j => match (subs a)[i]?, (subs b)[j]? with | some x, some y => rootE x y | _, _ => false
theorem toN_yes {a b : V} {i j : Nat} (hi : i < (subs a).length) (hj : j < (subs b).length) (h : rootE (subs a)[i] (subs b)[j] = true) : toN a b i (j + 1) = toN a b i j ++ [j] := by
 unfold toN
 rw [List.range_succ, List.filter_append]
 congr 1
 rw [List.filter_cons, List.getElem?_eq_getElem hi, List.getElem?_eq_getElem hj]
 simp [h]
theorem toN_no {a b : V} {i j : Nat} (hi : i < (subs a).length) (hj : j < (subs b).length) (h : rootE (subs a)[i] (subs b)[j] = false) : toN a b i (j + 1) = toN a b i j := by
 unfold toN
 rw [List.range_succ, List.filter_append]
 rw [List.filter_cons, List.getElem?_eq_getElem hi, List.getElem?_eq_getElem hj]
 simp [h]
theorem toN_le (a b : V) (i j : Nat) : (toN a b i j).length ≤ j := by
 unfold toN; have := List.length_filter_le (fun j => match (subs a)[i]?, (subs b)[j]? with | some x, some y => rootE x y | _, _ => false) (List.range j); simpa using this
def tlAt (a b : V) (i j : Nat) : List (List Nat) := (List.range a.size).map fun p => if p < i then [] else if p = i then toN a b i j else toP a b p
theorem tlAt_length (a b : V) (i j : Nat) : (tlAt a b i j).length = a.size := by simp [tlAt]
theorem tlAt_get {a b : V} {i j p : Nat} (h : p < a.size) : (tlAt a b i j)[p]? = some (if p < i then [] else if p = i then toN a b i j else toP a b p) := by simp [tlAt, h]
theorem tlAt_set {a b : V} {i j : Nat} (hi : i < a.size) (l : List Nat) (h : l = toN a b i (j + 1)) : (tlAt a b i j).set i l = tlAt a b i (j + 1) := by
 apply List.ext_getElem?
 intro p
 rw [List.getElem?_set]
 by_cases hp : p < a.size
 · rw [tlAt_get hp, tlAt_get hp]
   by_cases e : i = p
   · subst e; rw [if_pos rfl, if_pos (by rw [tlAt_length]; exact hi), if_neg (by omega), if_pos rfl, h]
   · rw [if_neg e]
     by_cases h1 : p < i
     · rw [if_pos h1, if_pos h1]
     · rw [if_neg h1, if_neg h1, if_neg (Ne.symm e), if_neg (Ne.symm e)]
 · have h1 : (tlAt a b i j)[p]? = none := List.getElem?_eq_none (by rw [tlAt_length]; omega)
   have h2 : (tlAt a b i (j + 1))[p]? = none := List.getElem?_eq_none (by rw [tlAt_length]; omega)
   rw [h1, h2]
   split
   · rename_i e; subst e; rw [if_neg (by rw [tlAt_length]; omega)]
   · rfl
theorem tlAt_same {a b : V} {i j : Nat} (h : toN a b i (j + 1) = toN a b i j) : tlAt a b i (j + 1) = tlAt a b i j := by
 unfold tlAt
 rw [h]
structure SolI (w wr : World) (L g tg : Nat) (a b : V) (av bv : Value) (vs : List Value) (tl : List (List Nat)) : Prop where
 blk : Blk wr g 163 #[av, bv, .slice (some ⟨tg, 0, none⟩) a.size a.size]
 tb : Blk wr tg 22 vs.toArray
 vl : vs.length = a.size
 tll : tl.length = a.size
 row : ∀ p (h : p < vs.length) (h' : p < tl.length), wr.ownsRow L 3 1 vs[p] tl[p].length (intVs (natInts tl[p]))
 dis : ∀ p q (h : p < vs.length) (h' : q < vs.length), p ≠ q → vs[p].ownBlock = none ∨ vs[p].ownBlock ≠ vs[q].ownBlock
 na : NB wr g av (nodesP a)
 nb : NB wr g bv (nodesP b)
 gr : w.grownBy wr (some g)
 gl : g < w.heap.size
 tgl : w.heap.size ≤ tg
 L : w.heap.size ≤ L ∧ L ≤ wr.heap.size
theorem SolI.src {w wr : World} {L g tg : Nat} {a b : V} {av bv : Value} {vs : List Value} {tl : List (List Nat)} (h : SolI w wr L g tg a b av bv vs tl) (h9 : a.size ≤ 1000) : SrcI wr wr.heap.size g a b av bv (.slice (some ⟨tg, 0, none⟩) a.size a.size) tl := by
 have hs := h.gr.size
 refine ⟨h.blk, h.na.keep (fun b hb => Nat.lt_trans hb h.blk.lt) (fun _ _ => rfl), h.nb.keep (fun b hb => Nat.lt_trans hb h.blk.lt) (fun _ _ => rfl), ⟨_, _, _, rfl, h.tll, Nat.le_refl _, by unfold maxLen; omega, fun hn => ⟨_, rfl, h.tb.lt, fun k hk => ?_⟩⟩, h.tll, h.blk.lt, Nat.le_refl _⟩
 have hk' : k < vs.length := by rw [h.vl, ← h.tll]; exact hk
 refine ⟨vs[k], ?_, (own_IB (h.row k hk' hk) (by simp [natInts])).keep (fun b hb => hb.2) (fun _ _ => rfl)⟩
 have e : ((⟨tg, 0, none⟩ : Addr).add k) = ⟨tg, k, none⟩ := by
   unfold Addr.add
   by_cases h0 : k = 0 <;> simp [h0]
 rw [e, h.tb.cell k]
 simp [hk']
theorem SolI.keep {w wr W : World} {L g tg : Nat} {a b : V} {av bv : Value} {vs : List Value} {tl : List (List Nat)} (h : SolI w wr L g tg a b av bv vs tl) (k : Bw wr W) : SolI w W L g tg a b av bv vs tl :=
 ⟨h.blk.below k.b h.blk.lt, h.tb.below k.b h.tb.lt, h.vl, h.tll, fun p h1 h2 => own_kept_bw (h.row p h1 h2) k, h.dis, h.na.keep (fun _ h => h) (fun p hp => k.b.cell (Nat.lt_trans hp h.blk.lt)), h.nb.keep (fun _ h => h) (fun p hp => k.b.cell (Nat.lt_trans hp h.blk.lt)), grownBy_below h.gr k.b, h.gl, h.tgl, ⟨h.L.1, Nat.le_trans h.L.2 k.size⟩⟩
theorem SolI.put {w W w7 : World} {L g tg i j : Nat} {a b : V} {av bv v7 : Value} {vs : List Value} {tl : List (List Nat)} (h : SolI w W L g tg a b av bv vs tl) (hi : i < vs.length) (hi' : i < tl.length)
   (hown : w7.ownsRow L 3 1 v7 (tl[i].length + 1) (intVs (natInts tl[i]) ++ [.int .i64 (j : Int)])) (hg : W.grownBy w7 vs[i].ownBlock) (hb : v7.ownBlock = vs[i].ownBlock ∨ v7.ownBlock = some W.heap.size) (hgL : g < L) (htL : tg < L) :
   SolI w (w7.setCell ⟨tg, i, none⟩ v7) L g tg a b av bv (vs.set i v7) (tl.set i (tl[i] ++ [j])) := by
 have hlt : ∀ b, vs[i].ownBlock = some b → L ≤ b ∧ b < W.heap.size := fun b e => (h.row i hi hi').lt b e
 have ne : ∀ r, r < L → some r ≠ vs[i].ownBlock := fun r hr e => by have := (hlt r e.symm).1; omega
 have hv7 : ∀ b, v7.ownBlock = some b → L ≤ b := fun b e => (hown.lt b e).1
 have e1 := grownBy_setCell (p := ⟨tg, i, none⟩) (World.grownBy.refl w7 (some tg)) (.inl rfl) v7
 have htb7 := h.tb.grown hg (ne tg htL)
 have hLs := h.L
 refine ⟨(h.blk.grown hg (ne g hgL)).far (by dsimp only; have := h.gl; have := h.tgl; omega) _, ?_, by simp [h.vl], by simp [h.tll], fun p h1 h2 => ?_, fun p q h1 h2 hpq => ?_, ?_, ?_, ?_, h.gl, h.tgl, ⟨hLs.1, by have := hg.size; simp [World.setCell]; omega⟩⟩
 · have := htb7.set_ i v7
   have e2 : vs.toArray.setIfInBounds i v7 = (vs.set i v7).toArray := by simp
   rw [e2] at this
   exact this
 · have h1' : p < vs.length := by simpa using h1
   have h2' : p < tl.length := by simpa using h2
   by_cases e : p = i
   · subst e
     have e3 : (vs.set p v7)[p]'h1 = v7 := by simp
     have e4 : (tl.set p (tl[p] ++ [j]))[p]'h2 = tl[p] ++ [j] := by simp
     rw [e3, e4]
     have e5 : intVs (natInts (tl[p] ++ [j])) = intVs (natInts tl[p]) ++ [.int .i64 (j : Int)] := by simp [intVs, natInts]
     rw [e5]
     have := hown.kept e1 (.inr (fun e => by have := hv7 tg e; omega))
     simpa using this
   · have e3 : (vs.set i v7)[p]'h1 = vs[p] := by simp [Ne.symm e]
     have e4 : (tl.set i (tl[i] ++ [j]))[p]'h2 = tl[p] := by simp [Ne.symm e]
     rw [e3, e4]
     have hr := h.row p h1' h2'
     have hr7 := hr.kept hg (h.dis p i h1' hi e)
     refine hr7.kept e1 ?_
     rcases ho : vs[p].ownBlock with _ | r
     · exact .inl rfl
     · right; intro e; injection e with e; have := (hr.lt r ho).1; omega
 · have h1' : p < vs.length := by simpa using h1
   have h2' : q < vs.length := by simpa using h2
   have key : ∀ r, r ≠ i → ∀ (hr : r < vs.length), vs[r].ownBlock = none ∨ vs[r].ownBlock ≠ v7.ownBlock := fun r hr hrl => by
     rcases hb with e | e
     · rw [e]; exact h.dis r i hrl hi hr
     · rcases ho : vs[r].ownBlock with _ | x
       · exact .inl rfl
       · right; rw [e]; intro e2; injection e2 with e2
         have := ((h.row r hrl (by rw [h.tll, ← h.vl]; exact hrl)).lt x ho).2; omega
   by_cases e : p = i
   · subst e
     have e3 : (vs.set p v7)[p]'h1 = v7 := by simp
     have e4 : (vs.set p v7)[q]'h2 = vs[q] := by simp [hpq]
     rw [e3, e4]
     rcases ho : v7.ownBlock with _ | x
     · exact .inl rfl
     · right
       intro e5
       rcases key q (Ne.symm hpq) h2' with e6 | e6
       · rw [e6] at e5; cases e5
       · exact e6 (by rw [ho]; exact e5.symm)
   · by_cases e' : q = i
     · subst e'
       have e3 : (vs.set q v7)[p]'h1 = vs[p] := by simp [Ne.symm e]
       have e4 : (vs.set q v7)[q]'h2 = v7 := by simp
       rw [e3, e4]
       exact key p e h1'
     · have e3 : (vs.set i v7)[p]'h1 = vs[p] := by simp [Ne.symm e]
       have e4 : (vs.set i v7)[q]'h2 = vs[q] := by simp [Ne.symm e']
       rw [e3, e4]
       exact h.dis p q h1' h2' hpq
 · exact h.na.keep (fun _ h => h) (fun p hp => by
     have hp' : p.block < g := hp
     have hgl := h.gl
     rw [World.cell?_setCell_other _ _ _ _ (by intro e; subst e; dsimp only at hp'; have := h.tgl; omega)]
     exact World.cell?_of_block (hg.block p.block (by have := h.gr.size; omega) (ne _ (by omega))))
 · exact h.nb.keep (fun _ h => h) (fun p hp => by
     have hp' : p.block < g := hp
     have hgl := h.gl
     rw [World.cell?_setCell_other _ _ _ _ (by intro e; subst e; dsimp only at hp'; have := h.tgl; omega)]
     exact World.cell?_of_block (hg.block p.block (by have := h.gr.size; omega) (ne _ (by omega))))
 · refine ⟨hg.os.trans h.gr.os, hg.tape.trans h.gr.tape, hg.output.trans h.gr.output, by have := h.gr.size; have := hg.size; simp [World.setCell]; omega, fun k hk hn => (Below.heap_setCell w7 _ _ k (by dsimp only; have := h.tgl; omega)).trans ((hg.block k (Nat.lt_of_lt_of_le hk h.gr.size) (ne _ (by omega))).trans (h.gr.block k hk hn))⟩

theorem infoInts : (Tryz.prog.info? 22).map (fun i => (i.zero, i.size, i.bytes)) = some (some (.slice none 0 0), 1, 24) := by kernel_rfl
theorem mkRowsI (m : Nat) (h9 : m ≤ 1000) (W : World) : (Instr.makeSlice 161 (.int .i64 (m : Int)) (.int .i64 (m : Int))).run Tryz.prog W = .ok (.slice (some ⟨W.heap.size, 0, none⟩) m m) (W.alloc (.cells (List.replicate m (Value.slice none 0 0)).toArray 22)) := by
 obtain ⟨i0, hi, hz0, hz1, hz2⟩ := info_parts infoInts
 rw [run_makeSlice W 161 22 i0 _ Tryz.underlying161 hi hz0 .i64 .i64 m m (by omega) (by omega) (by rw [hz1]; simp; omega) (by rw [hz2]; omega) (by omega), hz1]
 simp only [Int.toNat_natCast]
 rw [made_one _ rfl]
def tlT (a b : V) (k : Nat) : List (List Nat) := (List.range a.size).map fun p => if p < k then [] else toP a b p
theorem tlT_at0 (a b : V) (i : Nat) : tlAt a b i 0 = tlT a b (i + 1) := by
 unfold tlAt tlT
 apply List.map_congr_left
 intro p _
 by_cases h1 : p < i
 · rw [if_pos h1, if_pos (by omega)]
 · rw [if_neg h1]
   by_cases h2 : p = i
   · rw [if_pos h2, if_pos (by omega)]; rfl
   · rw [if_neg h2, if_neg (by omega)]
theorem tlT_at1 (a b : V) (i : Nat) : tlAt a b i b.size = tlT a b i := by
 unfold tlAt tlT
 apply List.map_congr_left
 intro p _
 by_cases h1 : p < i
 · rw [if_pos h1, if_pos h1]
 · rw [if_neg h1, if_neg h1]
   by_cases h2 : p = i
   · subst h2; rw [if_pos rfl]; rfl
   · rw [if_neg h2]
theorem tlT_all (a b : V) : tlT a b a.size = List.replicate a.size [] := by
 unfold tlT
 apply List.ext_getElem?
 intro p
 by_cases hp : p < a.size
 · simp [hp]
 · rw [List.getElem?_eq_none (by simp; omega), List.getElem?_eq_none (by simp; omega)]
def SolvePost (w : World) (g : Nat) (a b : V) (av bv : Value) (e : Ending) (w' : World) : Prop := e = .returned (.tuple #[]) ∧ ∃ L tg vs, SolI w w' L g tg a b av bv vs (tlT a b 0)
theorem SolI.start (w : World) (g : Nat) (a b : V) (av bv : Value) (hb : Blk w g 163 #[av, bv, .slice none 0 0]) (hna : NB w g av (nodesP a)) (hnb : NB w g bv (nodesP b)) :
   SolI w ((w.setCell ⟨g, 2, none⟩ (.slice (some ⟨w.heap.size, 0, none⟩) a.size a.size)).alloc (.cells (Array.replicate a.size (Value.slice none 0 0)) 22)) (w.heap.size + 1) g w.heap.size a b av bv (List.replicate a.size (Value.slice none 0 0)) (tlT a b a.size) := by
 have hl := hb.lt
 have hz : ∀ v, (w.setCell ⟨g, 2, none⟩ v).heap.size = w.heap.size := fun v => by simp [World.setCell]
 have hnw := Blk.new (w.setCell ⟨g, 2, none⟩ (.slice (some ⟨w.heap.size, 0, none⟩) a.size a.size)) 22 (Array.replicate a.size (Value.slice none 0 0))
 rw [hz] at hnw
 have e0 : (List.replicate a.size (Value.slice none 0 0)).toArray = Array.replicate a.size (Value.slice none 0 0) := by simp
 refine ⟨(hb.set_ 2 _).alloc _, by rw [e0]; exact hnw, by simp, by simp [tlT], fun p h1 h2 => ?_, fun p q h1 h2 _ => ?_, ?_, ?_, ?_, hl, Nat.le_refl _, ⟨by omega, by simp [World.setCell, World.alloc]⟩⟩
 · have e1 : (List.replicate a.size (Value.slice none 0 0))[p]'h1 = .slice none 0 0 := by simp
   have e2 : (tlT a b a.size)[p]'h2 = [] := by simp only [tlT_all, List.getElem_replicate]
   rw [e1, e2]
   exact World.ownsRow_nil _ _ _ _
 · left; simp [Value.ownBlock]
 · exact hna.keep (fun _ h => h) (fun p hp => by
     have hp' : p.block < g := hp
     rw [World.cell?_alloc_lt _ _ p (by rw [hz]; omega), World.cell?_setCell_other _ _ _ _ (by intro e; subst e; dsimp only at hp'; omega)])
 · exact hnb.keep (fun _ h => h) (fun p hp => by
     have hp' : p.block < g := hp
     rw [World.cell?_alloc_lt _ _ p (by rw [hz]; omega), World.cell?_setCell_other _ _ _ _ (by intro e; subst e; dsimp only at hp'; omega)])
 · exact grownBy_alloc (grownBy_setCell (p := ⟨g, 2, none⟩) (World.grownBy.refl w (some g)) (.inl rfl) _) _
theorem tsolve_any (w : World) (g : Nat) (a b : V) (av bv : Value) (ha9 : a.size ≤ 12) (hb9 : b.size ≤ 12) (hb : Blk w g 163 #[av, bv, .slice none 0 0]) (hna : NB w g av (nodesP a)) (hnb : NB w g bv (nodesP b)) :
   Calls Tryz.prog 176 #[.pointer (some ⟨g, 0, none⟩)] w (SolvePost w g a b av bv) := by
 obtain ⟨AA, an, ac, rfl, la, a1, a2⟩ := hna.form
 obtain ⟨BA, bn, bc, rfl, lb, b1, b2⟩ := hnb.form
 unfold maxLen at a2 b2
 rw [nodesP_length] at la lb
 have hgl := hb.lt
 have c0 := hb.cell 0
 have c2 := hb.cell 2
 have f2 := hb.frozen 2
 have hmk := mkRowsI an (by omega) w
 have HST := Lib.hid (SolI.start w g a b _ _ hb hna hnb)
 have LA := Lib.hid la
 have LB := Lib.hid lb
 obtain ⟨i0, hi0, hz0, hz1, hz2⟩ := info_parts infoInt
 have HL : Hid (w.heap.size < w.heap.size + 1 ∧ g < w.heap.size + 1) := Lib.hid ⟨by omega, by omega⟩
 have hce0 : ∀ o v, ((w.setCell ⟨g, 2, none⟩ v).alloc o).cell? ⟨g, 0, none⟩ = some (.slice AA an ac) := fun o v => by
   rw [World.cell?_alloc_lt _ o _ (by simpa [World.setCell] using hgl), World.cell?_setCell_other _ _ _ _ (by intro e; cases e)]; exact c0
 have han9 : an ≤ 12 := by omega
 have hbn9 : bn ≤ 12 := by omega
 clear hb hna hnb la lb ha9 hb9
 go_enter Tryz.func176, Tryz.ntmps176
 go_wp2
 go_loopw [2] (fun s2 wr => ∃ k : Nat, k ≤ an ∧ s2 = .int .i64 ((k : Int) - 1) ∧ Hid (∃ vs, SolI w wr (w.heap.size + 1) g w.heap.size a b (.slice AA an ac) (.slice BA bn bc) vs (tlT a b k))) (fun s2 _ => (intOf s2 + 1).toNat)
 case atStart => exact ⟨an, by omega, rfl, Lib.hid ⟨List.replicate a.size (Value.slice none 0 0), by have := HST.out; rw [LA.out] at this ⊢; exact this⟩⟩
 case round =>
   obtain ⟨k, hk, rfl, HR⟩ := hrel
   obtain ⟨vs, hS⟩ := HR.out
   have hgr := hS.blk.lt
   have c0r := hS.blk.cell 0
   have c1r := hS.blk.cell 1
   have HS := Lib.hid hS
   clear hS HR c0 c2 f2 hce0 hmk HST
   by_cases h0 : k = 0
   · subst h0
     have dge : decide ((0 : Int) ≤ ((0 : Nat) : Int) - 1) = false := by decide
     go_wp2
     go_end0
     exact ⟨rfl, _, _, _, HS.out⟩
   · obtain ⟨i, rfl⟩ : ∃ i, k = i + 1 := ⟨k - 1, by omega⟩
     rw [show (((i + 1 : Nat) : Int) - 1) = (i : Int) by omega]
     have dge : decide ((0 : Int) ≤ (i : Int)) = true := by simp
     have HS2 : Hid (∃ vs, SolI w wr (w.heap.size + 1) g w.heap.size a b (.slice AA an ac) (.slice BA bn bc) vs (tlAt a b i 0)) := Lib.hid ⟨vs, by rw [tlT_at0]; exact HS.out⟩
     go_wp2
     go_loopw [31] (fun ct wr2 => ∃ j : Nat, j ≤ bn ∧ ct = .int .i64 j ∧ Hid (∃ vs, SolI w wr2 (w.heap.size + 1) g w.heap.size a b (.slice AA an ac) (.slice BA bn bc) vs (tlAt a b i j))) (fun ct _ => bn - (intOf ct).toNat)
     case atStart => exact ⟨0, by omega, rfl, HS2⟩
     case round =>
       obtain ⟨j, hj, rfl, HR2⟩ := hrel
       obtain ⟨vs2, hS2⟩ := HR2.out
       clear HR2 c0r c1r
       by_cases hjl : j < bn
       · have his : i < (subs a).length := by rw [subs_length, LA.out]; omega
         have hjs : j < (subs b).length := by rw [subs_length, LB.out]; omega
         have hin : i < (nodesP a).length := by rw [nodesP_length, LA.out]; omega
         have hjn : j < (nodesP b).length := by rw [nodesP_length, LB.out]; omega
         obtain ⟨adb, KB, kbn, kbc, rfl, hbb, q0, q1, q2, _⟩ := hS2.nb.at_ hjn
         obtain ⟨ada, KA, kan, kac, rfl, hba, p0, _, _, _⟩ := hS2.na.at_ hin
         rw [nodesP_get hjn hjs] at q0 q1
         rw [nodesP_get hin his] at p0
         simp only [ndOf] at q0 q1 p0
         have hg2 := hS2.blk.lt
         have hbb2 : adb.block < wr.heap.size := by omega
         have hba2 : ada.block < wr.heap.size := by omega
         have HYES := Lib.hid (toN_yes (a := a) (b := b) his hjs)
         have HNO := Lib.hid (toN_no (a := a) (b := b) his hjs)
         have PL : Hid (∀ W, Bw wr W → Calls Tryz.prog 188 #[.pointer (some ⟨g, 0, none⟩), .int .i64 (i : Int), .int .i64 (j : Int)] W fun e w' => ∃ rv, e = .returned (.tuple #[rv, .bool (subT (subs a)[i].ks (subs b)[j].ks)]) ∧ Bw W w') := Lib.hid (fun W hW => by
           refine (tplace_any W ((hS2.keep hW).src (by rw [LA.out]; omega)) i j his hjs (by rw [LA.out]; omega) (fun p hp hp9 => ?_)).mono ?_
           · rw [tlAt_get hp9, if_neg (by omega), if_neg (by omega)]
           · rintro e w' ⟨rv, rfl, _, hb⟩
             exact ⟨rv, by rw [plc_sub his hjs], hb⟩)
         have HRT : Hid (rootE (subs a)[i] (subs b)[j] = ((subs a)[i].n == (subs b)[j].n && subT (subs a)[i].ks (subs b)[j].ks)) := Lib.hid rfl
         have HS3 := Lib.hid hS2
         clear hS2 hbb hba
         generalize (subs a)[i].n = la at *
         generalize (subs b)[j].n = lb at *
         generalize subT (subs a)[i].ks (subs b)[j].ks = sb at *
         generalize rootE (subs a)[i] (subs b)[j] = re at *
         generalize j + (subs b)[j].size = fb at *
         go_wp2_with fail
         refine wp_world (fun W => Hid (Bw wr W ∧ Blk W wr.heap.size 175 #[.int .i64 lb, .int .i64 (fb : Int), .slice KB kbn kbc])) (Lib.hid ⟨(Bw.refl _).alloc _, Blk.new _ _ _⟩) ?_
         intro W6 HW6
         obtain ⟨f1, f2⟩ := HW6.out
         have F1 := Lib.hid f1
         have g0 := f2.cell 0
         have g1 := f2.lt
         have g2 := (f1.b.cell (p := ⟨g, 0, none⟩) hg2).trans (HS3.out.blk.cell 0)
         have g3 := (f1.b.cell (by rw [add_block]; exact hba2)).trans p0
         have g4 : g < W6.heap.size := Nat.lt_of_lt_of_le hg2 f1.size
         clear q0 q1 q2 p0 f1 f2
         by_cases hl : lb = la
         · have c4 : (lb == la) = true := by simp [hl]
           have HRT2 : Hid (re = sb) := Lib.hid (by rw [HRT.out, hl]; simp)
           clear hl
           cases sb
           · have HN : Hid (tlAt a b i (j + 1) = tlAt a b i j) := Lib.hid (tlAt_same (HNO.out HRT2.out))
             clear HRT HRT2 HNO HYES
             go_quiet (fail)
             go_wp2_with (go_at_call 188; go_must (refine (PL.out _ (F1.out.drewN _)).mono ?_; rintro e w7 ⟨rv, rfl, hg7⟩; have HG7 := Lib.hid hg7; clear hg7))
             go_roundw
             case rel => exact ⟨j + 1, by omega, by go_num, Lib.hid ⟨vs2, by rw [HN.out]; exact HS3.out.keep ((F1.out.drewN _).trans HG7.out)⟩⟩
             case measure => simp [intOf]; omega
           · have HY : Hid (toN a b i (j + 1) = toN a b i j ++ [j]) := Lib.hid (HYES.out HRT2.out)
             clear HRT HRT2 HNO HYES
             go_quiet (fail)
             go_wp2_with (go_at_call 188; go_must (refine (PL.out _ (F1.out.drewN _)).mono ?_; rintro e w7 ⟨rv, rfl, hg7⟩; have HG7 := Lib.hid hg7; clear hg7))
             have hvl := HS3.out.vl
             rw [LA.out] at hvl
             have hiv : i < vs2.length := by omega
             have hit : i < (tlAt a b i j).length := by rw [tlAt_length, LA.out]; omega
             have eti : (tlAt a b i j)[i] = toN a b i j := by
               have := tlAt_get (a := a) (b := b) (i := i) (j := j) (p := i) (by rw [LA.out]; omega)
               rw [List.getElem?_eq_getElem hit, if_neg (by omega), if_pos rfl] at this
               exact Option.some.inj this
             have hn9 := toN_le a b i j
             refine wp_world (fun W => Hid (SolI w W (w.heap.size + 1) g w.heap.size a b (.slice (some ada) an ac) (.slice (some adb) bn bc) vs2 (tlAt a b i j))) (Lib.hid (HS3.out.keep ((F1.out.drewN _).trans HG7.out))) ?_
             intro W8 HW8
             clear HS3 HG7 F1 PL HW6 g0 g1 g2 g3 g4
             have htb := HW8.out.tb
             have hblk := HW8.out.blk
             have hrow := HW8.out.row i hiv hit
             rw [eti] at hrow
             have k0 := hblk.cell 2
             have k1 := htb.cell i
             have e1 : vs2.toArray[i]? = some vs2[i] := by simp [hiv]
             rw [e1] at k1
             obtain ⟨VA, vc, ev, _, _⟩ := own_bounds hrow
             rw [ev] at k1
             have k2 : g < W8.heap.size := hblk.lt
             have k3 : w.heap.size < W8.heap.size := htb.lt
             have HROW := Lib.hid hrow
             have hia : i < a.size := by rw [LA.out]; omega
             rw [ev] at hrow
             have hne : some w.heap.size ≠ (Value.slice VA (toN a b i j).length vc).ownBlock := fun e => by have := (hrow.lt _ e.symm).1; omega
             have hng : some g ≠ (Value.slice VA (toN a b i j).length vc).ownBlock := fun e => by have := (hrow.lt _ e.symm).1; have := HW8.out.gl; omega
             have HNE := Lib.hid (And.intro hne hng)
             have HW9 : Hid (SolI w (W8.drew.alloc (.cells #[.int .i64 (j : Int)] 3)) (w.heap.size + 1) g w.heap.size a b (.slice (some ada) an ac) (.slice (some adb) bn bc) vs2 (tlAt a b i j)) := Lib.hid (HW8.out.keep ((Bw.refl _).drew.alloc _))
             have HEV := Lib.hid ev
             clear hne hng
             clear htb hblk hrow
             go_region_law (first
               | (refine step_append_any _ rfl (.tmp 66) (.tmp 68) 22 rfl (w.heap.size + 1) 3 i0 _ 1 8 Tryz.underlying22 hi0 hz0 hz1 hz2 rfl (by decide) (.slice VA (toN a b i j).length vc) (toN a b i j).length (intVs (natInts (toN a b i j))) (by simp [Act.eval, Act.put]) (by rw [← ev]; exact own_kept_bw HROW.out ((Bw.refl _).drew.alloc _)) (W8.heap.size + 1) (some ⟨W8.heap.size, 0, none⟩) 1 1 [.int .i64 (j : Int)] (by simp [Act.eval, Act.put]) (reads_new1 _ _) (by simp [Value.oneCell']) (by unfold maxLen; omega) (by omega) (by simp <;> omega) ?_; intro v9 w9 hown9 hgr9 hl9; obtain ⟨A9, c9, rfl⟩ := own_form hown9; have k5 := (HW9.out.tb.grown hgr9 HNE.out.1).cell i; rw [e1] at k5; have k6 := (HW9.out.tb.grown hgr9 HNE.out.1).frozen i; have k7 := (HW9.out.blk.grown hgr9 HNE.out.2).cell 2; have HO9 := Lib.hid hown9; have HG9 := Lib.hid hgr9; have HL9 := Lib.hid hl9; clear hown9 hgr9 hl9))
             all_goals
               go_simp
               go_wp2
               go_roundw
               case rel =>
                 refine ⟨j + 1, by omega, by go_num, Lib.hid ⟨vs2.set i (.slice A9 ((toN a b i j).length + 1) c9), ?_⟩⟩
                 have e2 : (tlAt a b i j).set i ((tlAt a b i j)[i] ++ [j]) = tlAt a b i (j + 1) := tlAt_set hia _ (by rw [eti, HY.out])
                 rw [← e2]
                 exact HW9.out.put hiv hit (by rw [eti]; exact HO9.out) (by rw [HEV.out]; exact HG9.out) (by rw [HEV.out]; exact HL9.out) (by have := HW8.out.gl; omega) (by omega)
               case measure => simp [intOf]; omega
         · have c4 : (lb == la) = false := by simp [hl]
           have HN : Hid (tlAt a b i (j + 1) = tlAt a b i j) := Lib.hid (tlAt_same (HNO.out (by rw [HRT.out]; simp [Ne.symm hl])))
           clear hl HRT HNO HYES PL
           go_quiet (fail)
           go_wp2
           go_roundw
           case rel => exact ⟨j + 1, by omega, by go_num, Lib.hid ⟨vs2, by rw [HN.out]; exact HS3.out.keep (F1.out.drewN _)⟩⟩
           case measure => simp [intOf]; omega
       · obtain rfl : j = bn := by omega
         have HS4 : Hid (SolI w wr (w.heap.size + 1) g w.heap.size a b (.slice AA an ac) (.slice BA j bc) vs2 (tlT a b i)) := Lib.hid (by rw [← tlT_at1, LB.out]; exact hS2)
         clear hS2
         go_wp2
         go_roundw
         case rel => exact ⟨i, by omega, rfl, Lib.hid ⟨vs2, HS4.out⟩⟩
         case measure => simp [intOf]
theorem plc_some {f : Nat → Nat → Int} : ∀ (rest ps : List Nat) (l : List Int), plc f ps rest = some l → l.length = ps.length ∧ ∀ k (h : k < l.length) (h' : k < ps.length), ∃ q ∈ rest, l[k] = f ps[k] q ∧ 0 ≤ l[k]
 | rest, [], l, h => by
   have : l = [] := by cases rest <;> simpa [plc, eq_comm] using h
   subst this
   exact ⟨rfl, fun k h => by simp at h⟩
 | [], p :: ps, l, h => by simp [plc] at h
 | q :: rest, p :: ps, l, h => by
   simp only [plc] at h
   by_cases h0 : 0 ≤ f p q
   · rw [if_pos h0] at h
     obtain ⟨l', h1, rfl⟩ := Option.map_eq_some_iff.1 h
     obtain ⟨h2, h3⟩ := plc_some rest ps l' h1
     refine ⟨by simp [h2], fun k hk hk' => ?_⟩
     cases k with
     | zero => exact ⟨q, by simp, rfl, h0⟩
     | succ k =>
       obtain ⟨q', hq, e, hn⟩ := h3 k (by simpa using hk) (by simpa using hk')
       exact ⟨q', List.mem_cons_of_mem _ hq, e, hn⟩
   · rw [if_neg h0] at h
     obtain ⟨h2, h3⟩ := plc_some rest (p :: ps) l h
     refine ⟨h2, fun k hk hk' => ?_⟩
     obtain ⟨q', hq, e⟩ := h3 k hk hk'
     exact ⟨q', List.mem_cons_of_mem _ hq, e⟩
theorem into_mem {a b : V} {i j : Nat} (hj : j < (subs b).length) (h : 0 ≤ intoP a b i j) : ∃ m ∈ toP a b i, intoP a b i j = (m : Int) := by
 rcases into_find a b i j hj with ⟨_, e⟩ | ⟨k, hk, _, e⟩
 · omega
 · exact ⟨_, List.getElem_mem hk, e⟩
theorem put_plc {a b : V} {i j : Nat} (hi : i < (subs a).length) (hj : j < (subs b).length) (h : j ∈ toP a b i) : ∃ l, plc (intoP a b) (starts (i + 1) (subs a)[i].ks) (starts (j + 1) (subs b)[j].ks) = some l ∧ l.length = (starts (i + 1) (subs a)[i].ks).length ∧
   ∀ k (h : k < l.length) (h' : k < (starts (i + 1) (subs a)[i].ks).length), ∃ m ∈ toP a b (starts (i + 1) (subs a)[i].ks)[k], l[k] = (m : Int) := by
 have h1 := (toP_mem hi hj).1 h
 simp only [rootE, Bool.and_eq_true] at h1
 have h2 := plc_sub hi hj
 rw [h1.2] at h2
 obtain ⟨l, hl⟩ := Option.isSome_iff_exists.1 h2
 obtain ⟨h3, h4⟩ := plc_some _ _ _ hl
 refine ⟨l, hl, h3, fun k hk hk' => ?_⟩
 obtain ⟨q, hq, e, hn⟩ := h4 k hk hk'
 have hq9 := (kids_lt hj q hq).2
 rw [e] at hn
 obtain ⟨m, hm, em⟩ := into_mem (by rw [subs_length]; exact hq9) hn
 exact ⟨m, hm, by rw [e, em]⟩
theorem SrcI.keepG {w w' : World} {B g og : Nat} {a b : V} {av bv tov : Value} {tl : List (List Nat)} (h : SrcI w B g a b av bv tov tl) (k : w.grownBy w' (some og)) (hB : B ≤ og) : SrcI w' B g a b av bv tov tl := by
 have hgB := h.gB
 have hs := h.hs
 have hc : ∀ p : Addr, p.block < B → w'.cell? p = w.cell? p := fun p hp => World.cell?_of_block (k.block p.block (by omega) (fun e => by injection e with e; omega))
 exact ⟨h.blk.grown k (fun e => by injection e with e; omega), h.na.keep (fun _ h => h) hc, h.nb.keep (fun _ h => h) hc, h.to.keep (fun _ h => h) hc, h.len, h.gB, Nat.le_trans hs k.size⟩
def PutPost (w : World) (og n : Nat) (e : Ending) (w' : World) : Prop := e = .returned (.tuple #[]) ∧ w.grownBy w' (some og) ∧ ∃ cs : Array Value, cs.size = n ∧ Blk w' og 3 cs
theorem tput_step {B g : Nat} {a b : V} {av bv tov : Value} {tl : List (List Nat)} (ha9 : a.size ≤ 1000) (hT : ∀ p, p < a.size → tl[p]? = some (toP a b p)) (i j : Nat) (hi : i < a.size) (hj : j ∈ toP a b i)
   (ih : ∀ p, i < p → p < a.size → ∀ q, q ∈ toP a b p → ∀ (W : World) (og : Nat) (cs : Array Value), SrcI W B g a b av bv tov tl → B ≤ og → cs.size = a.size → Blk W og 3 cs →
     Calls Tryz.prog 177 #[.pointer (some ⟨g, 0, none⟩), .slice (some ⟨og, 0, none⟩) a.size a.size, .int .i64 (p : Int), .int .i64 (q : Int)] W (PutPost W og a.size))
   (w : World) (og : Nat) (cs : Array Value) (hI : SrcI w B g a b av bv tov tl) (hB : B ≤ og) (hcs : cs.size = a.size) (hO : Blk w og 3 cs) :
   Calls Tryz.prog 177 #[.pointer (some ⟨g, 0, none⟩), .slice (some ⟨og, 0, none⟩) a.size a.size, .int .i64 (i : Int), .int .i64 (j : Int)] w (PutPost w og a.size) := by
 have his : i < (subs a).length := by rw [subs_length]; exact hi
 have hjs : j < (subs b).length := by rw [subs_length]; exact toP_lt hj
 have hil : i < (nodesP a).length := by rw [nodesP_length]; exact hi
 obtain ⟨l, hl, hll, hlm⟩ := put_plc his hjs hj
 obtain ⟨AA, an, ac, rfl, la, a1, a2⟩ := hI.na.form
 obtain ⟨ada, KA, kn, kc, rfl, hba, _, _, qa, hka⟩ := hI.na.at_ hil
 rw [nodesP_get hil his] at hka
 simp only [ndOf] at hka
 change IB w B (.slice KA kn kc) (natInts (starts (i + 1) (subs a)[i].ks)) at hka
 have hpl := kids_lt his
 have hPL : ∀ W, SrcI W B g a b (.slice (some ada) an ac) bv tov tl → Calls Tryz.prog 188 #[.pointer (some ⟨g, 0, none⟩), .int .i64 (i : Int), .int .i64 (j : Int)] W fun e w' => ∃ rv, e = .returned (.tuple #[rv, .bool true]) ∧ IAt w' (fun b => W.heap.size ≤ b ∧ b < w'.heap.size) rv l ∧ Bw W w' := fun W hW => by
   have := tplace_any W hW i j his hjs ha9 (fun p _ hp => hT p hp)
   rw [hl] at this
   exact this
 generalize starts (i + 1) (subs a)[i].ks = ps at *
 have c0 := hO.cell i
 have f0 := hO.frozen i
 have hlt := hO.lt
 have hgB := hI.gB
 have hs := hI.hs
 have e0 : cs[i]? = some (cs[i]'(by omega)) := by simp [show i < cs.size by omega]
 rw [e0] at c0
 unfold maxLen at a2
 rw [nodesP_length] at la
 obtain ⟨_, kn', _, e, lk, hkc, mk⟩ := hka.form
 cases e
 unfold maxLen at mk
 have hkn : ps.length = kn := by simpa [natInts] using lk
 have HPL := Lib.hid hPL
 have HIH := Lib.hid ih
 have HLM := Lib.hid hlm
 have HLL := Lib.hid hll
 have HKN := Lib.hid hkn
 have HPS := Lib.hid hpl
 have HKA := Lib.hid hka
 have HST : Hid (∀ u, w.grownBy (w.setCell ⟨og, i, none⟩ u) (some og) ∧ SrcI (w.setCell ⟨og, i, none⟩ u) B g a b (.slice (some ada) an ac) bv tov tl ∧ Blk (w.setCell ⟨og, i, none⟩ u) og 3 (cs.setIfInBounds i u)) := Lib.hid (fun u => by
   have h1 := grownBy_setCell (p := ⟨og, i, none⟩) (World.grownBy.refl w (some og)) (.inl rfl) u
   exact ⟨h1, hI.keepG h1 hB, hO.set_ i u⟩)
 have LA := Lib.hid la
 have hi2 : i < an := by omega
 clear hPL ih hlm hll hkn hpl hl hT hI hO lk la hka e0
 go_enter Tryz.func177, Tryz.ntmps177
 go_wp2_with (go_at_call 188; go_must (refine (HPL.out _ (HST.out _).2.1).mono ?_; rintro e w7 ⟨rv, rfl, hrv, hg7⟩; obtain ⟨RA, rn, rc, rfl, lr, r1, r2⟩ := hrv.form; (have HG7 := Lib.hid hg7); (have HRV := Lib.hid hrv); (have ca := (hg7.b.cell (p := ⟨g, 0, none⟩) (by simp [World.setCell]; omega)).trans ((HST.out (.int .i64 (j : Int))).2.1.blk.cell 0)); (have cb := (hg7.b.cell (p := ⟨(ada.add (i * 3)).block, (ada.add (i * 3)).off + 2, none⟩) (by simp only [add_block, World.setCell, Array.size_modify]; omega)).trans ((World.cell?_setCell_other _ _ _ _ (by intro e; have e2 := congrArg Addr.block e; simp only [add_block] at e2; omega)).trans qa)); clear hg7 hrv))
 have H0 : Hid (w.grownBy w7 (some og) ∧ (∃ cs : Array Value, cs.size = a.size ∧ Blk w7 og 3 cs) ∧ SrcI w7 B g a b (.slice (some ada) an ac) bv tov tl ∧ IAt w7 (fun b => w.heap.size ≤ b ∧ b < w7.heap.size) (.slice RA rn rc) l) := Lib.hid (by
   obtain ⟨h1, h2, h3⟩ := HST.out (.int .i64 (j : Int))
   exact ⟨grownBy_below h1 HG7.out.b, ⟨_, by simp [hcs], h3.below HG7.out.b h3.lt⟩, h2.keep HG7.out, HRV.out.keep (fun b hb => ⟨by have := hb.1; simp [World.setCell] at this; omega, hb.2⟩) (fun _ _ => rfl)⟩)
 clear HG7 HRV HST c0 f0 qa
 go_wp2
 go_loopw [32] (fun ct wr => ∃ k : Nat, k ≤ kn ∧ ct = .int .i64 k ∧ Hid (w.grownBy wr (some og) ∧ (∃ cs : Array Value, cs.size = a.size ∧ Blk wr og 3 cs) ∧ SrcI wr B g a b (.slice (some ada) an ac) bv tov tl ∧ IAt wr (fun b => w.heap.size ≤ b ∧ b < wr.heap.size) (.slice RA rn rc) l)) (fun ct _ => kn - (intOf ct).toNat)
 case atStart => exact ⟨0, by omega, rfl, H0⟩
 case round =>
   obtain ⟨k, hk, rfl, HR⟩ := hrel
   clear ca cb H0
   by_cases hlt2 : k < kn
   · have e1 : k < ps.length := by rw [HKN.out]; exact hlt2
     have e2 : k < l.length := by rw [HLL.out]; exact e1
     obtain ⟨ad, rfl, hb, q0⟩ := HKA.out.at_ (k := k) (by simpa [natInts] using e1)
     rw [natInts_get e1] at q0
     obtain ⟨h1, ⟨cs2, h2, h3⟩, h4, h5⟩ := HR.out
     obtain ⟨ad2, rfl, hb2, q2⟩ := h5.at_ (k := k) e2
     have q1 : wr.cell? (ad.add k) = some (.int .i64 (ps[k] : Int)) := (World.cell?_of_block (h1.block _ (by rw [add_block]; omega) (fun e => by injection e with e; rw [add_block] at e; omega))).trans q0
     obtain ⟨hp1, hp2⟩ := HPS.out _ (List.getElem_mem e1)
     obtain ⟨m, hm, em⟩ := HLM.out k e2 e1
     rw [em] at q2
     have hkr : k < rn := by omega
     have IH2 : Hid (∀ W, Bw wr W → Calls Tryz.prog 177 #[.pointer (some ⟨g, 0, none⟩), .slice (some ⟨og, 0, none⟩) a.size a.size, .int .i64 (ps[k] : Int), .int .i64 (m : Int)] W (PutPost W og a.size)) := Lib.hid (fun W hW => HIH.out _ hp1 hp2 m hm W og cs2 (h4.keep hW) hB h2 (h3.below hW.b h3.lt))
     have HN : Hid (∀ W w8, Bw wr W → PutPost W og a.size (.returned (.tuple #[])) w8 → w.grownBy w8 (some og) ∧ (∃ cs : Array Value, cs.size = a.size ∧ Blk w8 og 3 cs) ∧ SrcI w8 B g a b (.slice (some ada) an ac) bv tov tl ∧ IAt w8 (fun b => w.heap.size ≤ b ∧ b < w8.heap.size) (.slice (some ad2) rn rc) l) := Lib.hid (fun W w8 hW hP => by
       obtain ⟨_, hg, h8⟩ := hP
       have hs8 := hg.size
       have hsW := hW.size
       refine ⟨grownBy_trans (grownBy_below h1 hW.b) hg, h8, (h4.keep hW).keepG hg hB, h5.keep (fun b hb => ⟨hb.1, by omega⟩) (fun p hp => ?_)⟩
       exact (World.cell?_of_block (hg.block p.block (by omega) (fun e => by injection e with e; omega))).trans (hW.b.cell hp.2))
     clear h1 h2 h3 h4 h5 HR q0 hb2 hb em hm
     generalize ps[k] = pk at *
     go_wp2_with (go_at_call 177; go_must (refine (IH2.out _ (by first | exact Bw.refl _ | exact (Bw.refl _).drew)).mono ?_; intro e w8 hP; obtain ⟨rfl, hP2⟩ := id hP; have HP := Lib.hid (HN.out _ _ (by first | exact Bw.refl _ | exact (Bw.refl _).drew) hP); clear hP hP2))
     go_roundw
     case rel => exact ⟨k + 1, by omega, by go_num, HP⟩
     case measure => simp [intOf]; omega
   · obtain rfl : k = kn := by omega
     obtain ⟨h1, h2, _, _⟩ := HR.out
     have HF := Lib.hid (And.intro h1 h2)
     clear h1 h2 HR
     go_wp2
     go_end0
     exact ⟨rfl, HF.out.1, HF.out.2⟩
theorem tput_any {B g : Nat} {a b : V} {av bv tov : Value} {tl : List (List Nat)} (ha9 : a.size ≤ 1000) (hT : ∀ p, p < a.size → tl[p]? = some (toP a b p)) (d : Nat) : ∀ (i j : Nat), a.size - i ≤ d → i < a.size → j ∈ toP a b i → ∀ (w : World) (og : Nat) (cs : Array Value), SrcI w B g a b av bv tov tl → B ≤ og → cs.size = a.size → Blk w og 3 cs →
   Calls Tryz.prog 177 #[.pointer (some ⟨g, 0, none⟩), .slice (some ⟨og, 0, none⟩) a.size a.size, .int .i64 (i : Int), .int .i64 (j : Int)] w (PutPost w og a.size) := by
 induction d with
 | zero => intro i j h hi; omega
 | succ d ih =>
   intro i j h hi hj w og cs hI hB hcs hO
   exact tput_step ha9 hT i j hi hj (fun p hp1 hp2 q hq W og cs h1 h2 h3 h4 => ih p q (by omega) hp2 hq W og cs h1 h2 h3 h4) w og cs hI hB hcs hO
end Go.Proofs.YtbmheekaclmibaaGreat
