/- Part of a proof of basisExact_holds. -/
import Derived.Test.YtbmheekaclmibaaGreatXPlnCQ
import Derived.Test.YtbmheekaclmibaaGreatXCmpAQ
import Derived.Lay
import Derived.LaidSub
import Derived.LaidLaws
import Derived.Lib.LaidTab
import Derived.Shelf.Vars
import Derived.HandedShaped
import Derived.MakeChecks
import Derived.Stop.Joined
import Derived.ProofKit
import Derived.Below
import Derived.ChangeSame
import Derived.Deep.Slices
import Derived.Deep.Fields
import Derived.Deep.RegionWith
set_option maxRecDepth 100000
set_option maxHeartbeats 16000000
namespace Go.Proofs.YtbmheekaclmibaaGreat
open Go.RowKit Go.WideShapes Go.ChangeShapes Go.ChangeAt
set_option linter.unusedSimpArgs false
set_option linter.unusedVariables false
theorem own : ownKnob Tryz.prog.godebug = none := by kernel_rfl

section
variable {H : Type} {enc : TypeId × Value → H} {P : Program}
end
end Go.Proofs.YtbmheekaclmibaaGreat
namespace Go.Proofs.YtbmheekaclmibaaGreat
open Go Go.ChangeShapes Go.WideShapes Go.ChangeAt Go.RowKit Go.Deep
set_option linter.unusedSimpArgs false
set_option linter.unusedVariables false
theorem list_of_forall {α : Type} {P : Nat → α → Prop} : ∀ (n : Nat), (∀ i, i < n → ∃ x, P i x) → ∃ xs : List α, xs.length = n ∧ ∀ i (h : i < xs.length), P i xs[i] := by
 intro n
 induction n with
 | zero => intro _; exact ⟨[], rfl, fun i h => absurd h (by simp)⟩
 | succ n ih =>
   intro h
   obtain ⟨xs, hl, hx⟩ := ih fun i hi => h i (by omega)
   obtain ⟨x, hxn⟩ := h n (by omega)
   refine ⟨xs ++ [x], by simp [hl], fun i hi => ?_⟩
   by_cases e : i < xs.length
   · rw [List.getElem_append_left e]; exact hx i e
   · have : i = n := by simp [hl] at hi; omega
     subst this
     rw [List.getElem_append_right (by omega)]
     simpa [hl] using hxn

section
variable {H : Type} {enc : TypeId × Value → H} {P : Program}
theorem trodAll_stays (hl : laidOutB P = true) {W W' : World} (hb : Below W.heap.size W W') : ∀ {ts : List TypeId} {vs : List Value} {ds : List (DataW H)} {ps : List MemPlace},
   (ts.all fun t => P.readableRec t && decide (t < P.types.size)) = true → DataW.TrodAll enc P W 0 (fun _ => true) true ts vs ds ps → (∀ x ∈ ps, x.block < W.heap.size) →
   DataW.TrodAll enc P W' 0 (fun b => decide (b < W.heap.size)) true ts vs ds ps := by
 intro ts
 induction ts with
 | nil =>
   intro vs ds ps _ h _
   obtain ⟨rfl, rfl, rfl⟩ := trodAll_nil h
   exact rfl
 | cons t ts ih =>
   intro vs ds ps hr h hlt
   obtain ⟨v, vs', d, ds', p, q, rfl, rfl, rfl, h1, h2⟩ := trodAll_cons h
   simp only [List.all_cons, Bool.and_eq_true, decide_eq_true_eq] at hr
   exact ⟨p, q, Below.trod hl hr.1.1 hr.1.2 h1 hb (fun x hx => hlt x (by simp [hx])), ih hr.2 h2 (fun x hx => hlt x (by simp [hx])), rfl⟩
theorem trodAll_lt {W : World} {base : Nat} {spare : Nat → Bool} {held : Bool} : ∀ {ts : List TypeId} {vs : List Value} {ds : List (DataW H)} {ps : List MemPlace}, DataW.TrodAll enc P W base spare held ts vs ds ps → ∀ x ∈ ps, x.block < W.heap.size := by
 intro ts
 induction ts with
 | nil =>
   intro vs ds ps h x hx
   obtain ⟨rfl, rfl, rfl⟩ := trodAll_nil h
   cases hx
 | cons t ts ih =>
   intro vs ds ps h x hx
   obtain ⟨v, vs', d, ds', p, q, rfl, rfl, rfl, ⟨m, h1⟩, h2⟩ := trodAll_cons h
   rcases List.mem_append.1 hx with hx | hx
   · exact DataW.trod_lt m _ _ _ h1 x hx
   · exact ih h2 x hx
theorem open_slice_fields {w : World} {base : Nat} {spare : Nat → Bool} {held : Bool} {t e : TypeId} {fs : Array Field} {fuel : Nat} {cs : List Value} {x : DataW H × List MemPlace} (ht : P.underlying t = some (.slice e)) (he : P.underlying e = some (.struct fs))
   (hone : oneCellFields P fs = true) (hC : P.cellsOf e = fs.size) (h : DataW.trod enc P w base spare held fuel t cs = some x) :
   (cs = [.slice none 0 0] ∧ x = (.nil, [])) ∨
   ∃ (a : Addr) (len cap m : Nat) (D : Nat → DataW H) (Pl : Nat → List MemPlace), cs = [.slice (some a) len cap] ∧ base ≤ a.block ∧ len ≤ cap ∧ cap ≤ maxLen ∧ m = (if spare a.block then cap else len) ∧
     x = (.slice ((List.range len).map D) ((List.range (m - len)).map fun j => D (len + j)), MemPlace.row a (m * fs.size) ++ (List.range m).flatMap Pl) ∧
     ∀ i, i < m → ∃ (ys : List (DataW H × List MemPlace)) (n : Nat), D i = .agg (ys.map (·.1)) ∧ Pl i = ys.flatMap (·.2) ∧ ys.length = fs.size ∧
       ∀ (j : Nat) (f : Field), fs[j]? = some f → ∃ (v : Value) (y : DataW H × List MemPlace), w.cell? (a.add (i * fs.size + j)) = some v ∧ ys[j]? = some y ∧ DataW.trod enc P w base spare held n f.type [v] = some y := by
 rcases open_slice ht h with h0 | ⟨a, len, cap, m, n, D, Pl, hcs, hb, hl, hm, hmm, hx, hi⟩
 · exact .inl h0
 · refine .inr ⟨a, len, cap, m, D, Pl, hcs, hb, hl, hm, hmm, by rw [hC] at hx; exact hx, fun i him => ?_⟩
   obtain ⟨cs', hc, ht'⟩ := hi i him
   rw [hC] at hc
   obtain ⟨ys, n', hn', hy, hlen, hyl, hf⟩ := DataW.trod_struct he ht'
   obtain ⟨_, hcl, hat⟩ := World.cells?_some hc
   simp only [Prod.mk.injEq] at hy
   refine ⟨ys, n', hy.1, hy.2, hyl, fun j f hj => ?_⟩
   obtain ⟨ho, hk⟩ := hone_of hone j f hj
   have hjl : j < fs.size := (Array.getElem?_eq_some_iff.1 hj).1
   have hcell := hat j hjl
   have hv : cs'[j]? = some (cs'[j]'(by omega)) := List.getElem?_eq_getElem (by omega)
   have h1 := hf j f hj
   rw [ho, hk] at h1
   have hone' : (cs'.drop j).take 1 = [cs'[j]'(by omega)] := by
     rw [List.drop_eq_getElem_cons (by omega)]
     rfl
   rw [hone'] at h1
   have hys : ys[j]? = some (ys[j]'(by omega)) := List.getElem?_eq_getElem (by omega)
   refine ⟨_, _, ?_, hys, h1.trans hys⟩
   rw [← Go.Deep.add_add, hcell, hv]
end
theorem cell_lt {W : World} {a : Addr} {v : Value} (h : W.cell? a = some v) : a.block < W.heap.size := by
 by_cases hg : a.block < W.heap.size
 · exact hg
 · exfalso
   simp only [World.cell?, Array.getElem?_eq_none (Nat.le_of_not_lt hg)] at h
   cases h
section
variable {H : Type} {enc : TypeId × Value → H} {W : World}
theorem size_elem {D : DataW H} {l r : List (DataW H)} (h : D ∈ l) : SizeOf.sizeOf D < SizeOf.sizeOf (DataW.slice l r) := by
 have := List.sizeOf_lt_of_mem h
 simp only [DataW.slice.sizeOf_spec]; omega
theorem size_part {D : DataW H} {l : List (DataW H)} (h : D ∈ l) : SizeOf.sizeOf D < SizeOf.sizeOf (DataW.agg l) := by
 have := List.sizeOf_lt_of_mem h
 simp only [DataW.agg.sizeOf_spec]; omega
theorem wf64 {x : Int} (h : (Lit.int .i64 x).wf = true) : -9223372036854775808 ≤ x ∧ x ≤ 9223372036854775807 := by
 simp [Lit.wf, IntKind.min, IntKind.max, IntKind.signed, IntKind.bits] at h
 omega
theorem raw_vals : ∀ (n : Nat) (d : DataW H), SizeOf.sizeOf d ≤ n → ∀ (fuel : Nat) (s : Value) (p : List MemPlace), DataW.trod enc Tryz.prog W 0 (fun _ => true) true fuel 31 [s] = some (d, p) → ∃ l : List V, KB W W.heap.size s l ∧ l.all i64V = true := by
 intro n
 induction n with
 | zero => intro d hd; cases d <;> simp at hd <;> omega
 | succ n ih =>
   intro d hd fuel s p h
   rcases open_slice_fields Tryz.underlying31 Tryz.underlying39 (by kernel_rfl) (by kernel_rfl) h with ⟨hcs, _⟩ | ⟨a, len, cap, m, D, Pl, hcs, _, hl, hm, hmm, hx, hi⟩
   · simp only [List.cons.injEq, and_true] at hcs
     subst hcs
     exact ⟨[], .mk none 0 0 [] [] rfl rfl (Nat.le_refl _) (Nat.zero_le _) (fun h => absurd h (by omega)) (fun k h => absurd h (by simp)), rfl⟩
   · simp only [List.cons.injEq, and_true] at hcs
     subst hcs
     simp only [if_true] at hmm
     subst hmm
     have hd2 : d = .slice ((List.range len).map D) ((List.range (m - len)).map fun j => D (len + j)) := by
       have := congrArg Prod.fst hx; exact this
     have key : ∀ i, i < len → ∃ q : V × Value, W.cell? (a.add (i * 2)) = some (.int .i64 q.1.n) ∧ W.cell? ⟨(a.add (i * 2)).block, (a.add (i * 2)).off + 1, none⟩ = some q.2 ∧ KB W W.heap.size q.2 q.1.ks ∧ i64V q.1 = true := by
       intro i hil
       obtain ⟨ys, nn, hD, _, hyl, hf⟩ := hi i (by omega)
       obtain ⟨v0, y0, hc0, hy0, ht0⟩ := hf 0 _ rfl
       obtain ⟨v1, y1, hc1, hy1, ht1⟩ := hf 1 _ rfl
       obtain ⟨x, e0, _, wx⟩ := DataW.trod_int Tryz.underlying3 ht0
       simp only [List.cons.injEq, and_true] at e0
       subst e0
       have hsz : SizeOf.sizeOf y1.1 ≤ n := by
         have h1 : y1.1 ∈ ys.map (·.1) := List.mem_map.2 ⟨y1, List.mem_of_getElem? hy1, rfl⟩
         have h2 := size_part h1
         have h3 : D i ∈ (List.range len).map D := List.mem_map.2 ⟨i, List.mem_range.2 hil, rfl⟩
         have h4 := size_elem (r := (List.range (m - len)).map fun j => D (len + j)) h3
         rw [hD] at h4
         rw [hd2] at hd
         omega
       obtain ⟨l, hk, h64⟩ := ih y1.1 hsz _ v1 y1.2 ht1
       refine ⟨(.mk x l, v1), ?_, ?_, hk, ?_⟩
       · show W.cell? (a.add (i * 2)) = some (.int .i64 x)
         exact hc0
       · exact (congrArg W.cell? (add_off a (i * 2) 0).symm).trans hc1
       · rw [i64V_eq]
         have := wf64 wx
         simp [this.1, this.2, h64]
     obtain ⟨qs, hql, hq⟩ := list_of_forall len key
     refine ⟨qs.map (·.1), .mk (some a) len m _ (qs.map (·.2)) (by simpa using hql) (by simpa using hql) hl hm (fun h0 => ⟨a, rfl, ?_, fun k h1 h2 => ?_⟩) (fun k h1 h2 => ?_), ?_⟩
     · have := cell_lt (hq 0 (by omega)).1
       rwa [add_block] at this
     · have h3 := hq k (by simpa using h1)
       simp only [List.getElem_map]
       exact ⟨h3.1, h3.2.1⟩
     · have h3 := hq k (by simpa using h1)
       simp only [List.getElem_map]
       exact h3.2.2.1
     · rw [List.all_map, List.all_eq_true]
       intro q hqm
       obtain ⟨k, hk, rfl⟩ := List.getElem_of_mem hqm
       exact (hq k hk).2.2.2
theorem raw_ints {fuel : Nat} {s : Value} {d : DataW H} {p : List MemPlace} (h : DataW.trod enc Tryz.prog W 0 (fun _ => true) true fuel 22 [s] = some (d, p)) : ∃ l : List Int, IB W W.heap.size s l ∧ ∀ x ∈ l, -9223372036854775808 ≤ x ∧ x ≤ 9223372036854775807 := by
 rcases open_ints Tryz.underlying22 Tryz.underlying3 (by kernel_rfl) h with ⟨hcs, _⟩ | ⟨a, l, c, zs, hcs, _, hl, hm, hz, _, hcell, hwz⟩
 · simp only [List.cons.injEq, and_true] at hcs
   subst hcs
   exact ⟨[], IAt.nil 0 none (Nat.zero_le _), by simp⟩
 · simp only [List.cons.injEq, and_true] at hcs
   subst hcs
   have hz' : zs.length = c := by simpa using hz
   refine ⟨zs.take l, ⟨some a, l, c, rfl, by simp; omega, hl, hm, fun h0 => ⟨a, rfl, ?_, fun k hk => ?_⟩⟩, ?_⟩
   · have := cell_lt (hcell 0 (by omega))
     rwa [add_block] at this
   · simp at hk
     rw [hcell k (by omega)]
     simp [List.getElem?_eq_getElem (by omega : k < zs.length)]
   · intro x hx
     have := hwz x (List.mem_of_mem_take hx)
     exact wf64 this
theorem raw_types : ∀ (n : Nat) (d : DataW H), SizeOf.sizeOf d ≤ n → ∀ (fuel : Nat) (s : Value) (p : List MemPlace), DataW.trod enc Tryz.prog W 0 (fun _ => true) true fuel 27 [s] = some (d, p) → ∃ l : List T, PB W W.heap.size s l := by
 intro n
 induction n with
 | zero => intro d hd; cases d <;> simp at hd <;> omega
 | succ n ih =>
   intro d hd fuel s p h
   rcases open_slice_fields Tryz.underlying27 Tryz.underlying29 (by kernel_rfl) (by kernel_rfl) h with ⟨hcs, _⟩ | ⟨a, len, cap, m, D, Pl, hcs, _, hl, hm, hmm, hx, hi⟩
   · simp only [List.cons.injEq, and_true] at hcs
     subst hcs
     exact ⟨[], PAt.nil 0 none (Nat.zero_le _)⟩
   · simp only [List.cons.injEq, and_true] at hcs
     subst hcs
     simp only [if_true] at hmm
     subst hmm
     have hd2 : d = .slice ((List.range len).map D) ((List.range (m - len)).map fun j => D (len + j)) := by
       have := congrArg Prod.fst hx; exact this
     have key : ∀ i, i < len → ∃ q : T × Value × Value, W.cell? (a.add (i * 4)) = some (.int .i64 q.1.kind) ∧ W.cell? ⟨(a.add (i * 4)).block, (a.add (i * 4)).off + 1, none⟩ = some (.int .i64 q.1.size) ∧
         W.cell? ⟨(a.add (i * 4)).block, (a.add (i * 4)).off + 2, none⟩ = some q.2.1 ∧ W.cell? ⟨(a.add (i * 4)).block, (a.add (i * 4)).off + 3, none⟩ = some q.2.2 ∧ IB W W.heap.size q.2.1 q.1.ranks ∧ PB W W.heap.size q.2.2 q.1.parts := by
       intro i hil
       obtain ⟨ys, nn, hD, _, hyl, hf⟩ := hi i (by omega)
       obtain ⟨v0, y0, hc0, hy0, ht0⟩ := hf 0 _ rfl
       obtain ⟨v1, y1, hc1, hy1, ht1⟩ := hf 1 _ rfl
       obtain ⟨v2, y2, hc2, hy2, ht2⟩ := hf 2 _ rfl
       obtain ⟨v3, y3, hc3, hy3, ht3⟩ := hf 3 _ rfl
       obtain ⟨x0, e0, _, _⟩ := DataW.trod_int Tryz.underlying3 ht0
       obtain ⟨x1, e1, _, _⟩ := DataW.trod_int Tryz.underlying3 ht1
       simp only [List.cons.injEq, and_true] at e0 e1
       subst e0 e1
       have hsz : SizeOf.sizeOf y3.1 ≤ n := by
         have h1 : y3.1 ∈ ys.map (·.1) := List.mem_map.2 ⟨y3, List.mem_of_getElem? hy3, rfl⟩
         have h2 := size_part h1
         have h3 : D i ∈ (List.range len).map D := List.mem_map.2 ⟨i, List.mem_range.2 hil, rfl⟩
         have h4 := size_elem (r := (List.range (m - len)).map fun j => D (len + j)) h3
         rw [hD] at h4
         rw [hd2] at hd
         omega
       obtain ⟨rl, hr, _⟩ := raw_ints (d := y2.1) (p := y2.2) ht2
       obtain ⟨l, hk⟩ := ih y3.1 hsz _ v3 y3.2 ht3
       exact ⟨(.mk x0 x1 rl l, v2, v3), hc0, (congrArg W.cell? (add_off a (i * 4) 0).symm).trans hc1, (congrArg W.cell? (add_off a (i * 4) 1).symm).trans hc2, (congrArg W.cell? (add_off a (i * 4) 2).symm).trans hc3, hr, hk⟩
     obtain ⟨qs, hql, hq⟩ := list_of_forall len key
     refine ⟨qs.map (·.1), .mk (some a) len m _ (qs.map (·.2.1)) (qs.map (·.2.2)) (by simpa using hql) (by simpa using hql) (by simpa using hql) hl hm (fun h0 => ⟨a, rfl, ?_, fun k h1 h2 h3 => ?_⟩) (fun k h1 h2 => ?_) (fun k h1 h2 => ?_)⟩
     · have := cell_lt (hq 0 (by omega)).1
       rwa [add_block] at this
     · have h3 := hq k (by simpa using h1)
       simp only [List.getElem_map]
       exact ⟨h3.1, h3.2.1, h3.2.2.1, h3.2.2.2.1⟩
     · have h3 := hq k (by simpa using h1)
       simp only [List.getElem_map]
       exact h3.2.2.2.2.1
     · have h3 := hq k (by simpa using h1)
       simp only [List.getElem_map]
       exact h3.2.2.2.2.2
theorem raw_val {v : Value} {d : DataW H} {p : List MemPlace} {base : Nat} (hv : Value.okWide Tryz.prog W .any base 39 v) (h : DataW.Trod enc Tryz.prog W 0 (fun _ => true) true 39 v d p) :
   ∃ (u : V) (s : Value), v = .agg #[.int .i64 u.n, s] ∧ KB W W.heap.size s u.ks ∧ i64V u = true := by
 obtain ⟨cs, rfl, hsz⟩ := okWide_struct Tryz.underlying39 hv
 obtain ⟨fuel, h⟩ := h
 obtain ⟨y0, y1, n, hx, hl, h0, h1⟩ := trod_struct2 Tryz.underlying39 h
 obtain ⟨cs⟩ := cs
 have hl2 : cs.length = 2 := hl.trans (by kernel_rfl)
 match cs, hl2 with
 | [a, b], _ =>
 obtain ⟨x, e0, _, wx⟩ := DataW.trod_int Tryz.underlying3 h0
 have e0 : [a] = [.int .i64 x] := e0
 simp only [List.cons.injEq, and_true] at e0
 subst e0
 obtain ⟨l, hk, h64⟩ := raw_vals _ y1.1 (Nat.le_refl _) _ b y1.2 h1
 refine ⟨.mk x l, b, rfl, hk, ?_⟩
 rw [i64V_eq]
 have := wf64 wx
 simp [this.1, this.2, h64]
theorem raw_type {v : Value} {d : DataW H} {p : List MemPlace} {base : Nat} (hv : Value.okWide Tryz.prog W .any base 29 v) (h : DataW.Trod enc Tryz.prog W 0 (fun _ => true) true 29 v d p) :
   ∃ (t : T) (r s : Value), v = .agg #[.int .i64 t.kind, .int .i64 t.size, r, s] ∧ TB W W.heap.size r s t := by
 obtain ⟨cs, rfl, hsz⟩ := okWide_struct Tryz.underlying29 hv
 obtain ⟨fuel, h⟩ := h
 obtain ⟨ys, n, _, hx, hl, hyl, hf⟩ := DataW.trod_struct Tryz.underlying29 h
 obtain ⟨cs⟩ := cs
 have hl2 : cs.length = 4 := hl.trans (by kernel_rfl)
 match cs, hl2, ys, hyl with
 | [a, b, c, e], _, [y0, y1, y2, y3], _ =>
 obtain ⟨x0, e0, _, _⟩ := DataW.trod_int Tryz.underlying3 (hf 0 _ rfl)
 obtain ⟨x1, e1, _, _⟩ := DataW.trod_int Tryz.underlying3 (hf 1 _ rfl)
 have g0 : a = .int .i64 x0 := (List.cons.inj (show [a] = [.int .i64 x0] from e0)).1
 have g1 : b = .int .i64 x1 := (List.cons.inj (show [b] = [.int .i64 x1] from e1)).1
 clear e0 e1
 subst g0 g1
 obtain ⟨rl, hr, _⟩ := raw_ints (d := y2.1) (p := y2.2) (s := c) (hf 2 _ rfl)
 obtain ⟨l, hk⟩ := raw_types _ y3.1 (Nat.le_refl _) _ e y3.2 (hf 3 _ rfl)
 exact ⟨.mk x0 x1 rl l, c, e, rfl, hr, hk⟩
end
end Go.Proofs.YtbmheekaclmibaaGreat
namespace Go.Proofs.YtbmheekaclmibaaGreat
open Go.RowKit
set_option linter.unusedSimpArgs false
set_option linter.unusedVariables false
theorem T.ind {P : T → Prop} (h : ∀ k s r ps, (∀ p ∈ ps, P p) → P (.mk k s r ps)) : ∀ t, P t
 | .mk k s r ps => h k s r ps fun p hp => T.ind h p
termination_by t => SizeOf.sizeOf t
decreasing_by have := List.sizeOf_lt_of_mem hp; simp; omega
mutual
def smallP : V → Int → Bool | .mk _ ks, m => !(decide (20 < ks.length) || decide (m < 0)) && smallL ks (m - 1)
def smallL : List V → Int → Bool | [], _ => true | v :: r, m => smallP v m && smallL r m
end
theorem smallL_all (m : Int) : ∀ l : List V, smallL l m = l.all fun v => smallP v m
 | [] => rfl
 | v :: r => by rw [smallL, List.all_cons, smallL_all m r]
theorem smallP_eq (v : V) (m : Int) : smallP v m = (!(decide (20 < v.ks.length) || decide (m < 0)) && v.ks.all fun k => smallP k (m - 1)) := by cases v; rw [smallP, smallL_all]; rfl
mutual
def thinP : T → Int → Bool | .mk _ _ r p, m => !(decide (10 < p.length) || decide (20 < r.length) || decide (m < 0)) && thinL p (m - 1)
def thinL : List T → Int → Bool | [], _ => true | v :: r, m => thinP v m && thinL r m
end
theorem thinL_all (m : Int) : ∀ l : List T, thinL l m = l.all fun v => thinP v m
 | [] => rfl
 | v :: r => by rw [thinL, List.all_cons, thinL_all m r]
theorem thinP_eq (v : T) (m : Int) : thinP v m = (!(decide (10 < v.parts.length) || decide (20 < v.ranks.length) || decide (m < 0)) && v.parts.all fun k => thinP k (m - 1)) := by cases v; rw [thinP, thinL_all]; rfl
theorem all_take_succ {α : Type} {p : α → Bool} {l : List α} {k : Nat} (h : k < l.length) : (l.take (k + 1)).all p = ((l.take k).all p && p l[k]) := by
 rw [List.take_succ_eq_append_getElem h, List.all_append]; simp
theorem all_not {α : Type} {p : α → Bool} {l : List α} {x : α} (h : x ∈ l) (hp : p x = false) : l.all p = false := by
 rw [List.all_eq_false]; exact ⟨x, h, by simp [hp]⟩
theorem rsmall_step (v : V) (ih : ∀ k ∈ v.ks, ∀ (s : Value) (W : World) (m : Int), -1 ≤ m → m ≤ 10 → KB W W.heap.size s k.ks → Calls Tryz.prog 24 #[s, .int .i64 m] W (BoolPost W (smallP k m)))
   (s : Value) (w : World) (m : Int) (h0 : -1 ≤ m) (h9 : m ≤ 10) (h : KB w w.heap.size s v.ks) : Calls Tryz.prog 24 #[s, .int .i64 m] w (BoolPost w (smallP v m)) := by
 obtain ⟨A, n, c, rfl, ln, bn, mn⟩ := h.form
 unfold maxLen at mn
 have IH := Lib.hid ih
 have H := Lib.hid h
 have LN := Lib.hid ln
 have HP : Hid (smallP v m = (!(decide (20 < n) || decide (m < 0)) && v.ks.all fun k => smallP k (m - 1))) := Lib.hid (by rw [smallP_eq, ln])
 clear ih h ln
 generalize smallP v m = res at *
 unfold BoolPost
 by_cases h20 : 20 < n
 · have d1 : decide ((20 : Int) < (n : Int)) = true := decide_eq_true (by omega)
   have HR : Hid (res = false) := Lib.hid (by rw [HP.out, decide_eq_true h20]; rfl)
   go_enter Tryz.func24, Tryz.ntmps24
   go_wp2
   go_ret
   exact ⟨ret_bool HR.out.symm, Bw.refl _⟩
 have d1 : decide ((20 : Int) < (n : Int)) = false := decide_eq_false (by omega)
 by_cases hm : m < 0
 · have d2 : decide (m < 0) = true := decide_eq_true hm
   have HR : Hid (res = false) := Lib.hid (by rw [HP.out, decide_eq_true hm]; simp)
   go_enter Tryz.func24, Tryz.ntmps24
   go_wp2
   go_ret
   exact ⟨ret_bool HR.out.symm, Bw.refl _⟩
 have d2 : decide (m < 0) = false := decide_eq_false hm
 have wm : IntKind.i64.wrap (m - 1) = m - 1 := by simp [IntKind.wrap, IntKind.bits, IntKind.signed]; omega
 have HR : Hid (res = v.ks.all fun k => smallP k (m - 1)) := Lib.hid (by rw [HP.out, decide_eq_false h20, decide_eq_false hm]; rfl)
 clear HP
 go_enter Tryz.func24, Tryz.ntmps24
 go_wp2
 go_loopw [15] (fun i wr => ∃ k : Nat, k ≤ n ∧ i = .int .i64 k ∧ Hid (Bw w wr ∧ ((v.ks.take k).all fun k => smallP k (m - 1)) = true)) (fun i _ => n - (intOf i).toNat)
 case atStart => exact ⟨0, by omega, rfl, Lib.hid ⟨Bw.refl _, by simp⟩⟩
 case round =>
   obtain ⟨k, hk, rfl, HI⟩ := hrel
   obtain ⟨hg, hall⟩ := HI.out
   have HG := Lib.hid hg
   have HALL := Lib.hid hall
   have hgw := hg
   by_cases hlt : k < n
   · have e1 : k < v.ks.length := by rw [LN.out]; exact hlt
     obtain ⟨ad, sA, sn, sc, rfl, hbk, y0, y1, sl, hs⟩ := (H.out.bw hgw).at_ e1
     have RC : Hid (Calls Tryz.prog 24 #[.slice sA sn sc, .int .i64 (m - 1)] wr (BoolPost wr (smallP v.ks[k] (m - 1)))) := Lib.hid (IH.out v.ks[k] (List.getElem_mem e1) _ _ _ (by omega) (by omega) hs)
     have HN : Hid ((v.ks.take (k + 1)).all (fun k => smallP k (m - 1)) = smallP v.ks[k] (m - 1)) := Lib.hid (by rw [all_take_succ e1, HALL.out, Bool.true_and])
     have HF : Hid (smallP v.ks[k] (m - 1) = false → res = false) := Lib.hid (fun hq => by rw [HR.out]; exact all_not (List.getElem_mem e1) hq)
     clear hs sl hg hgw HI hall hbk
     generalize smallP v.ks[k] (m - 1) = q at *
     unfold BoolPost at RC
     rcases q with _ | _
     · have HF2 := Lib.hid (HF.out rfl)
       clear HF HN
       go_wp2_with (go_at_call 24; go_must ((with_reducible refine RC.out.mono ?_); rintro e w5 ⟨rfl, hg5⟩; (have HG5 := Lib.hid hg5); clear hg5))
       go_ret
       exact ⟨ret_bool HF2.out.symm, HG.out.trans HG5.out⟩
     · clear HF
       go_wp2_with (go_at_call 24; go_must ((with_reducible refine RC.out.mono ?_); rintro e w5 ⟨rfl, hg5⟩; (have HG5 := Lib.hid hg5); clear hg5))
       go_roundw
       case rel => exact ⟨k + 1, by omega, by go_num, Lib.hid ⟨HG.out.trans HG5.out, HN.out⟩⟩
       case measure => simp [intOf]; omega
   · obtain rfl : k = n := by omega
     have HF : Hid (res = true) := Lib.hid (by rw [HR.out, ← HALL.out, List.take_of_length_le (by rw [LN.out]; omega)])
     clear hg hgw HI hall
     go_wp2
     go_ret
     exact ⟨ret_bool HF.out.symm, HG.out⟩
theorem rsmall_any (v : V) : ∀ (s : Value) (w : World) (m : Int), -1 ≤ m → m ≤ 10 → KB w w.heap.size s v.ks → Calls Tryz.prog 24 #[s, .int .i64 m] w (BoolPost w (smallP v m)) := by
 induction v using V.ind with
 | h n ks ih => intro s w m h0 h9 h; exact rsmall_step (.mk n ks) ih s w m h0 h9 h
theorem thin_step (v : T) (ih : ∀ k ∈ v.parts, ∀ (r s : Value) (W : World) (m : Int), -1 ≤ m → m ≤ 10 → TB W W.heap.size r s k → Calls Tryz.prog 23 #[.agg #[.int .i64 k.kind, .int .i64 k.size, r, s], .int .i64 m] W (BoolPost W (thinP k m)))
   (r s : Value) (w : World) (m : Int) (h0 : -1 ≤ m) (h9 : m ≤ 10) (h : TB w w.heap.size r s v) : Calls Tryz.prog 23 #[.agg #[.int .i64 v.kind, .int .i64 v.size, r, s], .int .i64 m] w (BoolPost w (thinP v m)) := by
 obtain ⟨A, n, c, rfl, ln, bn, mn⟩ := h.2.form
 obtain ⟨A2, n2, c2, rfl, ln2, bn2, mn2⟩ := h.1.form
 unfold maxLen at mn mn2
 have IH := Lib.hid ih
 have H := Lib.hid h.2
 have LN := Lib.hid ln
 have HP : Hid (thinP v m = (!(decide (10 < n) || decide (20 < n2) || decide (m < 0)) && v.parts.all fun k => thinP k (m - 1))) := Lib.hid (by rw [thinP_eq, ln, ln2])
 have HB : Hid (∀ x y, Bw w (w.alloc (.cells #[.int .i64 x, .int .i64 y, .slice A2 n2 c2, .slice A n c] 29)) ∧ Blk (w.alloc (.cells #[.int .i64 x, .int .i64 y, .slice A2 n2 c2, .slice A n c] 29)) w.heap.size 29 #[.int .i64 x, .int .i64 y, .slice A2 n2 c2, .slice A n c]) := Lib.hid (fun x y => ⟨(Bw.refl _).alloc _, Blk.new _ _ _⟩)
 clear ih h ln ln2
 generalize thinP v m = res at *
 generalize v.kind = kd at *
 generalize v.size = sz at *
 have HB := Lib.hid (HB.out kd sz)
 unfold BoolPost
 by_cases h10 : 10 < n
 · have d1 : decide ((10 : Int) < (n : Int)) = true := decide_eq_true (by omega)
   have HR : Hid (res = false) := Lib.hid (by rw [HP.out, decide_eq_true h10]; rfl)
   go_enter Tryz.func23, Tryz.ntmps23
   go_wp2
   go_ret
   exact ⟨ret_bool HR.out.symm, HB.out.1⟩
 have d1 : decide ((10 : Int) < (n : Int)) = false := decide_eq_false (by omega)
 by_cases h20 : 20 < n2
 · have d1 : decide ((20 : Int) < (n2 : Int)) = true := decide_eq_true (by omega)
   have HR : Hid (res = false) := Lib.hid (by rw [HP.out, decide_eq_true h20]; simp)
   go_enter Tryz.func23, Tryz.ntmps23
   go_wp2
   go_ret
   exact ⟨ret_bool HR.out.symm, HB.out.1⟩
 have d3 : decide ((20 : Int) < (n2 : Int)) = false := decide_eq_false (by omega)
 by_cases hm : m < 0
 · have d2 : decide (m < 0) = true := decide_eq_true hm
   have HR : Hid (res = false) := Lib.hid (by rw [HP.out, decide_eq_true hm]; simp)
   go_enter Tryz.func23, Tryz.ntmps23
   go_wp2
   go_ret
   exact ⟨ret_bool HR.out.symm, HB.out.1⟩
 have d2 : decide (m < 0) = false := decide_eq_false hm
 have wm : IntKind.i64.wrap (m - 1) = m - 1 := by simp [IntKind.wrap, IntKind.bits, IntKind.signed]; omega
 have HR : Hid (res = v.parts.all fun k => thinP k (m - 1)) := Lib.hid (by rw [HP.out, decide_eq_false h10, decide_eq_false h20, decide_eq_false hm]; rfl)
 clear HP
 go_enter Tryz.func23, Tryz.ntmps23
 go_wp2
 go_loopw [23] (fun i wr => ∃ k : Nat, k ≤ n ∧ i = .int .i64 k ∧ Hid (Bw (w.alloc (.cells #[.int .i64 kd, .int .i64 sz, .slice A2 n2 c2, .slice A n c] 29)) wr ∧ ((v.parts.take k).all fun k => thinP k (m - 1)) = true)) (fun i _ => n - (intOf i).toNat)
 case atStart => exact ⟨0, by omega, rfl, Lib.hid ⟨Bw.refl _, by simp⟩⟩
 case round =>
   obtain ⟨k, hk, rfl, HI⟩ := hrel
   obtain ⟨hg, hall⟩ := HI.out
   have hb := HB.out.2.below hg.b HB.out.2.lt
   have q0 := hb.cell 3
   have z0 := hb.lt
   have HG := Lib.hid hg
   have HALL := Lib.hid hall
   have hgw := HB.out.1.trans hg
   by_cases hlt : k < n
   · have e1 : k < v.parts.length := by rw [LN.out]; exact hlt
     obtain ⟨ad, rA, rn, rc, sA, sn, sc, rfl, hbk, y0, y1, y2, y3, hs⟩ := (PAt.bw H.out hgw).at_ e1
     have RC : Hid (Calls Tryz.prog 23 #[.agg #[.int .i64 v.parts[k].kind, .int .i64 v.parts[k].size, .slice rA rn rc, .slice sA sn sc], .int .i64 (m - 1)] wr (BoolPost wr (thinP v.parts[k] (m - 1)))) := Lib.hid (IH.out v.parts[k] (List.getElem_mem e1) _ _ _ _ (by omega) (by omega) hs)
     have HN : Hid ((v.parts.take (k + 1)).all (fun k => thinP k (m - 1)) = thinP v.parts[k] (m - 1)) := Lib.hid (by rw [all_take_succ e1, HALL.out, Bool.true_and])
     have HF : Hid (thinP v.parts[k] (m - 1) = false → res = false) := Lib.hid (fun hq => by rw [HR.out]; exact all_not (List.getElem_mem e1) hq)
     clear hs hb hg hgw HI hall hbk
     generalize thinP v.parts[k] (m - 1) = q at *
     generalize v.parts[k].kind = x1 at *
     generalize v.parts[k].size = x2 at *
     unfold BoolPost at RC
     rcases q with _ | _
     · have HF2 := Lib.hid (HF.out rfl)
       clear HF HN
       go_wp2_with (go_at_call 23; go_must ((with_reducible refine RC.out.mono ?_); rintro e w5 ⟨rfl, hg5⟩; (have HG5 := Lib.hid hg5); clear hg5))
       go_ret
       exact ⟨ret_bool HF2.out.symm, (HB.out.1.trans HG.out).trans HG5.out⟩
     · clear HF
       go_wp2_with (go_at_call 23; go_must ((with_reducible refine RC.out.mono ?_); rintro e w5 ⟨rfl, hg5⟩; (have HG5 := Lib.hid hg5); clear hg5))
       go_roundw
       case rel => exact ⟨k + 1, by omega, by go_num, Lib.hid ⟨HG.out.trans HG5.out, HN.out⟩⟩
       case measure => simp [intOf]; omega
   · obtain rfl : k = n := by omega
     have HF : Hid (res = true) := Lib.hid (by rw [HR.out, ← HALL.out, List.take_of_length_le (by rw [LN.out]; omega)])
     clear hb hg hgw HI hall
     go_wp2
     go_ret
     exact ⟨ret_bool HF.out.symm, HB.out.1.trans HG.out⟩
theorem thin_any (v : T) : ∀ (r s : Value) (w : World) (m : Int), -1 ≤ m → m ≤ 10 → TB w w.heap.size r s v → Calls Tryz.prog 23 #[.agg #[.int .i64 v.kind, .int .i64 v.size, r, s], .int .i64 m] w (BoolPost w (thinP v m)) := by
 induction v using T.ind with
 | h a b c ps ih => intro r s w m h0 h9 h; exact thin_step (.mk a b c ps) ih r s w m h0 h9 h
end Go.Proofs.YtbmheekaclmibaaGreat
