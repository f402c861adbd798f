/- Part of a proof of orderExact_card. -/
import Derived.Test.YtlmnkcfnihhlgaaGreatDoorXBldAQ
import Derived.Test.YtlmnkcfnihhlgaaGreatDoorXGenCQ
import Derived.Lay
import Derived.LaidSub
import Derived.LaidLaws
import Derived.Shelf.Vars
import Derived.HandedShaped
import Derived.MakeChecks
import Derived.Stop.Joined
import Derived.ProofKit
import Derived.Below
import Derived.ChangeSame
import Derived.ChangeArms
import Derived.Test.YtlmnkcfnihhlgaaGreatDoorTie
import Derived.Test.YtlmnkcfnihhlgaaGreatDoorCards
import Derived.Deep.Slices
import Derived.Deep.Fields
namespace Go.Proofs.YtlmnkcfnihhlgaaGreatDoor
open Go.RowKit Go.WideShapes Go.ChangeShapes Go.ChangeAt
set_option linter.unusedSimpArgs false
set_option linter.unusedVariables false
theorem own : ownKnob Tryz.prog.godebug = none := by kernel_rfl

theorem lt_of_cell {W : World} {g i : Nat} {v : Value} (h : W.cell? ⟨g, i, none⟩ = some v) : g < W.heap.size := by
 by_cases hg : g < W.heap.size
 · exact hg
 · exfalso
   simp only [World.cell?, Array.getElem?_eq_none (Nat.le_of_not_lt hg)] at h
   cases h
theorem returnsIn_laid_shaped {H : Type} {enc : TypeId × Value → H} {a : Assume} {C : Checked} {os : Os} {f : FuncId} {fn : Func} {s : ChangeSpec} {conds : List PathCond} {apart fresh handsOn again : Bool} {laid : List (String × DataW Unit)}
   (own : ownKnob C.prog.godebug = none) (started : os.Started) (noInit : C.prog.inits.idxOf? f = none) (hfn : C.prog.funcs[f]? = some fn)
   (witness : ∃ (w : World) (tape : Tape) (i : Input), w.os = os ∧ (w.forCall tape i).Shaped C.prog ∧ i.vars = [] ∧ Input.okWide C.prog (w.forCall tape i) .any w.heap.size f i ∧
     ((s.pre enc C.prog fn conds apart (w.forCall tape i).memory i.args ∧ laidMetH C.prog laid (w.forCall tape i).memory) ∧ sizedMet enc C.prog fn (OpenSpec.ofChange s) apart (w.forCall tape i).memory i.args) ∧ a.holds C.prog (lone (Frame.enter C.prog f i.args .normal) [] (w.forCall tape i)))
   (contract : ∀ (W : World) (base : Nat) (args : Array Value) (ds gs : List (DataW H)) (before : List MemPlace),
     (∀ (j : Nat) t v, fn.params[j]? = some t → args[j]? = some v → Value.okWide C.prog W .any base t v) →
     DataW.Whole enc C.prog fn.params.toList s.vars apart W args.toList ds gs before →
     conds.all (PathCond.test C.prog ⟨fn.params.toList, ds, s.plain.varTypes C.prog, gs⟩) = true →
     (DataW.weightsEach C.prog (fn.params.toList ++ s.plain.varTypes C.prog) (ds ++ gs)).all (· ≤ reachBytes) = true → laidMetH C.prog laid W →
     W.ShapedOpen C.prog →
     Calls C.prog f args W fun e W' => ∃ v, e = .returned v ∧ s.post enc C.prog fn apart fresh handsOn again W args v W') :
   ReturnsInHanded a C os f .any (fun w args => (s.pre enc C.prog fn conds apart w args ∧ laidMetH C.prog laid w) ∧ sizedMet enc C.prog fn (OpenSpec.ofChange s) apart w args) (s.post enc C.prog fn apart fresh handsOn again) := by
 refine returnsInHanded_of_calls own started noInit witness ?_
 intro w tape i _ hsh _ hok hpre hholds
 obtain ⟨_, _, _, fn', hfn', _, _, _, _, hval⟩ := hok
 have e : fn' = fn := Option.some.inj (hfn'.symm.trans hfn)
 subst e
 obtain ⟨⟨⟨ds, gs, before, hw, hc⟩, hx⟩, hz⟩ := hpre
 have hw' := DataW.Whole.of_heap (w' := w.forCall tape i) (by rfl) hw
 refine (contract (w.forCall tape i) w.heap.size i.args ds gs before hval hw' hc (hz.weights hw) (laidMetH.of_heap (w := (w.forCall tape i).memory) (by rfl) hx) hsh).mono fun e W' ⟨v, he, hp⟩ => ?_
 subst he
 exact ChangeSpec.post_blind hp

section
variable {H : Type} {enc : TypeId × Value → H} {P : Program}
end
def laidL : List (String × DataW Unit) := Rows.orderTotalRow.laid
theorem pow_data : (Rows.laid_internal_strconv_uint64pow10 : DataW Unit) = Lib.tabData .u64 Lib.pow10Tab := by kernel_rfl
theorem glob_of_laid {W : World} (hL : laidMetH Tryz.prog laidL W) : GlobO W := by
 rw [MakeChecks.laidMetH_plain _ _ _ (by kernel_rfl)] at hL
 have h1 := hL.filter (fun x => x.1 == "internal/strconv.uint64pow10")
 have h2 : laidMet Tryz.prog [("internal/strconv.uint64pow10", Lib.tabData .u64 Lib.pow10Tab)] W := by
   rw [← pow_data]; exact h1
 have h3 : Lib.TabIs Tryz.prog W "internal/strconv.uint64pow10" .u64 Lib.pow10Tab :=
   Lib.tabIs_of_head (g := 2) pow_named (by kernel_rfl) (t := 208) (e := 58) Tryz.underlying208 Tryz.underlying58 (by kernel_rfl) (by kernel_rfl) h2
 have e1 := hL.filter (fun x => x.1 == "strconv.ErrSyntax")
 have e2 : laidMet Tryz.prog [("strconv.ErrSyntax", Rows.laid_strconv_ErrSyntax)] W := e1
 obtain ⟨_, ⟨g3, t3, cs3, fuel3, p3, q3, hg3, ht3, hv3, hd3, _, _⟩, _⟩ := e2
 obtain rfl := Option.some.inj (es_named.symm.trans hg3)
 obtain rfl : 110 = t3 := Option.some.inj ((show (Tryz.prog.globals[0]?).map (·.type) = some 110 by kernel_rfl).symm.trans ht3)
 obtain ⟨_, u3, v3, hc3, _, _⟩ := iface_of_trod Tryz.underlying110 hd3
 have e4 := hL.filter (fun x => x.1 == "strconv.ErrRange")
 have e5 : laidMet Tryz.prog [("strconv.ErrRange", Rows.laid_strconv_ErrRange)] W := e4
 obtain ⟨_, ⟨g4, t4, cs4, fuel4, p4, q4, hg4, ht4, hv4, hd4, _, _⟩, _⟩ := e5
 obtain rfl := Option.some.inj (er_named.symm.trans hg4)
 obtain rfl : 110 = t4 := Option.some.inj ((show (Tryz.prog.globals[1]?).map (·.type) = some 110 by kernel_rfl).symm.trans ht4)
 obtain ⟨_, u4, v4, hc4, _, _⟩ := iface_of_trod Tryz.underlying110 hd4
 obtain ⟨l3⟩ := cs3
 obtain rfl : l3 = [.iface u3 v3] := hc3
 obtain ⟨l4⟩ := cs4
 obtain rfl : l4 = [.iface u4 v4] := hc4
 exact ⟨h3, ⟨u3, v3, hv3⟩, ⟨u4, v4, hv4⟩, lt_of_cell (h3.cell pow_named 0 (by decide)), lt_of_cell (World.var?_cell hg3 hv3 0), lt_of_cell (World.var?_cell hg4 hv4 0)⟩
theorem own_laid : laidOutB Tryz.prog = true := by kernel_rfl
theorem witness_laid {H : Type} {enc : TypeId × Value → H} (os : Os) (args : Array Value) : laidMetH Tryz.prog laidL ((World.laidAll Tryz.prog os laidL).forCall (fun _ _ => 0) ⟨#[], args, []⟩).memory := by
 rw [MakeChecks.laidMetH_plain _ _ _ (by kernel_rfl)]
 exact laidMet_laidAll _ (by kernel_rfl) (by kernel_rfl)
end Go.Proofs.YtlmnkcfnihhlgaaGreatDoor
namespace Go.Proofs.YtlmnkcfnihhlgaaGreatDoor
open Go Go.ChangeShapes Go.WideShapes Go.ChangeAt Go.RowKit Go.Deep
set_option linter.unusedSimpArgs false
set_option linter.unusedVariables false
theorem list_of_forall {α : Type} {P : Nat → α → Prop} : ∀ (n : Nat), (∀ i, i < n → ∃ x, P i x) → ∃ xs : List α, xs.length = n ∧ ∀ i (h : i < xs.length), P i xs[i] := by
 intro n
 induction n with
 | zero => intro _; exact ⟨[], rfl, fun i h => absurd h (by simp)⟩
 | succ n ih =>
   intro h
   obtain ⟨xs, hl, hx⟩ := ih fun i hi => h i (by omega)
   obtain ⟨x, hxn⟩ := h n (by omega)
   refine ⟨xs ++ [x], by simp [hl], fun i hi => ?_⟩
   by_cases e : i < xs.length
   · rw [List.getElem_append_left e]; exact hx i e
   · have : i = n := by simp [hl] at hi; omega
     subst this
     rw [List.getElem_append_right (by omega)]
     simpa [hl] using hxn

section
variable {H : Type} {enc : TypeId × Value → H} {P : Program}
theorem trodAll_stays (hl : laidOutB P = true) {W W' : World} (hb : Below W.heap.size W W') : ∀ {ts : List TypeId} {vs : List Value} {ds : List (DataW H)} {ps : List MemPlace},
   (ts.all fun t => P.readableRec t && decide (t < P.types.size)) = true → DataW.TrodAll enc P W 0 (fun _ => true) true ts vs ds ps → (∀ x ∈ ps, x.block < W.heap.size) →
   DataW.TrodAll enc P W' 0 (fun b => decide (b < W.heap.size)) true ts vs ds ps := by
 intro ts
 induction ts with
 | nil =>
   intro vs ds ps _ h _
   obtain ⟨rfl, rfl, rfl⟩ := trodAll_nil h
   exact rfl
 | cons t ts ih =>
   intro vs ds ps hr h hlt
   obtain ⟨v, vs', d, ds', p, q, rfl, rfl, rfl, h1, h2⟩ := trodAll_cons h
   simp only [List.all_cons, Bool.and_eq_true, decide_eq_true_eq] at hr
   exact ⟨p, q, Below.trod hl hr.1.1 hr.1.2 h1 hb (fun x hx => hlt x (by simp [hx])), ih hr.2 h2 (fun x hx => hlt x (by simp [hx])), rfl⟩
theorem trodAll_lt {W : World} {base : Nat} {spare : Nat → Bool} {held : Bool} : ∀ {ts : List TypeId} {vs : List Value} {ds : List (DataW H)} {ps : List MemPlace}, DataW.TrodAll enc P W base spare held ts vs ds ps → ∀ x ∈ ps, x.block < W.heap.size := by
 intro ts
 induction ts with
 | nil =>
   intro vs ds ps h x hx
   obtain ⟨rfl, rfl, rfl⟩ := trodAll_nil h
   cases hx
 | cons t ts ih =>
   intro vs ds ps h x hx
   obtain ⟨v, vs', d, ds', p, q, rfl, rfl, rfl, ⟨m, h1⟩, h2⟩ := trodAll_cons h
   rcases List.mem_append.1 hx with hx | hx
   · exact DataW.trod_lt m _ _ _ h1 x hx
   · exact ih h2 x hx
theorem open_slice_fields {w : World} {base : Nat} {spare : Nat → Bool} {held : Bool} {t e : TypeId} {fs : Array Field} {fuel : Nat} {cs : List Value} {x : DataW H × List MemPlace} (ht : P.underlying t = some (.slice e)) (he : P.underlying e = some (.struct fs))
   (hone : oneCellFields P fs = true) (hC : P.cellsOf e = fs.size) (h : DataW.trod enc P w base spare held fuel t cs = some x) :
   (cs = [.slice none 0 0] ∧ x = (.nil, [])) ∨
   ∃ (a : Addr) (len cap m : Nat) (D : Nat → DataW H) (Pl : Nat → List MemPlace), cs = [.slice (some a) len cap] ∧ base ≤ a.block ∧ len ≤ cap ∧ cap ≤ maxLen ∧ m = (if spare a.block then cap else len) ∧
     x = (.slice ((List.range len).map D) ((List.range (m - len)).map fun j => D (len + j)), MemPlace.row a (m * fs.size) ++ (List.range m).flatMap Pl) ∧
     ∀ i, i < m → ∃ (ys : List (DataW H × List MemPlace)) (n : Nat), D i = .agg (ys.map (·.1)) ∧ Pl i = ys.flatMap (·.2) ∧ ys.length = fs.size ∧
       ∀ (j : Nat) (f : Field), fs[j]? = some f → ∃ (v : Value) (y : DataW H × List MemPlace), w.cell? (a.add (i * fs.size + j)) = some v ∧ ys[j]? = some y ∧ DataW.trod enc P w base spare held n f.type [v] = some y := by
 rcases open_slice ht h with h0 | ⟨a, len, cap, m, n, D, Pl, hcs, hb, hl, hm, hmm, hx, hi⟩
 · exact .inl h0
 · refine .inr ⟨a, len, cap, m, D, Pl, hcs, hb, hl, hm, hmm, by rw [hC] at hx; exact hx, fun i him => ?_⟩
   obtain ⟨cs', hc, ht'⟩ := hi i him
   rw [hC] at hc
   obtain ⟨ys, n', hn', hy, hlen, hyl, hf⟩ := DataW.trod_struct he ht'
   obtain ⟨_, hcl, hat⟩ := World.cells?_some hc
   simp only [Prod.mk.injEq] at hy
   refine ⟨ys, n', hy.1, hy.2, hyl, fun j f hj => ?_⟩
   obtain ⟨ho, hk⟩ := hone_of hone j f hj
   have hjl : j < fs.size := (Array.getElem?_eq_some_iff.1 hj).1
   have hcell := hat j hjl
   have hv : cs'[j]? = some (cs'[j]'(by omega)) := List.getElem?_eq_getElem (by omega)
   have h1 := hf j f hj
   rw [ho, hk] at h1
   have hone' : (cs'.drop j).take 1 = [cs'[j]'(by omega)] := by
     rw [List.drop_eq_getElem_cons (by omega)]
     rfl
   rw [hone'] at h1
   have hys : ys[j]? = some (ys[j]'(by omega)) := List.getElem?_eq_getElem (by omega)
   refine ⟨_, _, ?_, hys, h1.trans hys⟩
   rw [← Go.Deep.add_add, hcell, hv]
end
end Go.Proofs.YtlmnkcfnihhlgaaGreatDoor
namespace Go.Proofs.YtlmnkcfnihhlgaaGreatDoor
open Go Go.ChangeShapes Go.WideShapes Go.ChangeAt Go.RowKit
set_option linter.unusedSimpArgs false
set_option linter.unusedVariables false
theorem intsArg_of {H : Type} {enc : TypeId × Value → H} {W : World} {a : Option Addr} {len cap : Nat} {d : DataW H} {p : List MemPlace} (h0 : DataW.Trod enc Tryz.prog W 0 (fun _ => true) true 22 (.slice a len cap) d p) : IntsArg W a len ∧ len ≤ maxLen := by
 obtain ⟨fuel, hf⟩ := h0
 rcases open_ints Tryz.underlying22 Tryz.underlying3 (by kernel_rfl) hf with ⟨hcs, _⟩ | ⟨x, l, c, zs, hcs, _, hl, hm, hz, _, hcell, hwz⟩
 · simp [Value.cells] at hcs
   obtain ⟨rfl, rfl, rfl⟩ := hcs
   exact ⟨⟨[], fun k hk => by omega⟩, Nat.zero_le _⟩
 · simp [Value.cells] at hcs
   obtain ⟨rfl, rfl, rfl⟩ := hcs
   have hz' : zs.length = cap := by simpa using hz
   refine ⟨⟨zs, fun k hk => ⟨_, rfl, ?_, hcell k (by omega)⟩⟩, Nat.le_trans hl hm⟩
   have := hcell k (by omega)
   have h2 : (x.add k).block < W.heap.size := by
     by_cases hg : (x.add k).block < W.heap.size
     · exact hg
     · exfalso
       simp only [World.cell?, Array.getElem?_eq_none (Nat.le_of_not_lt hg)] at this
       cases this
   rwa [add_block] at h2
end Go.Proofs.YtlmnkcfnihhlgaaGreatDoor
