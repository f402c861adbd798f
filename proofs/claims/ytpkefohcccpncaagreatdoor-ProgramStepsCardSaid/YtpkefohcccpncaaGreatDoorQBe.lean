/- The wrap of a row that lists variables and needs the world's shape; small facts on cells. From the variables that the rows of programs list to what the walks need. Arguments of any number: they read as they did where nothing old has turned; a slice of structs opened to its cells. From the row's reading of a list of seeds to what the walks need. Raw arguments: a program, a row of numbers, an event that read. -/
import Derived.Test.YtpkefohcccpncaaGreatDoorRows
import Derived.Lay
import Derived.LaidSub
import Derived.LaidLaws
import Derived.Lib.LaidTab
import Derived.Shelf.Vars
import Derived.HandedShaped
import Derived.MakeChecks
import Derived.Stop.Joined
import Derived.ProofKit
import Derived.Below
import Derived.ChangeSame
import Derived.Test.YtpkefohcccpncaaGreatDoorQAe
import Derived.OpenShut
import Derived.SliceStrings
import Derived.ChangeArms
import Derived.Test.YtpkefohcccpncaaGreatDoorTie
import Derived.Test.YtpkefohcccpncaaGreatDoorCards
import Derived.Deep.Slices
import Derived.Deep.Fields
import Derived.Test.YtpkefohcccpncaaGreatDoorQAw
import Derived.ChangeMaps5
import Derived.Test.YtpkefohcccpncaaGreatDoorQAr
import Derived.Test.YtpkefohcccpncaaGreatDoorQAf
namespace Go.Proofs.YtpkefohcccpncaaGreatDoor
open Go.RowKit Go.WideShapes Go.ChangeShapes Go.ChangeAt
set_option linter.unusedSimpArgs false
set_option linter.unusedVariables false

theorem own : ownKnob Tryz.prog.godebug = none := by kernel_rfl

theorem maxLen_cell {W : World} (h : W.ShapedOpen Tryz.prog) : ∃ m, W.cell? ⟨2, 0, none⟩ = some (.int .i64 m) :=
  Go.Proofs.cell_of_shapedOpen_int (zero := #[.int .i64 0]) (t := 3) h (of_decide_eq_true (by kernel_rfl)) (by kernel_rfl) rfl (by kernel_rfl) (by kernel_rfl) Tryz.underlying3
theorem lt_of_cell {W : World} {g i : Nat} {v : Value} (h : W.cell? ⟨g, i, none⟩ = some v) : g < W.heap.size := by
  by_cases hg : g < W.heap.size
  · exact hg
  · exfalso
    simp only [World.cell?, Array.getElem?_eq_none (Nat.le_of_not_lt hg)] at h
    cases h
/-- the wrap: the listed variables and the world's shape -/
theorem returnsIn_laid_shaped {H : Type} {enc : TypeId × Value → H} {a : Assume} {C : Checked} {os : Os} {f : FuncId} {fn : Func} {s : ChangeSpec} {conds : List PathCond} {apart fresh handsOn again : Bool} {laid : List (String × DataW Unit)}
    (own : ownKnob C.prog.godebug = none) (started : os.Started) (noInit : C.prog.inits.idxOf? f = none) (hfn : C.prog.funcs[f]? = some fn)
    (witness : ∃ (w : World) (tape : Tape) (i : Input), w.os = os ∧ (w.forCall tape i).Shaped C.prog ∧ i.vars = [] ∧ Input.okWide C.prog (w.forCall tape i) .any w.heap.size f i ∧
      ((s.pre enc C.prog fn conds apart (w.forCall tape i).memory i.args ∧ laidMetH C.prog laid (w.forCall tape i).memory) ∧ sizedMet enc C.prog fn (OpenSpec.ofChange s) apart (w.forCall tape i).memory i.args) ∧ a.holds C.prog (lone (Frame.enter C.prog f i.args .normal) [] (w.forCall tape i)))
    (contract : ∀ (W : World) (base : Nat) (args : Array Value) (ds gs : List (DataW H)) (before : List MemPlace),
      (∀ (j : Nat) t v, fn.params[j]? = some t → args[j]? = some v → Value.okWide C.prog W .any base t v) →
      DataW.Whole enc C.prog fn.params.toList s.vars apart W args.toList ds gs before →
      conds.all (PathCond.test C.prog ⟨fn.params.toList, ds, s.plain.varTypes C.prog, gs⟩) = true →
      (DataW.weightsEach C.prog (fn.params.toList ++ s.plain.varTypes C.prog) (ds ++ gs)).all (· ≤ reachBytes) = true → laidMetH C.prog laid W →
      W.ShapedOpen C.prog →
      Calls C.prog f args W fun e W' => ∃ v, e = .returned v ∧ s.post enc C.prog fn apart fresh handsOn again W args v W') :
    ReturnsInHanded a C os f .any (fun w args => (s.pre enc C.prog fn conds apart w args ∧ laidMetH C.prog laid w) ∧ sizedMet enc C.prog fn (OpenSpec.ofChange s) apart w args) (s.post enc C.prog fn apart fresh handsOn again) := by
  refine returnsInHanded_of_calls own started noInit witness ?_
  intro w tape i _ hsh _ hok hpre hholds
  obtain ⟨_, _, _, fn', hfn', _, _, _, _, hval⟩ := hok
  have e : fn' = fn := Option.some.inj (hfn'.symm.trans hfn)
  subst e
  obtain ⟨⟨⟨ds, gs, before, hw, hc⟩, hx⟩, hz⟩ := hpre
  have hw' := DataW.Whole.of_heap (w' := w.forCall tape i) (by rfl) hw
  refine (contract (w.forCall tape i) w.heap.size i.args ds gs before hval hw' hc (hz.weights hw) (laidMetH.of_heap (w := (w.forCall tape i).memory) (by rfl) hx) hsh).mono fun e W' ⟨v, he, hp⟩ => ?_
  subst he
  exact ChangeSpec.post_blind hp

section
variable {H : Type} {enc : TypeId × Value → H} {P : Program}
theorem post_of_below {f : Func} {s : ChangeSpec} {apart fresh handsOn again : Bool} {W W' : World} {args : Array Value} {v : Value} {ds gs : List (DataW H)} {before pa pv : List MemPlace}
    (hW : DataW.Whole enc P f.params.toList s.vars apart W args.toList ds gs before)
    (hres : ∀ (b : Nat) (sp : Nat → Bool) (hd : Bool), DataW.TrodAll enc P W' b sp hd f.resultTypes.toList (v.resultList f.resultTypes.size) (s.fn H (ds ++ gs)).results [])
    (hargs : ∀ sp : Nat → Bool, (∀ p ∈ before, sp p.block = true) → DataW.TrodAll enc P W' 0 sp true f.params.toList args.toList (s.fn H (ds ++ gs)).args pa)
    (hvars : ∀ sp : Nat → Bool, (∀ p ∈ before, sp p.block = true) → DataW.TrodVars enc P W' sp s.vars (s.fn H (ds ++ gs)).vars pv)
    (hps : before = pa ++ pv) (hb : Below W.heap.size W W')
    (hok : ∀ (j : Nat) (t : TypeId) (r : Value), f.resultTypes[j]? = some t → (v.resultList f.resultTypes.size)[j]? = some r → Value.okWide P W' .any 0 t r) :
    s.post enc P f apart fresh handsOn again W args v W' := by
  have hlt : ∀ p ∈ before, p.block < W.heap.size := fun p hp => hW.lt p hp
  have hold : ∀ p ∈ before, (fun b => decide (b < W.heap.size)) p.block = true := fun p hp => by simpa using hlt p hp
  refine ⟨ds, gs, before, [], pa, pv, hW, hres _ _ _, hargs _ hold, hvars _ hold, World.keptBut_mono (fun p hp => ⟨hp, ?_⟩) (hb.frame (· ∈ before)), fun _ => ?_⟩
  · rw [hps, List.mem_append] at hp
    exact Or.inr hp
  · obtain ⟨_, _, _, _, _, hz, hn⟩ := hW
    refine ⟨hok, _, _, ([] ++ pa) ++ pv, ⟨[] ++ pa, pv, trodAll_append (hargs _ (fun _ _ => rfl)) (hres _ _ _), hvars _ (fun _ _ => rfl), rfl, ?_, ?_⟩, ?_⟩
    · intro b off hp
      have hin : MemPlace.cell b off ∈ before := by rw [hps]; simpa using hp
      rw [hb.frozen (hlt _ hin)]
      exact hz b off hin
    · intro ha
      have := hn ha
      rw [hps] at this
      simpa using this
    · intro p hp _
      rw [hps]
      simpa using hp
end

end Go.Proofs.YtpkefohcccpncaaGreatDoor
namespace Go.Proofs.YtpkefohcccpncaaGreatDoor
open Go.RowKit Go.WideShapes Go.ChangeShapes Go.ChangeAt
set_option linter.unusedSimpArgs false
set_option linter.unusedVariables false

/-- what the rows list -/
def laidL : List (String × DataW Unit) := Rows.programCountsRow.laid
theorem pow_data : (Rows.laid_internal_strconv_uint64pow10 : DataW Unit) = Lib.tabData .u64 Lib.pow10Tab := by kernel_rfl
def wordsData (H : Type) : DataW H := .agg ((List.range 8).map fun k => .agg [.lit (.string (kwOf k)), .lit (.int .i64 (argOf k))])
theorem words_data : (Rows.laid_coverability_program_words : DataW Unit) = wordsData Unit := by kernel_rfl
theorem words_named : Tryz.prog.globalNamed "coverability/program.words" = some 0 := by kernel_rfl
theorem reserved_named : Tryz.prog.globalNamed "coverability/program.reserved" = some 1 := by kernel_rfl
theorem reserved_data : (Rows.laid_coverability_program_reserved : DataW Unit) = .slice [.lit (.string kwValues), .lit (.string kwThread), .lit (.string kwEnd)] [] := by kernel_rfl

theorem str_of_data {s : ByteArray} {l : List UInt8} (h : s.data.toList = l) : s = ⟨l.toArray⟩ := by subst h; rfl
theorem words_cells {W : World} {cs : List Value} {fuel : Nat} {p : List MemPlace} (h : DataW.trod (fun _ => ()) Tryz.prog W 0 (fun _ => true) false fuel 108 cs = some (wordsData Unit, p)) :
    ∀ k, k < 8 → cs[k * 2]? = some (.string ⟨(kwOf k).toArray⟩) ∧ cs[k * 2 + 1]? = some (.int .i64 (argOf k)) := by
  obtain ⟨xs, m, _, hx, hcl, hxl, hi⟩ := DataW.trod_array Tryz.underlying108 h
  intro k hk
  have hce : Tryz.prog.cellsOf 107 = 2 := by kernel_rfl
  have h1 := hi k hk
  rw [hce] at h1
  have hk1 : k < xs.length := by omega
  have hxk : xs[k]? = some xs[k] := List.getElem?_eq_getElem hk1
  rw [hxk] at h1
  have hd : xs[k].1 = .agg [.lit (.string (kwOf k)), .lit (.int .i64 (argOf k))] := by
    have h2 : xs.map (·.1) = (List.range 8).map fun k => (DataW.agg [.lit (.string (kwOf k)), .lit (.int .i64 (argOf k))] : DataW Unit) := by
      have := (Prod.mk.inj hx).1
      unfold wordsData at this
      exact (DataW.agg.inj this).symm
    have h3 := congrArg (·[k]?) h2
    simp only [List.getElem?_map, hxk, List.getElem?_range hk, Option.map_some, Option.some.injEq] at h3
    exact h3
  obtain ⟨ys, m', _, hy, hyl, hysz, hf⟩ := DataW.trod_struct Tryz.underlying107 h1
  rw [hy] at hd
  have hcl1 : Tryz.prog.cellsOf 9 = 1 := by kernel_rfl
  have hcl2 : Tryz.prog.cellsOf 3 = 1 := by kernel_rfl
  have f0 : DataW.trod (fun _ => ()) Tryz.prog W 0 (fun _ => true) false m' 9 ((((cs.drop (k * 2)).take 2).drop 0).take (Tryz.prog.cellsOf 9)) = ys[0]? := hf 0 _ rfl
  have f1 : DataW.trod (fun _ => ()) Tryz.prog W 0 (fun _ => true) false m' 3 ((((cs.drop (k * 2)).take 2).drop 1).take (Tryz.prog.cellsOf 3)) = ys[1]? := hf 1 _ rfl
  rw [hcl1] at f0
  rw [hcl2] at f1
  have hys2 : ys.length = 2 := hysz
  obtain ⟨y0, y1, rfl⟩ : ∃ y0 y1, ys = [y0, y1] := by
    match ys, hys2 with
    | [a, b], _ => exact ⟨a, b, rfl⟩
  obtain ⟨s0, e0, ex0, _⟩ := DataW.trod_string Tryz.underlying9 (x := y0) f0
  obtain ⟨n1, e1, ex1, _⟩ := DataW.trod_int Tryz.underlying3 (x := y1) f1
  have hd2 := DataW.agg.inj hd
  simp only [List.map_cons, List.map_nil, ex0, ex1, List.cons.injEq, DataW.lit.injEq, Lit.string.injEq, Lit.int.injEq, true_and, and_true] at hd2
  obtain ⟨hs, hn⟩ := hd2
  refine ⟨?_, ?_⟩
  · have := congrArg (·[0]?) e0
    simp only [List.drop_zero, List.getElem?_take, List.getElem?_drop] at this
    rw [← str_of_data hs]
    simpa using this
  · have := congrArg (·[0]?) e1
    simp only [List.getElem?_take, List.getElem?_drop] at this
    rw [← hn]
    simpa using this
theorem glob_of_laid {W : World} (hL : laidMetH Tryz.prog laidL W) (hsh : W.ShapedOpen Tryz.prog) : GlobP W := by
  rw [MakeChecks.laidMetH_plain _ _ _ (by kernel_rfl)] at hL
  have h1 := hL.filter (fun x => x.1 == "internal/strconv.uint64pow10")
  have h2 : laidMet Tryz.prog [("internal/strconv.uint64pow10", Lib.tabData .u64 Lib.pow10Tab)] W := by
    rw [← pow_data]; exact h1
  have h3 : Lib.TabIs Tryz.prog W "internal/strconv.uint64pow10" .u64 Lib.pow10Tab :=
    Lib.tabIs_of_head (g := 3) pow_named (by kernel_rfl) (t := 145) (e := 135) Tryz.underlying145 Tryz.underlying135 (by kernel_rfl) (by kernel_rfl) h2
  obtain ⟨m, hm⟩ := maxLen_cell hsh
  have w1 := hL.filter (fun x => x.1 == "coverability/program.words")
  have w2 : laidMet Tryz.prog [("coverability/program.words", wordsData Unit)] W := by
    rw [← words_data]; exact w1
  obtain ⟨_, ⟨g, t, cs, fuel, p, q, hg, ht, hv, hd, _, _⟩, _⟩ := w2
  obtain rfl := Option.some.inj (words_named.symm.trans hg)
  obtain rfl : 108 = t := Option.some.inj ((show (Tryz.prog.globals[0]?).map (·.type) = some 108 by kernel_rfl).symm.trans ht)
  have hwc := words_cells hd
  have hwd : ∀ k, k < 8 → W.cell? ⟨0, k * 2, none⟩ = some (.string ⟨(kwOf k).toArray⟩) ∧ W.cell? ⟨0, k * 2 + 1, none⟩ = some (.int .i64 (argOf k)) := fun k hk => by
    obtain ⟨a, b⟩ := hwc k hk
    refine ⟨(World.var?_cell hg hv _).trans ?_, (World.var?_cell hg hv _).trans ?_⟩
    · rw [← a]; simp
    · rw [← b]; simp
  have r1 := hL.filter (fun x => x.1 == "coverability/program.reserved")
  have r2 : laidMet Tryz.prog [("coverability/program.reserved", .slice [.lit (.string kwValues), .lit (.string kwThread), .lit (.string kwEnd)] [])] W := by
    rw [← reserved_data]; exact r1
  obtain ⟨_, ⟨g2, t2, cs2, fuel2, p2, q2, hg2, ht2, hv2, hd2, _, _⟩, _⟩ := r2
  obtain rfl := Option.some.inj (reserved_named.symm.trans hg2)
  obtain rfl : 60 = t2 := Option.some.inj ((show (Tryz.prog.globals[1]?).map (·.type) = some 60 by kernel_rfl).symm.trans ht2)
  have e1 := hL.filter (fun x => x.1 == "strconv.ErrSyntax")
  have e2 : laidMet Tryz.prog [("strconv.ErrSyntax", Rows.laid_strconv_ErrSyntax)] W := e1
  obtain ⟨_, ⟨g3, t3, cs3, fuel3, p3, q3, hg3, ht3, hv3, hd3, _, _⟩, _⟩ := e2
  obtain rfl := Option.some.inj (es_named.symm.trans hg3)
  obtain rfl : 114 = t3 := Option.some.inj ((show (Tryz.prog.globals[6]?).map (·.type) = some 114 by kernel_rfl).symm.trans ht3)
  obtain ⟨_, u3, v3, hc3, _, _⟩ := iface_of_trod Tryz.underlying114 hd3
  have e4 := hL.filter (fun x => x.1 == "strconv.ErrRange")
  have e5 : laidMet Tryz.prog [("strconv.ErrRange", Rows.laid_strconv_ErrRange)] W := e4
  obtain ⟨_, ⟨g4, t4, cs4, fuel4, p4, q4, hg4, ht4, hv4, hd4, _, _⟩, _⟩ := e5
  obtain rfl := Option.some.inj (er_named.symm.trans hg4)
  obtain rfl : 114 = t4 := Option.some.inj ((show (Tryz.prog.globals[7]?).map (·.type) = some 114 by kernel_rfl).symm.trans ht4)
  obtain ⟨_, u4, v4, hc4, _, _⟩ := iface_of_trod Tryz.underlying114 hd4
  obtain ⟨l3⟩ := cs3
  obtain rfl : l3 = [.iface u3 v3] := hc3
  obtain ⟨l4⟩ := cs4
  obtain rfl : l4 = [.iface u4 v4] := hc4
  have hrs : ∃ (a : Addr) (c : Nat), W.cell? ⟨1, 0, none⟩ = some (.slice (some a) 3 c) ∧ Reads W W.heap.size 1 (some a) 3 [.string ⟨kwValues.toArray⟩, .string ⟨kwThread.toArray⟩, .string ⟨kwEnd.toArray⟩] := by
    rcases open_strings Tryz.underlying60 Tryz.underlying9 (by kernel_rfl) hd2 with ⟨_, hx⟩ | ⟨a, len, cap, ss, hcs, hb, hl, hm2, hsl, hx, hcell, hsz⟩
    · cases (Prod.mk.inj hx).1
    · have hx1 := (Prod.mk.inj hx).1
      have hx2 := (DataW.slice.inj hx1).1
      have hx3 := (DataW.slice.inj hx1).2
      rw [if_pos rfl] at hsl
      have hl3 : (ss.take len).length = 3 := by
        have := congrArg List.length hx2
        simpa [strs] using this.symm
      have hl3' : len = 3 := by rw [List.length_take] at hl3; omega
      subst hl3'
      have hd0 : (ss.drop 3).length = 0 := by
        have := congrArg List.length hx3
        simpa [strs] using this.symm
      have hc3 : ss.length = 3 := by rw [List.length_drop] at hd0; rw [List.length_take] at hl3; omega
      obtain ⟨s0, s1, s2, rfl⟩ : ∃ s0 s1 s2, ss = [s0, s1, s2] := by
        match ss, hc3 with
        | [x, y, z], _ => exact ⟨x, y, z, rfl⟩
      have hx4 : [(DataW.lit (.string kwValues) : DataW Unit), .lit (.string kwThread), .lit (.string kwEnd)] = [.lit (.string s0.data.toList), .lit (.string s1.data.toList), .lit (.string s2.data.toList)] := hx2
      simp only [List.cons.injEq, DataW.lit.injEq, Lit.string.injEq, and_true] at hx4
      obtain ⟨i0, i1, i2⟩ := hx4
      have k0 := hcell 0 (by simp)
      have k1 := hcell 1 (by simp)
      have k2 := hcell 2 (by simp)
      have hblk : a.block < W.heap.size := by
        by_cases hg : a.block < W.heap.size
        · exact hg
        · exfalso
          have k0' := k0
          simp only [World.cell?, add_block, Array.getElem?_eq_none (Nat.le_of_not_lt hg)] at k0'
          cases k0'
      obtain ⟨lcs⟩ := cs2
      obtain rfl : lcs = [.slice (some a) 3 cap] := hcs
      refine ⟨a, cap, (World.var?_cell hg2 hv2 0), rfl, fun _ => ⟨a, rfl, hblk, fun j u hu => ?_⟩⟩
      rw [← str_of_data i0.symm, ← str_of_data i1.symm, ← str_of_data i2.symm] at hu
      match j, hu with
      | 0, hu => simp only [List.getElem?_cons_zero, Option.some.injEq] at hu; rw [← hu]; exact k0
      | 1, hu => simp only [List.getElem?_cons_succ, List.getElem?_cons_zero, Option.some.injEq] at hu; rw [← hu]; exact k1
      | 2, hu => simp only [List.getElem?_cons_succ, List.getElem?_cons_zero, Option.some.injEq] at hu; rw [← hu]; exact k2
      | j + 3, hu => simp at hu
  obtain ⟨ra, rc, hra, hrr⟩ := hrs
  exact ⟨⟨m, hm⟩, h3, hwd, ⟨ra, rc, hra, hrr⟩, ⟨u3, v3, hv3⟩, ⟨u4, v4, hv4⟩, lt_of_cell (h3.cell pow_named 0 (by decide)), lt_of_cell hm, lt_of_cell (hwd 0 (by omega)).1, lt_of_cell hra, lt_of_cell (World.var?_cell hg3 hv3 0), lt_of_cell (World.var?_cell hg4 hv4 0)⟩
theorem own_laid : laidOutB Tryz.prog = true := by kernel_rfl
/-- a start in which the listed variables lie -/
theorem witness_laid {H : Type} {enc : TypeId × Value → H} (os : Os) (args : Array Value) : laidMetH Tryz.prog laidL ((World.laidAll Tryz.prog os laidL).forCall (fun _ _ => 0) ⟨#[], args, []⟩).memory := by
  rw [MakeChecks.laidMetH_plain _ _ _ (by kernel_rfl)]
  exact laidMet_laidAll _ (by kernel_rfl) (by kernel_rfl)
end Go.Proofs.YtpkefohcccpncaaGreatDoor
namespace Go.Proofs.YtpkefohcccpncaaGreatDoor
open Go Go.ChangeShapes Go.WideShapes Go.ChangeAt Go.RowKit Go.Deep
set_option linter.unusedSimpArgs false
set_option linter.unusedVariables false

theorem list_of_forall {α : Type} {P : Nat → α → Prop} : ∀ (n : Nat), (∀ i, i < n → ∃ x, P i x) → ∃ xs : List α, xs.length = n ∧ ∀ i (h : i < xs.length), P i xs[i] := by
  intro n
  induction n with
  | zero => intro _; exact ⟨[], rfl, fun i h => absurd h (by simp)⟩
  | succ n ih =>
    intro h
    obtain ⟨xs, hl, hx⟩ := ih fun i hi => h i (by omega)
    obtain ⟨x, hxn⟩ := h n (by omega)
    refine ⟨xs ++ [x], by simp [hl], fun i hi => ?_⟩
    by_cases e : i < xs.length
    · rw [List.getElem_append_left e]; exact hx i e
    · have : i = n := by simp [hl] at hi; omega
      subst this
      rw [List.getElem_append_right (by omega)]
      simpa [hl] using hxn

section
variable {H : Type} {enc : TypeId × Value → H} {P : Program}
theorem trodAll_stays (hl : laidOutB P = true) {W W' : World} (hb : Below W.heap.size W W') : ∀ {ts : List TypeId} {vs : List Value} {ds : List (DataW H)} {ps : List MemPlace},
    (ts.all fun t => P.readableRec t && decide (t < P.types.size)) = true → DataW.TrodAll enc P W 0 (fun _ => true) true ts vs ds ps → (∀ x ∈ ps, x.block < W.heap.size) →
    DataW.TrodAll enc P W' 0 (fun b => decide (b < W.heap.size)) true ts vs ds ps := by
  intro ts
  induction ts with
  | nil =>
    intro vs ds ps _ h _
    obtain ⟨rfl, rfl, rfl⟩ := trodAll_nil h
    exact rfl
  | cons t ts ih =>
    intro vs ds ps hr h hlt
    obtain ⟨v, vs', d, ds', p, q, rfl, rfl, rfl, h1, h2⟩ := trodAll_cons h
    simp only [List.all_cons, Bool.and_eq_true, decide_eq_true_eq] at hr
    exact ⟨p, q, Below.trod hl hr.1.1 hr.1.2 h1 hb (fun x hx => hlt x (by simp [hx])), ih hr.2 h2 (fun x hx => hlt x (by simp [hx])), rfl⟩
theorem trodAll_lt {W : World} {base : Nat} {spare : Nat → Bool} {held : Bool} : ∀ {ts : List TypeId} {vs : List Value} {ds : List (DataW H)} {ps : List MemPlace}, DataW.TrodAll enc P W base spare held ts vs ds ps → ∀ x ∈ ps, x.block < W.heap.size := by
  intro ts
  induction ts with
  | nil =>
    intro vs ds ps h x hx
    obtain ⟨rfl, rfl, rfl⟩ := trodAll_nil h
    cases hx
  | cons t ts ih =>
    intro vs ds ps h x hx
    obtain ⟨v, vs', d, ds', p, q, rfl, rfl, rfl, ⟨m, h1⟩, h2⟩ := trodAll_cons h
    rcases List.mem_append.1 hx with hx | hx
    · exact DataW.trod_lt m _ _ _ h1 x hx
    · exact ih h2 x hx
theorem open_slice_fields {w : World} {base : Nat} {spare : Nat → Bool} {held : Bool} {t e : TypeId} {fs : Array Field} {fuel : Nat} {cs : List Value} {x : DataW H × List MemPlace} (ht : P.underlying t = some (.slice e)) (he : P.underlying e = some (.struct fs))
    (hone : oneCellFields P fs = true) (hC : P.cellsOf e = fs.size) (h : DataW.trod enc P w base spare held fuel t cs = some x) :
    (cs = [.slice none 0 0] ∧ x = (.nil, [])) ∨
    ∃ (a : Addr) (len cap m : Nat) (D : Nat → DataW H) (Pl : Nat → List MemPlace), cs = [.slice (some a) len cap] ∧ base ≤ a.block ∧ len ≤ cap ∧ cap ≤ maxLen ∧ m = (if spare a.block then cap else len) ∧
      x = (.slice ((List.range len).map D) ((List.range (m - len)).map fun j => D (len + j)), MemPlace.row a (m * fs.size) ++ (List.range m).flatMap Pl) ∧
      ∀ i, i < m → ∃ (ys : List (DataW H × List MemPlace)) (n : Nat), D i = .agg (ys.map (·.1)) ∧ Pl i = ys.flatMap (·.2) ∧ ys.length = fs.size ∧
        ∀ (j : Nat) (f : Field), fs[j]? = some f → ∃ (v : Value) (y : DataW H × List MemPlace), w.cell? (a.add (i * fs.size + j)) = some v ∧ ys[j]? = some y ∧ DataW.trod enc P w base spare held n f.type [v] = some y := by
  rcases open_slice ht h with h0 | ⟨a, len, cap, m, n, D, Pl, hcs, hb, hl, hm, hmm, hx, hi⟩
  · exact .inl h0
  · refine .inr ⟨a, len, cap, m, D, Pl, hcs, hb, hl, hm, hmm, by rw [hC] at hx; exact hx, fun i him => ?_⟩
    obtain ⟨cs', hc, ht'⟩ := hi i him
    rw [hC] at hc
    obtain ⟨ys, n', hn', hy, hlen, hyl, hf⟩ := DataW.trod_struct he ht'
    obtain ⟨_, hcl, hat⟩ := World.cells?_some hc
    simp only [Prod.mk.injEq] at hy
    refine ⟨ys, n', hy.1, hy.2, hyl, fun j f hj => ?_⟩
    obtain ⟨ho, hk⟩ := hone_of hone j f hj
    have hjl : j < fs.size := (Array.getElem?_eq_some_iff.1 hj).1
    have hcell := hat j hjl
    have hv : cs'[j]? = some (cs'[j]'(by omega)) := List.getElem?_eq_getElem (by omega)
    have h1 := hf j f hj
    rw [ho, hk] at h1
    have hone' : (cs'.drop j).take 1 = [cs'[j]'(by omega)] := by
      rw [List.drop_eq_getElem_cons (by omega)]
      rfl
    rw [hone'] at h1
    have hys : ys[j]? = some (ys[j]'(by omega)) := List.getElem?_eq_getElem (by omega)
    refine ⟨_, _, ?_, hys, h1.trans hys⟩
    rw [← Go.Deep.add_add, hcell, hv]
end
end Go.Proofs.YtpkefohcccpncaaGreatDoor
namespace Go.Proofs.YtpkefohcccpncaaGreatDoor
open Go Go.ChangeShapes Go.WideShapes Go.ChangeAt Go.RowKit Go.Deep Go.ChangeMaps

theorem seedsArg_of {H : Type} {enc : TypeId × Value → H} {W : World} {a : Option Addr} {len cap : Nat} {d : DataW H} {p : List MemPlace} (h0 : DataW.Trod enc Tryz.prog W 0 (fun _ => true) true 22 (.slice a len cap) d p) : SeedsArg W a len cap := by
  obtain ⟨fuel, hf⟩ := h0
  rcases open_ints Tryz.underlying22 Tryz.underlying5 (by kernel_rfl) hf with ⟨hcs, _⟩ | ⟨x, l, c, zs, hcs, _, hl, hm, hz, _, hcell, hwz⟩
  · simp [Value.cells] at hcs
    obtain ⟨rfl, rfl, rfl⟩ := hcs
    exact ⟨Nat.le_refl _, by omega, [], fun k hk => by omega⟩
  · simp [Value.cells] at hcs
    obtain ⟨rfl, rfl, rfl⟩ := hcs
    have hz' : zs.length = cap := by simpa using hz
    refine ⟨hl, by unfold maxLen at hm; exact hm, zs, fun k hk => ?_⟩
    have hk' : k < zs.length := by omega
    have hc := hcell k hk'
    have hb := bounds_u8 (hwz _ (List.getElem_mem hk'))
    have hg : zs.getD k 0 = zs[k] := by simp [List.getD, hk']
    refine ⟨_, rfl, ?_, hc, by rw [hg]; exact hb.1, by rw [hg]; exact hb.2⟩
    have h2 : (x.add k).block < W.heap.size := by
      by_cases hg : (x.add k).block < W.heap.size
      · exact hg
      · exfalso
        simp only [World.cell?, Array.getElem?_eq_none (Nat.le_of_not_lt hg)] at hc
        cases hc
    rwa [add_block] at h2

end Go.Proofs.YtpkefohcccpncaaGreatDoor
namespace Go.Proofs.YtpkefohcccpncaaGreatDoor
open Go Go.ChangeShapes Go.WideShapes Go.ChangeAt Go.RowKit Go.Deep
set_option linter.unusedSimpArgs false
set_option linter.unusedVariables false

section
variable {H : Type} {enc : TypeId × Value → H} {W : World}
theorem w_slice {P : Program} {t e : TypeId} {es sp : List (DataW H)} (ht : P.underlying t = some (.slice e)) : DataW.weights P t (.slice es sp) = (es.length + sp.length) * P.bytesOf e :: (DataW.weightsAll P e es ++ DataW.weightsAll P e sp) := by
  simp only [DataW.weights, ht]
theorem w_agg {P : Program} {t : TypeId} {fs : Array Field} {ps : List (DataW H)} (ht : P.underlying t = some (.struct fs)) : DataW.weights P t (.agg ps) = DataW.weightsEach P (fs.toList.map (·.type)) ps := by
  simp only [DataW.weights, ht]
theorem w_all_mem {P : Program} {e : TypeId} {d : DataW H} : ∀ {l : List (DataW H)}, d ∈ l → ∀ x ∈ d.weights P e, x ∈ DataW.weightsAll P e l := by
  intro l
  induction l with
  | nil => intro h; cases h
  | cons a l ih =>
    intro h x hx
    simp only [DataW.weightsAll, List.mem_append]
    rcases List.mem_cons.1 h with rfl | h
    · exact .inl hx
    · exact .inr (ih h x hx)
theorem w_each_at {P : Program} : ∀ {ts : List TypeId} {ds : List (DataW H)} {k : Nat} {t : TypeId} {d : DataW H}, ts[k]? = some t → ds[k]? = some d → ∀ x ∈ d.weights P t, x ∈ DataW.weightsEach P ts ds := by
  intro ts
  induction ts with
  | nil => intro ds k t d h; simp at h
  | cons a ts ih =>
    intro ds k t d h1 h2 x hx
    cases ds with
    | nil => simp at h2
    | cons b ds =>
      simp only [DataW.weightsEach, List.mem_append]
      cases k with
      | zero => simp at h1 h2; subst h1 h2; exact .inl hx
      | succ k => exact .inr (ih (by simpa using h1) (by simpa using h2) x hx)
theorem cell_ltB {W : World} {a : Addr} {v : Value} (h : W.cell? a = some v) : a.block < W.heap.size := by
  by_cases hg : a.block < W.heap.size
  · exact hg
  · exfalso
    simp only [World.cell?, Array.getElem?_eq_none (Nat.le_of_not_lt hg)] at h
    cases h
theorem raw_lines {fuel : Nat} {s : Value} {d : DataW H} {p : List MemPlace} (h : DataW.trod enc Tryz.prog W 0 (fun _ => true) true fuel 43 [s] = some (d, p)) (hw : ∀ x ∈ d.weights Tryz.prog 43, x ≤ reachBytes) :
    ∃ (ls : List Ln) (LA : Option Addr) (c : Nat), s = .slice LA ls.length c ∧ LnsAt W W.heap.size LA ls ∧ ls.length ≤ 10000000000000 := by
  rcases open_slice_fields Tryz.underlying43 Tryz.underlying42 (by kernel_rfl) (by kernel_rfl) h with ⟨hcs, _⟩ | ⟨x, len, cap, m, D, Pl, hcs, _, hl, hm, hmm, hx, hi⟩
  · simp only [List.cons.injEq, and_true] at hcs
    subst hcs
    exact ⟨[], none, 0, rfl, Reads.none_, by simp⟩
  · simp only [List.cons.injEq, and_true] at hcs
    subst hcs
    simp only [if_true] at hmm
    subst hmm
    have hd2 : d = .slice ((List.range len).map D) ((List.range (m - len)).map fun j => D (len + j)) := by
      have := congrArg Prod.fst hx; exact this
    have hwl : len * Tryz.prog.bytesOf 42 ≤ reachBytes := by
      have h1 := hw ((((List.range len).map D).length + ((List.range (m - len)).map fun j => D (len + j)).length) * Tryz.prog.bytesOf 42) (by
        rw [hd2, w_slice Tryz.underlying43]; exact List.mem_cons_self)
      simp only [List.length_map, List.length_range] at h1
      exact Nat.le_trans (Nat.mul_le_mul_right _ (by omega)) h1
    rw [show Tryz.prog.bytesOf 42 = 24 by kernel_rfl] at hwl
    unfold reachBytes at hwl
    have hall : ∀ i, i < len → ∃ t : Ln, W.cell? (x.add (i * 3)) = some (.int .i64 t.k) ∧ W.cell? (x.add (i * 3 + 1)) = some (.int .i64 t.a) ∧ W.cell? (x.add (i * 3 + 2)) = some (.int .i64 t.n) := by
      intro i hlt
      obtain ⟨ys, n, _, _, _, hy⟩ := hi i (by omega)
      obtain ⟨v0, y0, c0, _, t0⟩ := hy 0 _ rfl
      obtain ⟨v1, y1, c1, _, t1⟩ := hy 1 _ rfl
      obtain ⟨v2, y2, c2, _, t2⟩ := hy 2 _ rfl
      obtain ⟨k0, e0, _, _⟩ := DataW.trod_int Tryz.underlying3 t0
      obtain ⟨k1, e1, _, _⟩ := DataW.trod_int Tryz.underlying3 t1
      obtain ⟨k2, e2, _, _⟩ := DataW.trod_int Tryz.underlying3 t2
      injection e0 with e0; injection e1 with e1; injection e2 with e2
      subst e0; subst e1; subst e2
      exact ⟨⟨k0, k1, k2⟩, c0, c1, c2⟩
    obtain ⟨xs, hxl, hx2⟩ := list_of_forall len hall
    subst hxl
    refine ⟨xs, some x, m, rfl, ⟨by rw [lnCells_length], fun hpos => ?_⟩, by omega⟩
    have hblk : x.block < W.heap.size := by
      have := cell_ltB (hx2 0 (by omega)).1
      rwa [add_block] at this
    refine ⟨x, rfl, hblk, fun j u hu => ?_⟩
    have hj : j < xs.length * 3 := by
      have := (List.getElem?_eq_some_iff.1 hu).1
      rwa [lnCells_length] at this
    have hk : j / 3 < xs.length := by omega
    obtain ⟨g0, g1, g2⟩ := lnCells_get xs (j / 3) hk
    obtain ⟨k0, k1, k2⟩ := hx2 (j / 3) hk
    rcases (show j = j / 3 * 3 ∨ j = j / 3 * 3 + 1 ∨ j = j / 3 * 3 + 2 by omega) with e | e | e
    · rw [e] at hu; rw [g0] at hu; rw [e, k0]; exact hu
    · rw [e] at hu; rw [g1] at hu; rw [e, k1]; exact hu
    · rw [e] at hu; rw [g2] at hu; rw [e, k2]; exact hu
theorem raw_threads {fuel : Nat} {s : Value} {d : DataW H} {p : List MemPlace} (h : DataW.trod enc Tryz.prog W 0 (fun _ => true) true fuel 26 [s] = some (d, p)) (hw : ∀ x ∈ d.weights Tryz.prog 26, x ≤ reachBytes) :
    ∃ (ts : List Th) (TA : Option Addr) (c : Nat), s = .slice TA ts.length c ∧ ThsAt W W.heap.size TA ts ∧ ts.length ≤ 10000000000000 ∧ ∀ t ∈ ts, t.ls.length ≤ 10000000000000 ∧ t.nm.size ≤ 9223372036854775807 := by
  rcases open_slice_fields Tryz.underlying26 Tryz.underlying45 (by kernel_rfl) (by kernel_rfl) h with ⟨hcs, _⟩ | ⟨x, len, cap, m, D, Pl, hcs, _, hl, hm, hmm, hx, hi⟩
  · simp only [List.cons.injEq, and_true] at hcs
    subst hcs
    exact ⟨[], none, 0, rfl, ThsAt.nil, by simp, by simp⟩
  · simp only [List.cons.injEq, and_true] at hcs
    subst hcs
    simp only [if_true] at hmm
    subst hmm
    have hd2 : d = .slice ((List.range len).map D) ((List.range (m - len)).map fun j => D (len + j)) := by
      have := congrArg Prod.fst hx; exact this
    rw [hd2, w_slice Tryz.underlying26] at hw
    have hwl : len * Tryz.prog.bytesOf 45 ≤ reachBytes := by
      have h1 := hw _ List.mem_cons_self
      simp only [List.length_map, List.length_range] at h1
      exact Nat.le_trans (Nat.mul_le_mul_right _ (by omega)) h1
    rw [show Tryz.prog.bytesOf 45 = 40 by kernel_rfl] at hwl
    unfold reachBytes at hwl
    have hall : ∀ i, i < len → ∃ q : Th × Value, W.cell? (x.add (i * 2)) = some (.string q.1.nm) ∧ W.cell? (x.add (i * 2 + 1)) = some q.2 ∧ (∃ LA c, q.2 = .slice LA q.1.ls.length c ∧ LnsAt W W.heap.size LA q.1.ls) ∧ q.1.ls.length ≤ 10000000000000 ∧ q.1.nm.size ≤ 9223372036854775807 := by
      intro i hlt
      obtain ⟨ys, n, hD, _, hyl, hy⟩ := hi i (by omega)
      obtain ⟨v0, y0, c0, hy0, t0⟩ := hy 0 _ rfl
      obtain ⟨v1, y1, c1, hy1, t1⟩ := hy 1 _ rfl
      obtain ⟨s1, e0, _, hs⟩ := DataW.trod_string Tryz.underlying9 t0
      injection e0 with e0
      subst e0
      obtain ⟨ls, LA, c, rfl, hL, hl9⟩ := raw_lines (d := y1.1) (p := y1.2) t1 (fun z hz => hw z (List.mem_cons_of_mem _ (List.mem_append_left _ (w_all_mem (d := D i) (List.mem_map.2 ⟨i, List.mem_range.2 hlt, rfl⟩) z (by
        rw [hD, w_agg Tryz.underlying45]
        exact w_each_at (k := 1) rfl (by rw [List.getElem?_map, hy1]; rfl) z hz)))))
      exact ⟨(⟨s1, ls⟩, .slice LA ls.length c), c0, c1, ⟨LA, c, rfl, hL⟩, hl9, by unfold maxLen at hs; omega⟩
    obtain ⟨qs, hql, hq⟩ := list_of_forall len hall
    subst hql
    refine ⟨qs.map (·.1), some x, m, by simp, ⟨qs.map (·.2), by simp, ⟨by rw [thCells_length _ _ (by simp)], fun hpos => ?_⟩, fun k h1 h2 => ?_⟩, by simpa using (show qs.length ≤ 10000000000000 by omega), fun t ht => ?_⟩
    · have h0 : 0 < qs.length := by simp at hpos; omega
      have hblk : x.block < W.heap.size := by
        have := cell_ltB (hq 0 h0).1
        rwa [add_block] at this
      refine ⟨x, rfl, hblk, fun j u hu => ?_⟩
      have hj : j < qs.length * 2 := by
        have := (List.getElem?_eq_some_iff.1 hu).1
        rwa [thCells_length _ _ (by simp), List.length_map] at this
      have hk : j / 2 < qs.length := by omega
      obtain ⟨g0, g1⟩ := thCells_get (qs.map (·.1)) (qs.map (·.2)) (by simp) (j / 2) (by simpa using hk)
      obtain ⟨k0, k1, _⟩ := hq (j / 2) hk
      simp only [List.getElem_map] at g0 g1
      rcases (show j = j / 2 * 2 ∨ j = j / 2 * 2 + 1 by omega) with e | e
      · rw [e] at hu; rw [g0] at hu; rw [e, k0]; exact hu
      · rw [e] at hu; rw [g1] at hu; rw [e, k1]; exact hu
    · obtain ⟨_, _, h3, _⟩ := hq k (by simpa using h1)
      simp only [List.getElem_map]
      exact h3
    · obtain ⟨q, hqm, rfl⟩ := List.mem_map.1 ht
      obtain ⟨k, hk, rfl⟩ := List.getElem_of_mem hqm
      exact (hq k hk).2.2.2
set_option maxRecDepth 100000 in
theorem raw_prog {v : Value} {d : DataW H} {p : List MemPlace} {base : Nat} (hv : Value.okWide Tryz.prog W .any base 28 v) (h : DataW.Trod enc Tryz.prog W 0 (fun _ => true) true 28 v d p) (hw : ∀ x ∈ d.weights Tryz.prog 28, x ≤ reachBytes) :
    ∃ (x : Prg) (TA : Option Addr) (c : Nat), v = .agg #[.int .i64 x.v, .slice TA x.ts.length c] ∧ ThsAt W W.heap.size TA x.ts ∧ PrgOk x := by
  obtain ⟨cs, rfl, hsz⟩ := okWide_struct Tryz.underlying28 hv
  obtain ⟨fuel, h⟩ := h
  obtain ⟨ys, n, _, hx, hl, hyl, hf⟩ := DataW.trod_struct Tryz.underlying28 h
  obtain ⟨cs⟩ := cs
  have hl2 : cs.length = 2 := hl.trans (by kernel_rfl)
  match cs, hl2, ys, hyl with
  | [a, b], _, [y0, y1], _ =>
  obtain ⟨x0, e0, _, _⟩ := DataW.trod_int Tryz.underlying3 (hf 0 _ rfl)
  have g0 : a = .int .i64 x0 := (List.cons.inj (show [a] = [.int .i64 x0] from e0)).1
  clear e0
  subst g0
  have hd : d = .agg ([y0, y1].map (·.1)) := congrArg Prod.fst hx
  obtain ⟨ts, TA, c, rfl, hT, hn, ht⟩ := raw_threads (d := y1.1) (p := y1.2) (s := b) (hf 1 _ rfl) (fun z hz => hw z (by
    rw [hd, w_agg Tryz.underlying28]
    exact w_each_at (k := 1) rfl rfl z hz))
  exact ⟨⟨x0, ts⟩, TA, c, rfl, hT, ⟨hn, ht⟩⟩
set_option maxRecDepth 100000 in
theorem raw_event {v : Value} {d : DataW H} {p : List MemPlace} {base : Nat} (hv : Value.okWide Tryz.prog W .any base 38 v) (h : DataW.Trod enc Tryz.prog W 0 (fun _ => true) true 38 v d p) :
    ∃ e : Ev, v = .agg #[.int .i64 e.th, .int .i64 e.ln, .int .i64 e.nu, .int .i64 e.va, .int .i64 e.nx] := by
  obtain ⟨cs, rfl, hsz⟩ := okWide_struct Tryz.underlying38 hv
  obtain ⟨fuel, h⟩ := h
  obtain ⟨ys, n, _, hx, hl, hyl, hf⟩ := DataW.trod_struct Tryz.underlying38 h
  obtain ⟨cs⟩ := cs
  have hl2 : cs.length = 5 := hl.trans (by kernel_rfl)
  match cs, hl2, ys, hyl with
  | [a, b, c, e, f], _, [y0, y1, y2, y3, y4], _ =>
  obtain ⟨x0, e0, _, _⟩ := DataW.trod_int Tryz.underlying3 (hf 0 _ rfl)
  obtain ⟨x1, e1, _, _⟩ := DataW.trod_int Tryz.underlying3 (hf 1 _ rfl)
  obtain ⟨x2, e2, _, _⟩ := DataW.trod_int Tryz.underlying3 (hf 2 _ rfl)
  obtain ⟨x3, e3, _, _⟩ := DataW.trod_int Tryz.underlying3 (hf 3 _ rfl)
  obtain ⟨x4, e4, _, _⟩ := DataW.trod_int Tryz.underlying3 (hf 4 _ rfl)
  have g0 : a = .int .i64 x0 := (List.cons.inj (show [a] = [.int .i64 x0] from e0)).1
  have g1 : b = .int .i64 x1 := (List.cons.inj (show [b] = [.int .i64 x1] from e1)).1
  have g2 : c = .int .i64 x2 := (List.cons.inj (show [c] = [.int .i64 x2] from e2)).1
  have g3 : e = .int .i64 x3 := (List.cons.inj (show [e] = [.int .i64 x3] from e3)).1
  have g4 : f = .int .i64 x4 := (List.cons.inj (show [f] = [.int .i64 x4] from e4)).1
  subst g0 g1 g2 g3 g4
  exact ⟨⟨x0, x1, x2, x3, x4⟩, rfl⟩
theorem raw_counts {a : Option Addr} {len cap : Nat} {d : DataW H} {p : List MemPlace} (h0 : DataW.Trod enc Tryz.prog W 0 (fun _ => true) true 30 (.slice a len cap) d p) : ∃ cs : List Int, cs.length = len ∧ IsAt W W.heap.size a cs ∧ len ≤ 9223372036854775807 := by
  obtain ⟨fuel, hf⟩ := h0
  rcases open_ints Tryz.underlying30 Tryz.underlying3 (by kernel_rfl) hf with ⟨hcs, _⟩ | ⟨x, l, c, zs, hcs, _, hl, hm, hz, _, hcell, hwz⟩
  · simp [Value.cells] at hcs
    obtain ⟨rfl, rfl, rfl⟩ := hcs
    exact ⟨[], rfl, Reads.none_, by omega⟩
  · simp [Value.cells] at hcs
    obtain ⟨rfl, rfl, rfl⟩ := hcs
    have hz' : zs.length = cap := by simpa using hz
    have hlen : (zs.take len).length = len := by simp; omega
    refine ⟨zs.take len, hlen, ⟨by simp [intVs], fun hpos => ?_⟩, by unfold maxLen at hm; omega⟩
    rw [hlen] at hpos
    refine ⟨x, rfl, ?_, fun j u hu => ?_⟩
    · have := cell_ltB (hcell 0 (by omega))
      rwa [add_block] at this
    · have hj : j < len := by
        have := (List.getElem?_eq_some_iff.1 hu).1
        simp [intVs] at this; omega
      rw [hcell j (by omega)]
      simp [intVs, List.getElem?_map, List.getElem?_take, hj, List.getElem?_eq_getElem (show j < zs.length by omega)] at hu
      have hg : zs.getD j 0 = zs[j]'(by omega) := by simp [List.getD, List.getElem?_eq_getElem (show j < zs.length by omega)]
      rw [hg, hu]
end
end Go.Proofs.YtpkefohcccpncaaGreatDoor
