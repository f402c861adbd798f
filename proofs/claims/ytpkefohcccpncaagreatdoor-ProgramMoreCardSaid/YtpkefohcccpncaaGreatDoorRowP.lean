/- From the variables that the rows of programs list to what the walks need. -/
import Derived.Test.YtpkefohcccpncaaGreatDoorNamed
import Derived.Test.YtpkefohcccpncaaGreatDoorRowG
import Derived.OpenShut
import Derived.SliceStrings
import Derived.ChangeArms
namespace Go.Proofs.YtpkefohcccpncaaGreatDoor
open Go.RowKit Go.WideShapes Go.ChangeShapes Go.ChangeAt
set_option linter.unusedSimpArgs false
set_option linter.unusedVariables false

/-- what the rows list -/
def laidL : List (String × DataW Unit) := Rows.programCountsRow.laid
theorem pow_data : (Rows.laid_internal_strconv_uint64pow10 : DataW Unit) = Lib.tabData .u64 Lib.pow10Tab := by kernel_rfl
def wordsData (H : Type) : DataW H := .agg ((List.range 8).map fun k => .agg [.lit (.string (kwOf k)), .lit (.int .i64 (argOf k))])
theorem words_data : (Rows.laid_coverability_program_words : DataW Unit) = wordsData Unit := by kernel_rfl
theorem words_named : Tryz.prog.globalNamed "coverability/program.words" = some 0 := by kernel_rfl
theorem reserved_named : Tryz.prog.globalNamed "coverability/program.reserved" = some 1 := by kernel_rfl
theorem reserved_data : (Rows.laid_coverability_program_reserved : DataW Unit) = .slice [.lit (.string kwValues), .lit (.string kwThread), .lit (.string kwEnd)] [] := by kernel_rfl

theorem str_of_data {s : ByteArray} {l : List UInt8} (h : s.data.toList = l) : s = ⟨l.toArray⟩ := by subst h; rfl
theorem words_cells {W : World} {cs : List Value} {fuel : Nat} {p : List MemPlace} (h : DataW.trod (fun _ => ()) Tryz.prog W 0 (fun _ => true) false fuel 108 cs = some (wordsData Unit, p)) :
    ∀ k, k < 8 → cs[k * 2]? = some (.string ⟨(kwOf k).toArray⟩) ∧ cs[k * 2 + 1]? = some (.int .i64 (argOf k)) := by
  obtain ⟨xs, m, _, hx, hcl, hxl, hi⟩ := DataW.trod_array Tryz.underlying108 h
  intro k hk
  have hce : Tryz.prog.cellsOf 107 = 2 := by kernel_rfl
  have h1 := hi k hk
  rw [hce] at h1
  have hk1 : k < xs.length := by omega
  have hxk : xs[k]? = some xs[k] := List.getElem?_eq_getElem hk1
  rw [hxk] at h1
  have hd : xs[k].1 = .agg [.lit (.string (kwOf k)), .lit (.int .i64 (argOf k))] := by
    have h2 : xs.map (·.1) = (List.range 8).map fun k => (DataW.agg [.lit (.string (kwOf k)), .lit (.int .i64 (argOf k))] : DataW Unit) := by
      have := (Prod.mk.inj hx).1
      unfold wordsData at this
      exact (DataW.agg.inj this).symm
    have h3 := congrArg (·[k]?) h2
    simp only [List.getElem?_map, hxk, List.getElem?_range hk, Option.map_some, Option.some.injEq] at h3
    exact h3
  obtain ⟨ys, m', _, hy, hyl, hysz, hf⟩ := DataW.trod_struct Tryz.underlying107 h1
  rw [hy] at hd
  have hcl1 : Tryz.prog.cellsOf 9 = 1 := by kernel_rfl
  have hcl2 : Tryz.prog.cellsOf 3 = 1 := by kernel_rfl
  have f0 : DataW.trod (fun _ => ()) Tryz.prog W 0 (fun _ => true) false m' 9 ((((cs.drop (k * 2)).take 2).drop 0).take (Tryz.prog.cellsOf 9)) = ys[0]? := hf 0 _ rfl
  have f1 : DataW.trod (fun _ => ()) Tryz.prog W 0 (fun _ => true) false m' 3 ((((cs.drop (k * 2)).take 2).drop 1).take (Tryz.prog.cellsOf 3)) = ys[1]? := hf 1 _ rfl
  rw [hcl1] at f0
  rw [hcl2] at f1
  have hys2 : ys.length = 2 := hysz
  obtain ⟨y0, y1, rfl⟩ : ∃ y0 y1, ys = [y0, y1] := by
    match ys, hys2 with
    | [a, b], _ => exact ⟨a, b, rfl⟩
  obtain ⟨s0, e0, ex0, _⟩ := DataW.trod_string Tryz.underlying9 (x := y0) f0
  obtain ⟨n1, e1, ex1, _⟩ := DataW.trod_int Tryz.underlying3 (x := y1) f1
  have hd2 := DataW.agg.inj hd
  simp only [List.map_cons, List.map_nil, ex0, ex1, List.cons.injEq, DataW.lit.injEq, Lit.string.injEq, Lit.int.injEq, true_and, and_true] at hd2
  obtain ⟨hs, hn⟩ := hd2
  refine ⟨?_, ?_⟩
  · have := congrArg (·[0]?) e0
    simp only [List.drop_zero, List.getElem?_take, List.getElem?_drop] at this
    rw [← str_of_data hs]
    simpa using this
  · have := congrArg (·[0]?) e1
    simp only [List.getElem?_take, List.getElem?_drop] at this
    rw [← hn]
    simpa using this
theorem glob_of_laid {W : World} (hL : laidMetH Tryz.prog laidL W) (hsh : W.ShapedOpen Tryz.prog) : GlobP W := by
  rw [MakeChecks.laidMetH_plain _ _ _ (by kernel_rfl)] at hL
  have h1 := hL.filter (fun x => x.1 == "internal/strconv.uint64pow10")
  have h2 : laidMet Tryz.prog [("internal/strconv.uint64pow10", Lib.tabData .u64 Lib.pow10Tab)] W := by
    rw [← pow_data]; exact h1
  have h3 : Lib.TabIs Tryz.prog W "internal/strconv.uint64pow10" .u64 Lib.pow10Tab :=
    Lib.tabIs_of_head (g := 3) pow_named (by kernel_rfl) (t := 145) (e := 135) Tryz.underlying145 Tryz.underlying135 (by kernel_rfl) (by kernel_rfl) h2
  obtain ⟨m, hm⟩ := maxLen_cell hsh
  have w1 := hL.filter (fun x => x.1 == "coverability/program.words")
  have w2 : laidMet Tryz.prog [("coverability/program.words", wordsData Unit)] W := by
    rw [← words_data]; exact w1
  obtain ⟨_, ⟨g, t, cs, fuel, p, q, hg, ht, hv, hd, _, _⟩, _⟩ := w2
  obtain rfl := Option.some.inj (words_named.symm.trans hg)
  obtain rfl : 108 = t := Option.some.inj ((show (Tryz.prog.globals[0]?).map (·.type) = some 108 by kernel_rfl).symm.trans ht)
  have hwc := words_cells hd
  have hwd : ∀ k, k < 8 → W.cell? ⟨0, k * 2, none⟩ = some (.string ⟨(kwOf k).toArray⟩) ∧ W.cell? ⟨0, k * 2 + 1, none⟩ = some (.int .i64 (argOf k)) := fun k hk => by
    obtain ⟨a, b⟩ := hwc k hk
    refine ⟨(World.var?_cell hg hv _).trans ?_, (World.var?_cell hg hv _).trans ?_⟩
    · rw [← a]; simp
    · rw [← b]; simp
  have r1 := hL.filter (fun x => x.1 == "coverability/program.reserved")
  have r2 : laidMet Tryz.prog [("coverability/program.reserved", .slice [.lit (.string kwValues), .lit (.string kwThread), .lit (.string kwEnd)] [])] W := by
    rw [← reserved_data]; exact r1
  obtain ⟨_, ⟨g2, t2, cs2, fuel2, p2, q2, hg2, ht2, hv2, hd2, _, _⟩, _⟩ := r2
  obtain rfl := Option.some.inj (reserved_named.symm.trans hg2)
  obtain rfl : 60 = t2 := Option.some.inj ((show (Tryz.prog.globals[1]?).map (·.type) = some 60 by kernel_rfl).symm.trans ht2)
  have e1 := hL.filter (fun x => x.1 == "strconv.ErrSyntax")
  have e2 : laidMet Tryz.prog [("strconv.ErrSyntax", Rows.laid_strconv_ErrSyntax)] W := e1
  obtain ⟨_, ⟨g3, t3, cs3, fuel3, p3, q3, hg3, ht3, hv3, hd3, _, _⟩, _⟩ := e2
  obtain rfl := Option.some.inj (es_named.symm.trans hg3)
  obtain rfl : 114 = t3 := Option.some.inj ((show (Tryz.prog.globals[6]?).map (·.type) = some 114 by kernel_rfl).symm.trans ht3)
  obtain ⟨_, u3, v3, hc3, _, _⟩ := iface_of_trod Tryz.underlying114 hd3
  have e4 := hL.filter (fun x => x.1 == "strconv.ErrRange")
  have e5 : laidMet Tryz.prog [("strconv.ErrRange", Rows.laid_strconv_ErrRange)] W := e4
  obtain ⟨_, ⟨g4, t4, cs4, fuel4, p4, q4, hg4, ht4, hv4, hd4, _, _⟩, _⟩ := e5
  obtain rfl := Option.some.inj (er_named.symm.trans hg4)
  obtain rfl : 114 = t4 := Option.some.inj ((show (Tryz.prog.globals[7]?).map (·.type) = some 114 by kernel_rfl).symm.trans ht4)
  obtain ⟨_, u4, v4, hc4, _, _⟩ := iface_of_trod Tryz.underlying114 hd4
  obtain ⟨l3⟩ := cs3
  obtain rfl : l3 = [.iface u3 v3] := hc3
  obtain ⟨l4⟩ := cs4
  obtain rfl : l4 = [.iface u4 v4] := hc4
  have hrs : ∃ (a : Addr) (c : Nat), W.cell? ⟨1, 0, none⟩ = some (.slice (some a) 3 c) ∧ Reads W W.heap.size 1 (some a) 3 [.string ⟨kwValues.toArray⟩, .string ⟨kwThread.toArray⟩, .string ⟨kwEnd.toArray⟩] := by
    rcases open_strings Tryz.underlying60 Tryz.underlying9 (by kernel_rfl) hd2 with ⟨_, hx⟩ | ⟨a, len, cap, ss, hcs, hb, hl, hm2, hsl, hx, hcell, hsz⟩
    · cases (Prod.mk.inj hx).1
    · have hx1 := (Prod.mk.inj hx).1
      have hx2 := (DataW.slice.inj hx1).1
      have hx3 := (DataW.slice.inj hx1).2
      rw [if_pos rfl] at hsl
      have hl3 : (ss.take len).length = 3 := by
        have := congrArg List.length hx2
        simpa [strs] using this.symm
      have hl3' : len = 3 := by rw [List.length_take] at hl3; omega
      subst hl3'
      have hd0 : (ss.drop 3).length = 0 := by
        have := congrArg List.length hx3
        simpa [strs] using this.symm
      have hc3 : ss.length = 3 := by rw [List.length_drop] at hd0; rw [List.length_take] at hl3; omega
      obtain ⟨s0, s1, s2, rfl⟩ : ∃ s0 s1 s2, ss = [s0, s1, s2] := by
        match ss, hc3 with
        | [x, y, z], _ => exact ⟨x, y, z, rfl⟩
      have hx4 : [(DataW.lit (.string kwValues) : DataW Unit), .lit (.string kwThread), .lit (.string kwEnd)] = [.lit (.string s0.data.toList), .lit (.string s1.data.toList), .lit (.string s2.data.toList)] := hx2
      simp only [List.cons.injEq, DataW.lit.injEq, Lit.string.injEq, and_true] at hx4
      obtain ⟨i0, i1, i2⟩ := hx4
      have k0 := hcell 0 (by simp)
      have k1 := hcell 1 (by simp)
      have k2 := hcell 2 (by simp)
      have hblk : a.block < W.heap.size := by
        by_cases hg : a.block < W.heap.size
        · exact hg
        · exfalso
          have k0' := k0
          simp only [World.cell?, add_block, Array.getElem?_eq_none (Nat.le_of_not_lt hg)] at k0'
          cases k0'
      obtain ⟨lcs⟩ := cs2
      obtain rfl : lcs = [.slice (some a) 3 cap] := hcs
      refine ⟨a, cap, (World.var?_cell hg2 hv2 0), rfl, fun _ => ⟨a, rfl, hblk, fun j u hu => ?_⟩⟩
      rw [← str_of_data i0.symm, ← str_of_data i1.symm, ← str_of_data i2.symm] at hu
      match j, hu with
      | 0, hu => simp only [List.getElem?_cons_zero, Option.some.injEq] at hu; rw [← hu]; exact k0
      | 1, hu => simp only [List.getElem?_cons_succ, List.getElem?_cons_zero, Option.some.injEq] at hu; rw [← hu]; exact k1
      | 2, hu => simp only [List.getElem?_cons_succ, List.getElem?_cons_zero, Option.some.injEq] at hu; rw [← hu]; exact k2
      | j + 3, hu => simp at hu
  obtain ⟨ra, rc, hra, hrr⟩ := hrs
  exact ⟨⟨m, hm⟩, h3, hwd, ⟨ra, rc, hra, hrr⟩, ⟨u3, v3, hv3⟩, ⟨u4, v4, hv4⟩, lt_of_cell (h3.cell pow_named 0 (by decide)), lt_of_cell hm, lt_of_cell (hwd 0 (by omega)).1, lt_of_cell hra, lt_of_cell (World.var?_cell hg3 hv3 0), lt_of_cell (World.var?_cell hg4 hv4 0)⟩
theorem own_laid : laidOutB Tryz.prog = true := by kernel_rfl
/-- a start in which the listed variables lie -/
theorem witness_laid {H : Type} {enc : TypeId × Value → H} (os : Os) (args : Array Value) : laidMetH Tryz.prog laidL ((World.laidAll Tryz.prog os laidL).forCall (fun _ _ => 0) ⟨#[], args, []⟩).memory := by
  rw [MakeChecks.laidMetH_plain _ _ _ (by kernel_rfl)]
  exact laidMet_laidAll _ (by kernel_rfl) (by kernel_rfl)
end Go.Proofs.YtpkefohcccpncaaGreatDoor
