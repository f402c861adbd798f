/- Proved: for all arguments that can be read the call TokenExact returns true, and the inputs read as they did. Conditions: the five listed tables of the library (math/bits, internal/strconv, unicode/utf8) read as listed, which the given ties tie to the program text. -/
import Derived.Test.YtnibnkblkabalaaDoorExact
import Derived.Test.YtnibnkblkabalaaDoorArgs
import Derived.Test.YtnibnkblkabalaaDoorAll
import Derived.ChangeMaps5
namespace Go.Proofs.YtnibnkblkabalaaDoor
open Go Go.ChangeShapes Go.WideShapes Go.ChangeAt Go.RowKit Go.Deep Go.ChangeMaps

theorem toksArg_of {H : Type} {enc : TypeId × Value → H} {W : World} {a : Option Addr} {len cap : Nat} {d : DataW H} {p : List MemPlace} (h0 : DataW.Trod enc Tryd.prog W 0 (fun _ => true) true 23 (.slice a len cap) d p) :
    len ≤ maxLen ∧ ∃ xs : List Tok, xs.length = len ∧ Toks W W.heap.size a xs ∧ ∀ j (h : j < xs.length), xs[j].t.size ≤ maxLen := by
  obtain ⟨fuel, hf⟩ := h0
  rcases open_slice_fields Tryd.underlying23 Tryd.underlying27 (by kernel_rfl) (by kernel_rfl) hf with ⟨hcs, _⟩ | ⟨x, l, c, m, D, Pl, hcs, _, hl, hm, hmm, _, hi⟩
  · simp [Value.cells] at hcs
    obtain ⟨rfl, rfl, rfl⟩ := hcs
    exact ⟨Nat.zero_le _, [], rfl, Reads.none_, fun j h => absurd h (by simp)⟩
  · simp [Value.cells] at hcs
    obtain ⟨rfl, rfl, rfl⟩ := hcs
    rw [if_pos rfl] at hmm
    subst hmm
    have hall : ∀ i, i < len → ∃ t : Tok, (W.cell? (x.add (i * 3)) = some (.int .i64 t.k) ∧ W.cell? (x.add (i * 3 + 1)) = some (.string t.t) ∧ W.cell? (x.add (i * 3 + 2)) = some (.int .i64 t.line)) ∧ t.t.size ≤ maxLen := by
      intro i hlt
      obtain ⟨ys, n, _, _, _, hy⟩ := hi i (by omega)
      obtain ⟨v0, y0, c0, _, t0⟩ := hy 0 _ rfl
      obtain ⟨v1, y1, c1, _, t1⟩ := hy 1 _ rfl
      obtain ⟨v2, y2, c2, _, t2⟩ := hy 2 _ rfl
      obtain ⟨k0, e0, _, _⟩ := DataW.trod_int Tryd.underlying3 t0
      obtain ⟨s1, e1, _, hs⟩ := DataW.trod_string Tryd.underlying9 t1
      obtain ⟨k2, e2, _, _⟩ := DataW.trod_int Tryd.underlying3 t2
      injection e0 with e0; injection e1 with e1; injection e2 with e2
      subst e0; subst e1; subst e2
      exact ⟨⟨k0, s1, k2⟩, ⟨c0, c1, c2⟩, hs⟩
    obtain ⟨xs, hxl, hx⟩ := list_of_forall len hall
    refine ⟨by omega, xs, hxl, ⟨by rw [tokCells_length], fun hpos => ?_⟩, fun j h => (hx j h).2⟩
    have hblk : x.block < W.heap.size := by
      have := (hx 0 (by omega)).1.1
      have h2 : (x.add (0 * 3)).block < W.heap.size := by
        by_cases hg : (x.add (0 * 3)).block < W.heap.size
        · exact hg
        · exfalso
          simp only [World.cell?, Array.getElem?_eq_none (Nat.le_of_not_lt hg)] at this
          cases this
      rwa [add_block] at h2
    refine ⟨x, rfl, hblk, fun j u hu => ?_⟩
    have hj : j < xs.length * 3 := by
      have := (List.getElem?_eq_some_iff.1 hu).1
      rwa [tokCells_length] at this
    have hk : j / 3 < xs.length := by omega
    obtain ⟨g0, g1, g2⟩ := tokCells_get xs (j / 3) hk
    obtain ⟨⟨k0, k1, k2⟩, _⟩ := hx (j / 3) hk
    rcases (show j = j / 3 * 3 ∨ j = j / 3 * 3 + 1 ∨ j = j / 3 * 3 + 2 by omega) with e | e | e
    · rw [e] at hu; rw [g0] at hu; rw [e, k0]; exact hu
    · rw [e] at hu; rw [g1] at hu; rw [e, k1]; exact hu
    · rw [e] at hu; rw [g2] at hu; rw [e, k2]; exact hu

set_option maxRecDepth 100000 in
theorem tokenExact_lifted (os : Os) (started : os.Started) (H : Type) (enc : TypeId × Value → H) :
    ReturnsInHanded {} Tryd.checked os 3 .any (fun w args => (Rows.tokenExactSpec.pre enc Tryd.prog Tryd.f3 [] false w args ∧ laidMetH Tryd.prog laidL w) ∧ sizedMet enc Tryd.prog Tryd.f3 (OpenSpec.ofChange Rows.tokenExactSpec) false w args)
      (Rows.tokenExactSpec.post enc Tryd.prog Tryd.f3 false true false false) := by
  refine returnsIn_laid_shaped (C := Tryd.checked) (laid := laidL) own started (by kernel_rfl) Tryd.func3
    (ChangeSpec.witness_shaped (enc := enc) (C := Tryd.checked) (os := os) (X := fun w _ => laidMetH Tryd.prog laidL w) false (World.laidAll Tryd.prog os laidL) #[.slice none 0 0, .string ⟨#[]⟩, .int .i64 0, .int .u8 0, .int .i64 0, .slice none 0 0] 8 rfl (World.shaped_of_ZipB (by kernel_rfl) (by kernel_rfl)) (by kernel_rfl) (by kernel_rfl) (by kernel_rfl) (witness_laid (enc := enc) os _)) ?_
  intro W base args ds gs before hval0 hW _ _ hL hsh
  have hval : ∀ (j : Nat) t v, Tryd.f3.params[j]? = some t → args[j]? = some v → Value.okWide Tryd.prog W .any base t v := hval0
  have hW' := hW
  obtain ⟨p, q, hA0, hV, rfl, hfz, hnd⟩ := hW
  have hA : DataW.TrodAll enc Tryd.prog W 0 (fun _ => true) true Tryd.f3.params.toList args.toList ds p := hA0
  have hlt := trodAll_lt hA
  rw [Tryd.params3] at hA hval
  obtain ⟨rfl, rfl⟩ := trodVars_none hV
  have hAll := hA
  obtain ⟨v0, r0, d0, s0, p0, q0, ea, rfl, rfl, h0, hA⟩ := trodAll_cons hA
  obtain ⟨v1, r1, d1, s1, p1, q1, rfl, rfl, rfl, h1, hA⟩ := trodAll_cons hA
  obtain ⟨v2, r2, d2, s2, p2, q2, rfl, rfl, rfl, h2, hA⟩ := trodAll_cons hA
  obtain ⟨v3, r3, d3, s3, p3, q3, rfl, rfl, rfl, h3, hA⟩ := trodAll_cons hA
  obtain ⟨v4, r4, d4, s4, p4, q4, rfl, rfl, rfl, h4, hA⟩ := trodAll_cons hA
  obtain ⟨v5, r5, d5, s5, p5, q5, rfl, rfl, rfl, h5, hA⟩ := trodAll_cons hA
  obtain ⟨rfl, rfl, rfl⟩ := trodAll_nil hA
  obtain ⟨args⟩ := args
  have ea' : args = [v0, v1, v2, v3, v4, v5] := ea
  subst ea'
  obtain ⟨a0, len0, cap0, rfl⟩ := okWide_slice Tryd.underlying22 (hval 0 22 v0 rfl rfl)
  obtain ⟨hI, hM⟩ := intsArg_of h0
  obtain ⟨raw, rfl, _, _, wr⟩ := open_string Tryd.underlying9 (hval 1 9 v1 rfl rfl) h1
  obtain ⟨n2, rfl, _, _, w2⟩ := open_int Tryd.underlying3 (hval 2 3 v2 rfl rfl) h2
  obtain ⟨n3, rfl, _, _, w3⟩ := open_int Tryd.underlying5 (hval 3 5 v3 rfl rfl) h3
  obtain ⟨n4, rfl, _, _, w4⟩ := open_int Tryd.underlying3 (hval 4 3 v4 rfl rfl) h4
  obtain ⟨a5, len5, cap5, rfl⟩ := okWide_slice Tryd.underlying23 (hval 5 23 v5 rfl rfl)
  obtain ⟨hM5, xs, hxl, hT, hxs⟩ := toksArg_of h5
  obtain ⟨b0, b1⟩ := bounds_u8 w3
  obtain ⟨c0, c1⟩ := bounds_i64 w4
  clear hA0 hval0
  refine (tokenExact_any a0 len0 cap0 hM raw wr n2 n3 n4 b0 b1 c0 c1 a5 len5 cap5 hM5 xs hxl W hT hxs (glob_of_laid hL hsh) hI).mono fun e W' ⟨he, bel⟩ => ?_
  subst he
  exact ⟨_, rfl, _, _, _, [], _, [], hW', trodAll_mk1 (shut_bool Tryd.underlying4 _), trodAll_stays laidOut bel (by kernel_rfl) hAll hlt, rfl, bel.frame _, fun h => by cases h⟩

theorem tokenExact_holds : Rows.TokenExactSaid :=
  OpenClaim.holds_of_wide 3 Tryd.f3 rfl rfl rfl rfl rfl rfl rfl ⟨rfl, rfl, rfl, rfl, rfl⟩ rfl rfl rfl rfl rfl (by kernel_rfl) Tryd.func3 (by kernel_rfl)
    (of_decide_eq_true (by kernel_rfl)) (by unfold Func.isWrapper; rw [if_neg (of_decide_eq_false (by kernel_rfl))]; exact ⟨rfl, rfl⟩)
    (fun os started H enc _ => tokenExact_lifted os started H enc)

theorem tokenExact_card : Rows.TokenExactCardSaid :=
  Claim7.holds_tied_plain_at .later [] [.data, .data, .data, .data, .pinned] true (true, "95bcfe1818530d8081ca8ccd1fee5d7069bf344193f574436f49239a8e6b41dd") false
    tokenExact_holds (fun _ h => by cases h) (by kernel_rfl) (fun _ h => by cases h) tokenExact_row_tie rfl ⟨rfl, rfl⟩ (by kernel_rfl) rfl
    (fun f fn hf hfn => by
      obtain rfl : f = 3 := Option.some.inj ((show Tryd.prog.funcNamed "coverability/coverabilitylaw14.TokenExact" = some 3 by kernel_rfl).symm.trans hf) |>.symm
      obtain rfl : fn = Tryd.f3 := (Option.some.inj (Tryd.func3.symm.trans hfn)).symm
      exact ⟨by kernel_rfl, fun j t ht => by
        rw [Tryd.params3] at ht
        have hm : t ∈ [22, 9, 3, 5, 3, 23] := by simpa using Array.mem_of_getElem? ht
        have hall : ([22, 9, 3, 5, 3, 23].all fun u => !Tryd.prog.wantsStandIn u) = true := by kernel_rfl
        exact (show Tryd.prog.wantsStandIn t = false by simpa using List.all_eq_true.1 hall t hm)⟩)
    (by kernel_rfl)
#print axioms tokenExact_card
end Go.Proofs.YtnibnkblkabalaaDoor
