/- multiset.search: srch. slices.Repeat of one number; slices.Clone of truths. -/
import Derived.Test.YtlmnkcfnihhlgaaGreatDoorAppA
import Derived.Test.YtlmnkcfnihhlgaaGreatDoorPlnB
import Derived.Laws.CopyOwn
namespace Go.Proofs.YtlmnkcfnihhlgaaGreatDoor
open Go.RowKit
set_option linter.unusedSimpArgs false
set_option linter.unusedVariables false

/-- a slice of truths; a table -/
def BAt (w : World) (S : Nat → Prop) (v : Value) (bs : List Bool) : Prop :=
  ∃ A n c, v = .slice A n c ∧ bs.length = n ∧ n ≤ c ∧ c ≤ maxLen ∧ (0 < n → ∃ ad, A = some ad ∧ S ad.block ∧ ∀ k (h : k < bs.length), w.cell? (ad.add k) = some (.bool bs[k]))
def TabAt (w : World) (S : Nat → Prop) (v : Value) (tb : List (List Bool)) : Prop :=
  ∃ A n c, v = .slice A n c ∧ tb.length = n ∧ n ≤ c ∧ c ≤ maxLen ∧ (0 < n → ∃ ad, A = some ad ∧ S ad.block ∧ ∀ k (h : k < tb.length), ∃ rv, w.cell? (ad.add k) = some rv ∧ BAt w S rv tb[k])
theorem BAt.keep {w w' : World} {S S' : Nat → Prop} {v : Value} {cs : List Bool} (h : BAt w S v cs) (hS : ∀ b, S b → S' b) (hk : ∀ p : Addr, S p.block → w'.cell? p = w.cell? p) : BAt w' S' v cs := by
  obtain ⟨A, n, c, h1, h2, h3, h4, h5⟩ := h
  refine ⟨A, n, c, h1, h2, h3, h4, fun hn => ?_⟩
  obtain ⟨ad, e, hs, hc⟩ := h5 hn
  exact ⟨ad, e, hS _ hs, fun k h => (hk _ (by rw [add_block]; exact hs)).trans (hc k h)⟩
theorem TabAt.keep {w w' : World} {S S' : Nat → Prop} {v : Value} {cs : List (List Bool)} (h : TabAt w S v cs) (hS : ∀ b, S b → S' b) (hk : ∀ p : Addr, S p.block → w'.cell? p = w.cell? p) : TabAt w' S' v cs := by
  obtain ⟨A, n, c, h1, h2, h3, h4, h5⟩ := h
  refine ⟨A, n, c, h1, h2, h3, h4, fun hn => ?_⟩
  obtain ⟨ad, e, hs, hc⟩ := h5 hn
  refine ⟨ad, e, hS _ hs, fun k h => ?_⟩
  obtain ⟨rv, h6, h7⟩ := hc k h
  exact ⟨rv, (hk _ (by rw [add_block]; exact hs)).trans h6, h7.keep hS hk⟩
theorem TabAt.form {w : World} {S : Nat → Prop} {v : Value} {l : List (List Bool)} (h : TabAt w S v l) : ∃ A n c, v = .slice A n c ∧ l.length = n ∧ n ≤ 9223372036854775807 := by
  obtain ⟨A, n, c, h1, h2, h3, h4, _⟩ := h
  unfold maxLen at h4
  exact ⟨A, n, c, h1, h2, by omega⟩
theorem TabAt.at_ {w : World} {S : Nat → Prop} {A : Option Addr} {n c : Nat} {l : List (List Bool)} (h : TabAt w S (.slice A n c) l) {k : Nat} (hk : k < l.length) : ∃ ad A' n' c', A = some ad ∧ S ad.block ∧ w.cell? (ad.add k) = some (.slice A' n' c') ∧ l[k].length = n' ∧ n' ≤ 9223372036854775807 ∧ BAt w S (.slice A' n' c') l[k] := by
  obtain ⟨A', n', c', e, h2, h3, h4, h5⟩ := h
  injection e with e1 e2 e3
  subst e1 e2 e3
  obtain ⟨ad, e, h6, h7⟩ := h5 (by omega)
  obtain ⟨rv, h8, h9⟩ := h7 k hk
  obtain ⟨A2, n2, c2, e', g2, g3, g4, g5⟩ := id h9
  subst e'
  unfold maxLen at g4
  exact ⟨ad, A2, n2, c2, e, h6, h8, g2, by omega, h9⟩
theorem BAt.at_ {w : World} {S : Nat → Prop} {A : Option Addr} {n c : Nat} {l : List Bool} (h : BAt w S (.slice A n c) l) {k : Nat} (hk : k < l.length) : ∃ ad, A = some ad ∧ S ad.block ∧ w.cell? (ad.add k) = some (.bool l[k]) := by
  obtain ⟨A', n', c', e, h2, h3, h4, h5⟩ := h
  injection e with e1 e2 e3
  subst e1 e2 e3
  obtain ⟨ad, e, h6, h7⟩ := h5 (by omega)
  exact ⟨ad, e, h6, h7 k hk⟩
/-- a block whose first cells are these -/
def RowC (w : World) (g : Nat) (t : TypeId) (vs : List Value) : Prop := ∃ cur : Array Value, w.heap[g]? = some (.cells cur t (0, 0)) ∧ vs.length ≤ cur.size ∧ ∀ (j : Nat) (u : Value), vs[j]? = some u → cur[j]? = some u
section
variable {w w' : World} {g : Nat} {t : TypeId} {vs : List Value}
theorem RowC.lt (h : RowC w g t vs) : g < w.heap.size := by obtain ⟨cur, h1, _⟩ := h; exact Blk.lt (t := t) h1
theorem RowC.cell (h : RowC w g t vs) {j : Nat} {u : Value} (hu : vs[j]? = some u) : w.cell? ⟨g, j, none⟩ = some u := by
  obtain ⟨cur, h1, _, h3⟩ := h
  rw [Blk.cell (t := t) h1 j]; exact h3 j u hu
theorem RowC.frozen (h : RowC w g t vs) (j : Nat) : w.frozen? ⟨g, j, none⟩ = false := by obtain ⟨cur, h1, _⟩ := h; exact Blk.frozen (t := t) h1 j
theorem RowC.set_ (h : RowC w g t vs) (j : Nat) (u : Value) : RowC (w.setCell ⟨g, j, none⟩ u) g t (vs.set j u) := by
  obtain ⟨cur, h1, h2, h3⟩ := h
  refine ⟨cur.setIfInBounds j u, Blk.set_ (t := t) h1 j u, by simpa using h2, fun i x hx => ?_⟩
  rw [List.getElem?_set] at hx
  rw [Array.getElem?_setIfInBounds]
  by_cases e : j = i
  · subst e
    by_cases hj : j < vs.length
    · rw [if_pos rfl, if_pos hj] at hx; rw [if_pos rfl, if_pos (by omega)]; exact hx
    · rw [if_pos rfl, if_neg hj] at hx; cases hx
  · rw [if_neg e] at hx ⊢; exact h3 i x hx
theorem RowC.far (h : RowC w g t vs) {p : Addr} (hp : g ≠ p.block) (u : Value) : RowC (w.setCell p u) g t vs := by
  obtain ⟨cur, h1, h2⟩ := h
  exact ⟨cur, Blk.far (t := t) h1 hp u, h2⟩
theorem RowC.block (h : RowC w g t vs) (e : w'.heap[g]? = w.heap[g]?) : RowC w' g t vs := by
  obtain ⟨cur, h1, h2⟩ := h
  exact ⟨cur, e.trans h1, h2⟩
end
/-- two blocks alone have turned -/
structure Fr2 (g1 g2 : Nat) (w w' : World) : Prop where
  os : w'.os = w.os
  tape : w'.tape = w.tape
  output : w'.output = w.output
  size : w.heap.size = w'.heap.size
  block : ∀ k, k ≠ g1 → k ≠ g2 → w'.heap[k]? = w.heap[k]?
theorem Fr2.refl (g1 g2 : Nat) (w : World) : Fr2 g1 g2 w w := ⟨rfl, rfl, rfl, rfl, fun _ _ _ => rfl⟩
theorem Fr2.trans {g1 g2 : Nat} {a b c : World} (h : Fr2 g1 g2 a b) (k : Fr2 g1 g2 b c) : Fr2 g1 g2 a c :=
  ⟨k.os.trans h.os, k.tape.trans h.tape, k.output.trans h.output, h.size.trans k.size, fun i h1 h2 => (k.block i h1 h2).trans (h.block i h1 h2)⟩
theorem Fr2.set_ {g1 g2 : Nat} {a w : World} (h : Fr2 g1 g2 a w) {p : Addr} (hp : p.block = g1 ∨ p.block = g2) (u : Value) : Fr2 g1 g2 a (w.setCell p u) :=
  ⟨h.os, h.tape, h.output, h.size.trans (by simp [World.setCell]), fun k h1 h2 => (Below.heap_setCell w p u k (by rintro rfl; rcases hp with hp | hp <;> omega)).trans (h.block k h1 h2)⟩
theorem Fr2.cell {g1 g2 : Nat} {a w : World} (h : Fr2 g1 g2 a w) {p : Addr} (h1 : p.block ≠ g1) (h2 : p.block ≠ g2) : w.cell? p = a.cell? p := World.cell?_of_block (h.block _ h1 h2)
def boolVs (s : List Bool) : List Value := s.map Value.bool
def SrchPost (w : World) (og sg : Nat) (r : KSt) (e : Ending) (w' : World) : Prop := e = .returned (.bool r.1) ∧ RowC w' og 3 (intVs r.2.1) ∧ RowC w' sg 4 (boolVs r.2.2) ∧ Fr2 og sg w w'
theorem intVs_get {o : List Int} {j : Nat} (h : j < o.length) : (intVs o)[j]? = some (.int .i64 (o.getD j 0)) := by simp [intVs, List.getD_eq_getElem?_getD, h]
theorem boolVs_get {o : List Bool} {j : Nat} (h : j < o.length) : (boolVs o)[j]? = some (.bool (o.getD j true)) := by simp [boolVs, List.getD_eq_getElem?_getD, h]
theorem intVs_set (o : List Int) (j : Nat) (x : Int) : (intVs o).set j (.int .i64 x) = intVs (o.set j x) := by simp [intVs]
theorem boolVs_set (o : List Bool) (j : Nat) (x : Bool) : (boolVs o).set j (.bool x) = boolVs (o.set j x) := by simp [boolVs]
/-- the state at a column -/
structure SrI (tb : List (List Bool)) (n m f og sg row : Nat) (w wr : World) (res : KSt) (l : List Bool) (us j : Nat) (o : List Int) (s : List Bool) : Prop where
  ro : RowC wr og 3 (intVs o)
  rs : RowC wr sg 4 (boolVs s)
  fr : Fr2 og sg w wr
  ok : KOk n m o s
  en : EntOk tb o
  eq : res = srchL (srch tb f) row j (l.drop j) o s
  us : unseen s ≤ us
theorem srchL_nil (rec : List Int → List Bool → Nat → KSt) (row j : Nat) (o : List Int) (s : List Bool) : srchL rec row j [] o s = (false, o, s) := rfl
theorem srchL_cons (rec : List Int → List Bool → Nat → KSt) (row j : Nat) (l : List Bool) (o : List Int) (s : List Bool) (h : j < l.length) : srchL rec row j (l.drop j) o s =
    if (!l[j] || s.getD j true) = true then srchL rec row (j + 1) (l.drop (j + 1)) o s
    else if o.getD j 0 = -1 then (true, o.set j row, s.set j true)
    else match rec o (s.set j true) (o.getD j 0).toNat with
      | (true, o2, s2) => (true, o2.set j row, s2)
      | (false, o2, s2) => srchL rec row (j + 1) (l.drop (j + 1)) o2 s2 := by
  rw [List.drop_eq_getElem_cons h]; rfl

set_option maxRecDepth 100000 in
set_option maxHeartbeats 8000000 in
theorem msearch_step (tb : List (List Bool)) (n m f : Nat) (hn : tb.length = n) (hm : ∀ r ∈ tb, r.length = m) (hn9 : n ≤ 1000) (hm9 : m ≤ 1000) (tv : Value) (og sg : Nat) (hne : og ≠ sg) (S : Nat → Prop) (hS : ∀ b, S b → b ≠ og ∧ b ≠ sg)
    (ih : ∀ (o : List Int) (s : List Bool) (row : Nat) (oc sc : Nat) (w : World), row < n → KOk n m o s → EntOk tb o → unseen s < f → TabAt w S tv tb → RowC w og 3 (intVs o) → RowC w sg 4 (boolVs s) →
      Calls Tryz.prog 167 #[tv, .slice (some ⟨og, 0, none⟩) m oc, .slice (some ⟨sg, 0, none⟩) m sc, .int .i64 (row : Int)] w (SrchPost w og sg (srch tb f o s row)))
    (o : List Int) (s : List Bool) (row : Nat) (oc sc : Nat) (w : World) (hrow : row < n) (hko : KOk n m o s) (heo : EntOk tb o) (hus : unseen s < f + 1) (hT : TabAt w S tv tb) (hro : RowC w og 3 (intVs o)) (hrs : RowC w sg 4 (boolVs s)) :
    Calls Tryz.prog 167 #[tv, .slice (some ⟨og, 0, none⟩) m oc, .slice (some ⟨sg, 0, none⟩) m sc, .int .i64 (row : Int)] w (SrchPost w og sg (srch tb (f + 1) o s row)) := by
  have hrt : row < tb.length := by omega
  obtain ⟨TA, tn, tc, rfl, ltn, mtn⟩ := hT.form
  obtain ⟨adt, RA, rn, rc, rfl, hSt, qt, lrn, mrn, hB⟩ := hT.at_ hrt
  have hrm : tb[row].length = m := hm _ (List.getElem_mem hrt)
  obtain rfl : rn = m := by omega
  obtain rfl : tn = n := by omega
  have HE : Hid (srch tb (f + 1) o s row = srchL (srch tb f) row 0 (tb[row].drop 0) o s) := Lib.hid (by
    show srchL (srch tb f) row 0 (tb.getD row []) o s = _
    rw [List.getD_eq_getElem?_getD, List.getElem?_eq_getElem hrt]; rfl)
  have HSR := Lib.hid (srch_said hn hm f)
  have HIH := Lib.hid ih
  have HT := Lib.hid hT
  have HB := Lib.hid hB
  have HSS := Lib.hid hS
  have HKO := Lib.hid hko
  have HEO := Lib.hid heo
  have HRO := Lib.hid hro
  have HRS := Lib.hid hrs
  have HN := Lib.hid hn
  generalize hl : tb[row] = l at *
  have HL := Lib.hid lrn
  clear hT hB ih hS hn hm lrn hrm hl hrt hko heo hro hrs ltn
  generalize hres : srch tb (f + 1) o s row = res at *
  clear hres
  have hs1 := (HSS.out _ hSt)
  go_enter Tryz.func167, Tryz.ntmps167
  go_wp2
  go_loopw [16] (fun i wr => ∃ j : Nat, j ≤ rn ∧ i = .int .i64 j ∧ Hid (∃ o1 s1, SrI tb tn rn f og sg row w wr res l f j o1 s1)) (fun i _ => rn - (intOf i).toNat)
  case atStart => exact ⟨0, by omega, rfl, Lib.hid ⟨o, s, HRO.out, HRS.out, Fr2.refl _ _ _, HKO.out, HEO.out, HE.out, by omega⟩⟩
  case round =>
    obtain ⟨j, hj, rfl, HR⟩ := hrel
    obtain ⟨o1, s1, hI⟩ := HR.out
    by_cases hlt : j < rn
    · have e1 : j < l.length := by have := HL.out; omega
      obtain ⟨adr, rfl, hSr, qr⟩ := HB.out.at_ e1
      have hs2 := HSS.out _ hSr
      have qr' : wr.cell? (adr.add j) = some (.bool l[j]) := (hI.fr.cell (by rw [add_block]; exact hs2.1) (by rw [add_block]; exact hs2.2)).trans qr
      have jo : j < o1.length := by rw [hI.ok.ol]; exact hlt
      have js : j < s1.length := by rw [hI.ok.sl]; exact hlt
      have qs := hI.rs.cell (boolVs_get js)
      have fs := hI.rs.frozen j
      have heq := hI.eq
      rw [srchL_cons _ _ _ _ _ _ e1] at heq
      have HI := Lib.hid hI
      clear hI HR qr
      by_cases h1 : (!l[j] || s1.getD j true) = true
      · rw [if_pos h1] at heq
        have HQ := Lib.hid heq
        clear heq
        rcases hlj : l[j] with _ | _
        · rw [hlj] at qr'
          clear h1
          generalize s1.getD j true = sj at *
          go_wp2
          go_roundw
          case rel => exact ⟨j + 1, by omega, by go_num, Lib.hid ⟨o1, s1, HI.out.ro, HI.out.rs, HI.out.fr, HI.out.ok, HI.out.en, HQ.out, HI.out.us⟩⟩
          case measure => simp [intOf]; omega
        · rw [hlj] at qr' h1
          have hsj : s1.getD j true = true := by simpa using h1
          rw [hsj] at qs
          clear h1 hsj
          go_wp2
          go_roundw
          case rel => exact ⟨j + 1, by omega, by go_num, Lib.hid ⟨o1, s1, HI.out.ro, HI.out.rs, HI.out.fr, HI.out.ok, HI.out.en, HQ.out, HI.out.us⟩⟩
          case measure => simp [intOf]; omega
      · rw [if_neg h1] at heq
        have h1' : l[j] = true ∧ s1.getD j true = false := by revert h1; cases l[j] <;> cases s1.getD j true <;> simp
        obtain ⟨hlj, hsj⟩ := h1'
        rw [hlj] at qr'
        rw [hsj] at qs
        have hus2 := unseen_set hsj
        have hrs2 := HI.out.rs.set_ j (.bool true)
        rw [boolVs_set] at hrs2
        have hro2 := HI.out.ro.far (p := ⟨sg, j, none⟩) hne (.bool true)
        have qo := hro2.cell (intVs_get jo)
        have fo := hro2.frozen j
        have hfr2 := HI.out.fr.set_ (p := ⟨sg, j, none⟩) (.inr rfl) (.bool true)
        have hok2 : KOk tn rn o1 (s1.set j true) := ⟨HI.out.ok.ol, by simp [HI.out.ok.sl], HI.out.ok.ow⟩
        clear h1 hlj
        by_cases h2 : o1.getD j 0 = -1
        · rw [if_pos h2] at heq
          have HQ := Lib.hid heq
          rw [h2] at qo
          have hro3 := hro2.set_ j (.int .i64 (row : Int))
          rw [intVs_set] at hro3
          have hrs3 := hrs2.far (p := ⟨og, j, none⟩) (by dsimp only; omega) (.int .i64 (row : Int))
          have HF : Hid (SrchPost w og sg res (.returned (.bool true)) (((wr.setCell ⟨sg, j, none⟩ (.bool true)).setCell ⟨og, j, none⟩ (.int .i64 (row : Int))))) := Lib.hid (by rw [HQ.out]; exact ⟨rfl, hro3, hrs3, hfr2.set_ (p := ⟨og, j, none⟩) (.inl rfl) _⟩)
          clear heq h2 hro2 hrs2 hro3 hrs3 hfr2 hok2 hsj hus2
          go_wp2
          go_ret
          exact HF.out
        · rw [if_neg h2] at heq
          have hoj : 0 ≤ o1.getD j 0 ∧ o1.getD j 0 < tn := by
            have : o1.getD j 0 ∈ o1 := by simp [List.getD_eq_getElem?_getD, jo]
            rcases HI.out.ok.ow _ this with h | h
            · exact absurd h h2
            · exact h
          obtain ⟨r, hr⟩ := Int.eq_ofNat_of_zero_le hoj.1
          rw [hr] at heq qo h2
          have hr9 : r < tn := by omega
          have hTT : TabAt (wr.setCell ⟨sg, j, none⟩ (.bool true)) S (.slice (some adt) tn tc) tb := HT.out.keep (fun _ h => h) (fun p hp => hfr2.cell (HSS.out _ hp).1 (HSS.out _ hp).2)
          have CM : Hid (Calls Tryz.prog 167 #[.slice (some adt) tn tc, .slice (some ⟨og, 0, none⟩) rn oc, .slice (some ⟨sg, 0, none⟩) rn sc, .int .i64 (r : Int)] (wr.setCell ⟨sg, j, none⟩ (.bool true)) (SrchPost (wr.setCell ⟨sg, j, none⟩ (.bool true)) og sg (srch tb f o1 (s1.set j true) r))) := Lib.hid (HIH.out o1 (s1.set j true) r oc sc _ hr9 hok2 HI.out.en (by have := HI.out.us; omega) hTT hro2 hrs2)
          have hsaid := HSR.out o1 (s1.set j true) r hr9 hok2 HI.out.en (by have := HI.out.us; omega)
          have HSJ := Lib.hid hsj
          simp only [Int.toNat_natCast] at heq
          have HFR2 := Lib.hid hfr2
          have d1 : ((r : Int) == -1) = false := by simp
          have HUS := Lib.hid hus2
          clear h2 hro2 hrs2 hfr2 hok2 hsj hus2 hTT hoj hr
          rcases hrec : srch tb f o1 (s1.set j true) r with ⟨b, o2, s2⟩
          rw [hrec] at hsaid heq CM
          have HSD := Lib.hid hsaid
          clear hrec hsaid
          have jo2 : j < o2.length := by have := HSD.out.ok.ol; simp only at this; omega
          cases b with
          | true =>
            have HQ := Lib.hid (show res = (true, o2.set j row, s2) from heq)
            clear heq
            go_wp2_with (go_at_call 167; go_must (refine CM.out.mono ?_; rintro e w6 ⟨rfl, ro6, rs6, fr6⟩; (have c6 := ro6.cell (intVs_get jo2)); (have z6 := ro6.frozen j); (have HRO6 := Lib.hid ro6); (have HRS6 := Lib.hid rs6); (have HFR6 := Lib.hid fr6); clear ro6 rs6 fr6))
            go_ret
            show SrchPost w og sg res _ _
            rw [HQ.out]
            have hro3 := HRO6.out.set_ j (.int .i64 (row : Int))
            rw [intVs_set] at hro3
            exact ⟨rfl, hro3, HRS6.out.far (p := ⟨og, j, none⟩) (by dsimp only; omega) _, (HFR2.out.trans HFR6.out).set_ (p := ⟨og, j, none⟩) (.inl rfl) _⟩
          | false =>
            have HQ := Lib.hid (show res = srchL (srch tb f) row (j + 1) (l.drop (j + 1)) o2 s2 from heq)
            clear heq
            go_wp2_with (go_at_call 167; go_must (refine CM.out.mono ?_; rintro e w6 ⟨rfl, ro6, rs6, fr6⟩; (have HRO6 := Lib.hid ro6); (have HRS6 := Lib.hid rs6); (have HFR6 := Lib.hid fr6); clear ro6 rs6 fr6))
            go_roundw
            case rel =>
              have hno := HSD.out.no rfl
              simp only at hno
              refine ⟨j + 1, by omega, by go_num, Lib.hid ⟨o2, s2, HRO6.out, HRS6.out, HFR2.out.trans HFR6.out, HSD.out.ok, by rw [hno.1]; exact HI.out.en, HQ.out, ?_⟩⟩
              have h1 := HSD.out.less
              have h2 := HUS.out
              have h3 := HI.out.us
              simp only at h1
              omega
            case measure => simp [intOf]; omega
    · obtain rfl : j = rn := by omega
      have hq := hI.eq
      rw [List.drop_eq_nil_of_le (by have := HL.out; omega), srchL_nil] at hq
      have HF : Hid (SrchPost w og sg res (.returned (.bool false)) wr) := Lib.hid (by rw [hq]; exact ⟨rfl, hI.ro, hI.rs, hI.fr⟩)
      clear hq hI HR
      go_wp2
      go_ret
      exact HF.out
theorem msearch_any (tb : List (List Bool)) (n m : Nat) (hn : tb.length = n) (hm : ∀ r ∈ tb, r.length = m) (hn9 : n ≤ 1000) (hm9 : m ≤ 1000) (tv : Value) (og sg : Nat) (hne : og ≠ sg) (S : Nat → Prop) (hS : ∀ b, S b → b ≠ og ∧ b ≠ sg) (f : Nat) :
    ∀ (o : List Int) (s : List Bool) (row : Nat) (oc sc : Nat) (w : World), row < n → KOk n m o s → EntOk tb o → unseen s < f → TabAt w S tv tb → RowC w og 3 (intVs o) → RowC w sg 4 (boolVs s) →
      Calls Tryz.prog 167 #[tv, .slice (some ⟨og, 0, none⟩) m oc, .slice (some ⟨sg, 0, none⟩) m sc, .int .i64 (row : Int)] w (SrchPost w og sg (srch tb f o s row)) := by
  induction f with
  | zero => intro o s row oc sc w _ _ _ h; omega
  | succ f ih => exact fun o s row oc sc w h1 h2 h3 h4 h5 h6 h7 => msearch_step tb n m f hn hm hn9 hm9 tv og sg hne S hS ih o s row oc sc w h1 h2 h3 h4 h5 h6 h7
end Go.Proofs.YtlmnkcfnihhlgaaGreatDoor
namespace Go.Proofs.YtlmnkcfnihhlgaaGreatDoor
open Go.RowKit
set_option linter.unusedSimpArgs false
set_option linter.unusedVariables false

theorem made_one (z : Value) (hz : z.cells = #[z]) (n : Nat) : madeCells z.cells (n * 1) = (List.replicate n z).toArray := by
  rw [hz]
  apply Array.ext
  · rw [size_madeCells]; simp
  · intro i h1 h2
    simp [madeCells, Nat.mod_one]
theorem mkInts (m : Nat) (h9 : m ≤ 1000) (W : World) : (Instr.makeSlice 22 (.int .i64 (m : Int)) (.int .i64 (m : Int))).run Tryz.prog W = .ok (.slice (some ⟨W.heap.size, 0, none⟩) m m) (W.alloc (.cells (intVs (List.replicate m 0)).toArray 3)) := by
  obtain ⟨i0, hi, hz0, hz1, hz2⟩ := info_parts infoInt
  rw [run_makeSlice W 22 3 i0 _ Tryz.underlying22 hi hz0 .i64 .i64 m m (by omega) (by omega) (by rw [hz1]; simp; omega) (by rw [hz2]; omega) (by omega), hz1]
  simp only [Int.toNat_natCast]
  rw [made_one _ rfl]
  simp [intVs]
theorem infoBool : (Tryz.prog.info? 4).map (fun i => (i.zero, i.size, i.bytes)) = some (some (.bool false), 1, 1) := by kernel_rfl
theorem infoBools : (Tryz.prog.info? 102).map (fun i => (i.zero, i.size, i.bytes)) = some (some (.slice none 0 0), 1, 24) := by kernel_rfl
theorem mkBools (m : Nat) (h9 : m ≤ 1000) (W : World) : (Instr.makeSlice 102 (.int .i64 (m : Int)) (.int .i64 (m : Int))).run Tryz.prog W = .ok (.slice (some ⟨W.heap.size, 0, none⟩) m m) (W.alloc (.cells (boolVs (List.replicate m false)).toArray 4)) := by
  obtain ⟨i0, hi, hz0, hz1, hz2⟩ := info_parts infoBool
  rw [run_makeSlice W 102 4 i0 _ Tryz.underlying102 hi hz0 .i64 .i64 m m (by omega) (by omega) (by rw [hz1]; simp; omega) (by rw [hz2]; omega) (by omega), hz1]
  simp only [Int.toNat_natCast]
  rw [made_one _ rfl]
  simp [boolVs]
theorem mkRows (m : Nat) (h9 : m ≤ 1000) (W : World) : (Instr.makeSlice 101 (.int .i64 (m : Int)) (.int .i64 (m : Int))).run Tryz.prog W = .ok (.slice (some ⟨W.heap.size, 0, none⟩) m m) (W.alloc (.cells (List.replicate m (Value.slice none 0 0)).toArray 102)) := by
  obtain ⟨i0, hi, hz0, hz1, hz2⟩ := info_parts infoBools
  rw [run_makeSlice W 101 102 i0 _ Tryz.underlying101 hi hz0 .i64 .i64 m m (by omega) (by omega) (by rw [hz1]; simp; omega) (by rw [hz2]; omega) (by omega), hz1]
  simp only [Int.toNat_natCast]
  rw [made_one _ rfl]
theorem below_drewN {B : Nat} {a w : World} (h : Below B a w) (n : Nat) : Below B a (w.drewN n) := ⟨h.os, h.tape, h.output, h.size, h.block⟩
def RepPost (w : World) (m : Nat) (x : Int) (e : Ending) (w' : World) : Prop := e = .returned (.slice (some ⟨w.heap.size, 0, none⟩) m m) ∧ Blk w' w.heap.size 3 (intVs (List.replicate m x)).toArray ∧ Below w.heap.size w w'
def repL (m k : Nat) (x : Int) : List Value := intVs (List.replicate k x ++ List.replicate (m - k) 0)
theorem repL_length {m k : Nat} (h : k ≤ m) (x : Int) : (repL m k x).length = m := by simp [repL, intVs]; omega
theorem repL_splice {m k q : Nat} (h : k + q ≤ m) (x : Int) : splice (repL m k x) k (intVs (List.replicate q x)) = repL m (k + q) x := by
  unfold splice repL
  have e1 : (intVs (List.replicate k x ++ List.replicate (m - k) 0)).take k = intVs (List.replicate k x) := by simp [intVs]
  have e2 : (intVs (List.replicate q x)).length = q := by simp [intVs]
  have e3 : (intVs (List.replicate k x ++ List.replicate (m - k) 0)).drop (k + q) = intVs (List.replicate (m - (k + q)) 0) := by
    simp [intVs, List.drop_append]
    omega
  rw [e1, e2, e3]
  simp only [intVs, List.map_append, List.map_replicate, ← List.append_assoc, List.replicate_append_replicate]
theorem repL_get {m k j : Nat} (h : k ≤ m) (hj : j < k) (x : Int) : (repL m k x)[j]? = some (.int .i64 x) := by
  unfold repL intVs
  rw [List.getElem?_map, List.getElem?_append_left (by simpa using hj)]
  simp [hj]
theorem rep_get {q j : Nat} {x : Int} {u : Value} (h : (intVs (List.replicate q x))[j]? = some u) : j < q ∧ u = .int .i64 x := by
  have hj : j < q := by
    rcases Nat.lt_or_ge j q with h1 | h1
    · exact h1
    · rw [List.getElem?_eq_none (by simp [intVs]; omega)] at h; cases h
  refine ⟨hj, ?_⟩
  simp [intVs, hj] at h
  exact h.symm
theorem infoInt1 : (Tryz.prog.info? 3).map (·.size) = some 1 := by kernel_rfl
theorem rep_one (q : Nat) (x : Int) : ∀ u ∈ intVs (List.replicate q x), u.oneCell' = true := intVs_one _
theorem rep_len (q : Nat) (x : Int) : goInt (intVs (List.replicate q x)).length = .int .i64 (q : Int) := by simp [intVs, goInt]
set_option maxRecDepth 100000 in
set_option maxHeartbeats 4000000 in
theorem repeat_any (m : Nat) (h9 : m ≤ 1000) (x : Int) (g : Nat) (w : World) (hg : Blk w g 3 #[.int .i64 x]) : Calls Tryz.prog 166 #[.slice (some ⟨g, 0, none⟩) 1 1, .int .i64 (m : Int)] w (RepPost w m x) := by
  have ML : Hid (∀ W, Calls Tryz.prog 199 #[.int .u64 1, .int .u64 (m : Int)] W fun e w' => e = .returned (.tuple #[.int .u64 0, .int .u64 (m : Int)]) ∧ W = w') := Lib.hid (fun W => by
    have := Tryz.bits_Mul 1 m (by omega) (by omega) W
    rw [Nat.one_mul, Nat.div_eq_of_lt (by omega), Nat.mod_eq_of_lt (by omega)] at this
    exact this.mono fun _ _ h => ⟨h.1, h.2.symm⟩)
  have HG := Lib.hid hg
  have hgl := hg.lt
  clear hg
  have hmk := mkInts m h9 w
  have HB0 : Hid (Blk (w.alloc (.cells (intVs (List.replicate m 0)).toArray 3)) w.heap.size 3 (repL m 0 x).toArray) := Lib.hid (by have := Blk.new w 3 (intVs (List.replicate m 0)).toArray; simpa [repL] using this)
  by_cases hm0 : m = 0
  · subst hm0
    have hmk0 : (Instr.makeSlice 22 (.int .i64 0) (.int .i64 0)).run Tryz.prog w = .ok (.slice (some ⟨w.heap.size, 0, none⟩) 0 0) (w.alloc (.cells (intVs (List.replicate 0 0)).toArray 3)) := mkInts 0 (by omega) w
    clear hmk
    go_enter Tryz.func166, Tryz.ntmps166
    go_wp2_with (first
    | (go_at_call 199; go_must (refine (ML.out _).mono ?_; rintro e w' ⟨rfl, rfl⟩))
      | (with_reducible refine wpList_copy_nothing rfl (.tmp 31) (.tmp 32) 22 22 rfl 3 Tryz.underlying22 infoInt1 _ _ 0 0 1 1 rfl rfl rfl ?_))
    go_loopw [8] (fun i wr => i = .int .i64 0 ∧ Hid (Blk wr w.heap.size 3 (repL 0 0 x).toArray ∧ Below w.heap.size w wr)) (fun i _ => 0)
    case atStart => exact ⟨rfl, Lib.hid ⟨HB0.out, (Below.refl _ _).alloc (Nat.le_refl _) _⟩⟩
    case round =>
      obtain ⟨rfl, HR⟩ := hrel
      go_wp2
      go_ret
      exact ⟨rfl, by simpa [repL] using HR.out.1, HR.out.2⟩
  have hm1 : 1 ≤ m := by omega
  have d0 : ((m : Int) == 0) = false := by simp; omega
  have HB0h : Hid ((w.alloc (.cells (intVs (List.replicate m 0)).toArray 3)).heap[w.heap.size]? = some (.cells (repL m 0 x).toArray 3 (0, 0))) := Lib.hid HB0.out
  have HN1 : Hid ((intVs (List.replicate 1 x)).length = Nat.min 1 m) := Lib.hid (by show 1 = min 1 m; omega)
  have HC1 : Hid (∀ o (j : Nat) (v : Value), (intVs (List.replicate 1 x))[j]? = some v → (w.alloc o).cell? ((⟨g, 0, none⟩ : Addr).add j) = some v) := Lib.hid (fun o j v hv => by
    obtain ⟨hj, rfl⟩ := rep_get hv
    obtain rfl : j = 0 := by omega
    exact (HG.out.alloc o).cell 0)
  have HF1 : Hid (0 + (intVs (List.replicate 1 x)).length ≤ (repL m 0 x).length) := Lib.hid (by rw [repL_length (by omega)]; show 0 + 1 ≤ m; omega)
  have HB1 : Hid (∀ o, Below w.heap.size w (w.alloc o)) := Lib.hid (fun o => (Below.refl _ _).alloc (Nat.le_refl _) o)
  go_enter Tryz.func166, Tryz.ntmps166
  go_wp2_with (first
    | (go_at_call 199; go_must (refine (ML.out _).mono ?_; rintro e w' ⟨rfl, rfl⟩))
    | (with_reducible refine wpList_copy_splice rfl (.tmp 31) (.tmp 32) 22 22 rfl 3 Tryz.underlying22 infoInt1 (some ⟨w.heap.size, 0, none⟩) (some ⟨g, 0, none⟩) m m 1 1 rfl rfl w.heap.size 0 (repL m 0 x) 3 HB0h.out (intVs (List.replicate 1 x)) HN1.out (fun _ => ⟨rfl, _, rfl, HC1.out _⟩) HF1.out (rep_one _ _) w.heap.size w (HB1.out _) (Nat.le_refl _) ?_; intro w3 hb3 hw3; (rw [repL_splice (show 0 + 1 ≤ m by omega) x] at hb3); (have HB3 := Lib.hid hb3); (have HW3 := Lib.hid hw3); (rw [rep_len]); clear hb3 hw3))
  go_loopw [8] (fun i wr => ∃ k : Nat, 1 ≤ k ∧ k ≤ m ∧ i = .int .i64 k ∧ Hid (Blk wr w.heap.size 3 (repL m k x).toArray ∧ Below w.heap.size w wr)) (fun i _ => m - (intOf i).toNat)
  case atStart => exact ⟨1, by omega, by omega, rfl, Lib.hid ⟨HB3.out.out, HW3.out⟩⟩
  case round =>
    obtain ⟨k, hk1, hkm, rfl, HR⟩ := hrel
    obtain ⟨hb, hw⟩ := HR.out
    have HB := Lib.hid hb
    have HW := Lib.hid hw
    have hsz := hb.lt
    clear hb hw HR
    by_cases hlt : k < m
    · obtain ⟨q, hq⟩ : ∃ q, min k (m - k) = q := ⟨_, rfl⟩
      have hc1 : ∀ W, (Instr.slice 22 (.slice (some ⟨w.heap.size, 0, none⟩) m m) (some (.int .i64 (k : Int))) none none).run Tryz.prog W = .ok (.slice (some ⟨w.heap.size, k, none⟩) (m - k) (m - k)) W := fun W => by
        rw [cutI_l _ m m k (by omega) W]
        unfold sliced
        rw [if_neg (by omega)]
        simp [Addr.add]; omega
      have hc2 : ∀ W, (Instr.slice 22 (.slice (some ⟨w.heap.size, 0, none⟩) m m) none (some (.int .i64 (k : Int))) none).run Tryz.prog W = .ok (.slice (some ⟨w.heap.size, 0, none⟩) k m) W := fun W => by
        rw [run_slice_h W 22 _ m m (by kernel_rfl) .i64 (k : Int) (by omega) (by omega)]
        have : (sizeOf (Tryz.prog.elem 22)).run Tryz.prog W = .ok 1 W := by kernel_rfl
        rw [this]; simp [Result.andThen, sliced, Addr.add]
      have HN2 : Hid ((intVs (List.replicate q x)).length = Nat.min k (m - k)) := Lib.hid (by rw [← hq]; simp [intVs])
      have HC2 : Hid (∀ (j : Nat) (v : Value), (intVs (List.replicate q x))[j]? = some v → wr.drew.cell? ((⟨w.heap.size, 0, none⟩ : Addr).add j) = some v) := Lib.hid (fun j v hv => by
        obtain ⟨hj, rfl⟩ := rep_get hv
        have e : ((⟨w.heap.size, 0, none⟩ : Addr).add j) = ⟨w.heap.size, j, none⟩ := by
          unfold Addr.add
          by_cases h0 : j = 0 <;> simp [h0]
        rw [e]
        show wr.cell? _ = _
        rw [HB.out.cell j]
        have := repL_get (m := m) (k := k) (j := j) (by omega) (by omega) x
        simpa using this)
      have HF2 : Hid (k + (intVs (List.replicate q x)).length ≤ (repL m k x).length) := Lib.hid (by rw [repL_length (by omega)]; simp [intVs]; omega)
      have HSP : Hid (splice (repL m k x) k (intVs (List.replicate q x)) = repL m (k + q) x) := Lib.hid (repL_splice (by omega) x)
      have HBD : Hid (wr.drew.heap[w.heap.size]? = some (.cells (repL m k x).toArray 3 (0, 0))) := Lib.hid HB.out
      have HWD : Hid (Below w.heap.size w wr.drew) := Lib.hid (below_drewN HW.out 1)
      have hq1 : 1 ≤ q := by omega
      have hq2 : k + q ≤ m := by omega
      have dw : IntKind.i64.wrap ((k : Int) + (q : Int)) = (k : Int) + q := wI64 _ (by omega) (by omega)
      clear hq
      go_wp2_with fail
      go_region_law (refine step_copy_splice rfl (.tmp 41) (.tmp 44) 22 22 rfl 3 Tryz.underlying22 infoInt1 (some ⟨w.heap.size, k, none⟩) (some ⟨w.heap.size, 0, none⟩) (m - k) (m - k) k m (by simp [Act.eval, Act.put]) (by simp [Act.eval, Act.put]) w.heap.size k (repL m k x) 3 HBD.out (intVs (List.replicate q x)) HN2.out (fun _ => ⟨rfl, _, rfl, HC2.out⟩) HF2.out (rep_one _ _) w.heap.size w HWD.out (Nat.le_refl _) ?_; intro w4 hb4 hw4; (rw [HSP.out] at hb4); (have HB4 := Lib.hid hb4); (have HW4 := Lib.hid hw4); (rw [rep_len]); clear hb4 hw4)
      all_goals
        go_simp
        go_wp2
        go_roundw
        case rel => exact ⟨k + q, by omega, by omega, by go_num, Lib.hid ⟨HB4.out.out, HW4.out⟩⟩
        case measure => simp [intOf]; omega
    · obtain rfl : k = m := by omega
      go_wp2
      go_ret
      refine ⟨rfl, ?_, HW.out⟩
      have := HB.out
      unfold repL at this
      simpa using this
end Go.Proofs.YtlmnkcfnihhlgaaGreatDoor
