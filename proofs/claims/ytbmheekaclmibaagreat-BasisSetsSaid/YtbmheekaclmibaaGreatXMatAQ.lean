/- Part of a proof of basisSets_holds. -/
import Derived.Test.YtbmheekaclmibaaGreatXAppAQ
import Derived.Laws.CopyOwn
set_option maxRecDepth 100000
set_option maxHeartbeats 16000000
namespace Go.Proofs.YtbmheekaclmibaaGreat
open Go.RowKit
set_option linter.unusedSimpArgs false
set_option linter.unusedVariables false
def BAt (w : World) (S : Nat → Prop) (v : Value) (bs : List Bool) : Prop :=
 ∃ A n c, v = .slice A n c ∧ bs.length = n ∧ n ≤ c ∧ c ≤ maxLen ∧ (0 < n → ∃ ad, A = some ad ∧ S ad.block ∧ ∀ k (h : k < bs.length), w.cell? (ad.add k) = some (.bool bs[k]))
def TabAt (w : World) (S : Nat → Prop) (v : Value) (tb : List (List Bool)) : Prop :=
 ∃ A n c, v = .slice A n c ∧ tb.length = n ∧ n ≤ c ∧ c ≤ maxLen ∧ (0 < n → ∃ ad, A = some ad ∧ S ad.block ∧ ∀ k (h : k < tb.length), ∃ rv, w.cell? (ad.add k) = some rv ∧ BAt w S rv tb[k])
theorem BAt.keep {w w' : World} {S S' : Nat → Prop} {v : Value} {cs : List Bool} (h : BAt w S v cs) (hS : ∀ b, S b → S' b) (hk : ∀ p : Addr, S p.block → w'.cell? p = w.cell? p) : BAt w' S' v cs := by
 obtain ⟨A, n, c, h1, h2, h3, h4, h5⟩ := h
 refine ⟨A, n, c, h1, h2, h3, h4, fun hn => ?_⟩
 obtain ⟨ad, e, hs, hc⟩ := h5 hn
 exact ⟨ad, e, hS _ hs, fun k h => (hk _ (by rw [add_block]; exact hs)).trans (hc k h)⟩
theorem TabAt.keep {w w' : World} {S S' : Nat → Prop} {v : Value} {cs : List (List Bool)} (h : TabAt w S v cs) (hS : ∀ b, S b → S' b) (hk : ∀ p : Addr, S p.block → w'.cell? p = w.cell? p) : TabAt w' S' v cs := by
 obtain ⟨A, n, c, h1, h2, h3, h4, h5⟩ := h
 refine ⟨A, n, c, h1, h2, h3, h4, fun hn => ?_⟩
 obtain ⟨ad, e, hs, hc⟩ := h5 hn
 refine ⟨ad, e, hS _ hs, fun k h => ?_⟩
 obtain ⟨rv, h6, h7⟩ := hc k h
 exact ⟨rv, (hk _ (by rw [add_block]; exact hs)).trans h6, h7.keep hS hk⟩
theorem TabAt.form {w : World} {S : Nat → Prop} {v : Value} {l : List (List Bool)} (h : TabAt w S v l) : ∃ A n c, v = .slice A n c ∧ l.length = n ∧ n ≤ 9223372036854775807 := by
 obtain ⟨A, n, c, h1, h2, h3, h4, _⟩ := h
 unfold maxLen at h4
 exact ⟨A, n, c, h1, h2, by omega⟩
theorem TabAt.at_ {w : World} {S : Nat → Prop} {A : Option Addr} {n c : Nat} {l : List (List Bool)} (h : TabAt w S (.slice A n c) l) {k : Nat} (hk : k < l.length) : ∃ ad A' n' c', A = some ad ∧ S ad.block ∧ w.cell? (ad.add k) = some (.slice A' n' c') ∧ l[k].length = n' ∧ n' ≤ 9223372036854775807 ∧ BAt w S (.slice A' n' c') l[k] := by
 obtain ⟨A', n', c', e, h2, h3, h4, h5⟩ := h
 injection e with e1 e2 e3
 subst e1 e2 e3
 obtain ⟨ad, e, h6, h7⟩ := h5 (by omega)
 obtain ⟨rv, h8, h9⟩ := h7 k hk
 obtain ⟨A2, n2, c2, e', g2, g3, g4, g5⟩ := id h9
 subst e'
 unfold maxLen at g4
 exact ⟨ad, A2, n2, c2, e, h6, h8, g2, by omega, h9⟩
theorem BAt.at_ {w : World} {S : Nat → Prop} {A : Option Addr} {n c : Nat} {l : List Bool} (h : BAt w S (.slice A n c) l) {k : Nat} (hk : k < l.length) : ∃ ad, A = some ad ∧ S ad.block ∧ w.cell? (ad.add k) = some (.bool l[k]) := by
 obtain ⟨A', n', c', e, h2, h3, h4, h5⟩ := h
 injection e with e1 e2 e3
 subst e1 e2 e3
 obtain ⟨ad, e, h6, h7⟩ := h5 (by omega)
 exact ⟨ad, e, h6, h7 k hk⟩
def RowC (w : World) (g : Nat) (t : TypeId) (vs : List Value) : Prop := ∃ cur : Array Value, w.heap[g]? = some (.cells cur t (0, 0)) ∧ vs.length ≤ cur.size ∧ ∀ (j : Nat) (u : Value), vs[j]? = some u → cur[j]? = some u
section
variable {w w' : World} {g : Nat} {t : TypeId} {vs : List Value}
theorem RowC.lt (h : RowC w g t vs) : g < w.heap.size := by obtain ⟨cur, h1, _⟩ := h; exact Blk.lt (t := t) h1
theorem RowC.cell (h : RowC w g t vs) {j : Nat} {u : Value} (hu : vs[j]? = some u) : w.cell? ⟨g, j, none⟩ = some u := by
 obtain ⟨cur, h1, _, h3⟩ := h
 rw [Blk.cell (t := t) h1 j]; exact h3 j u hu
theorem RowC.frozen (h : RowC w g t vs) (j : Nat) : w.frozen? ⟨g, j, none⟩ = false := by obtain ⟨cur, h1, _⟩ := h; exact Blk.frozen (t := t) h1 j
theorem RowC.set_ (h : RowC w g t vs) (j : Nat) (u : Value) : RowC (w.setCell ⟨g, j, none⟩ u) g t (vs.set j u) := by
 obtain ⟨cur, h1, h2, h3⟩ := h
 refine ⟨cur.setIfInBounds j u, Blk.set_ (t := t) h1 j u, by simpa using h2, fun i x hx => ?_⟩
 rw [List.getElem?_set] at hx
 rw [Array.getElem?_setIfInBounds]
 by_cases e : j = i
 · subst e
   by_cases hj : j < vs.length
   · rw [if_pos rfl, if_pos hj] at hx; rw [if_pos rfl, if_pos (by omega)]; exact hx
   · rw [if_pos rfl, if_neg hj] at hx; cases hx
 · rw [if_neg e] at hx ⊢; exact h3 i x hx
theorem RowC.far (h : RowC w g t vs) {p : Addr} (hp : g ≠ p.block) (u : Value) : RowC (w.setCell p u) g t vs := by
 obtain ⟨cur, h1, h2⟩ := h
 exact ⟨cur, Blk.far (t := t) h1 hp u, h2⟩
theorem RowC.block (h : RowC w g t vs) (e : w'.heap[g]? = w.heap[g]?) : RowC w' g t vs := by
 obtain ⟨cur, h1, h2⟩ := h
 exact ⟨cur, e.trans h1, h2⟩
end
structure Fr2 (g1 g2 : Nat) (w w' : World) : Prop where
 os : w'.os = w.os
 tape : w'.tape = w.tape
 output : w'.output = w.output
 size : w.heap.size = w'.heap.size
 block : ∀ k, k ≠ g1 → k ≠ g2 → w'.heap[k]? = w.heap[k]?
theorem Fr2.refl (g1 g2 : Nat) (w : World) : Fr2 g1 g2 w w := ⟨rfl, rfl, rfl, rfl, fun _ _ _ => rfl⟩
theorem Fr2.trans {g1 g2 : Nat} {a b c : World} (h : Fr2 g1 g2 a b) (k : Fr2 g1 g2 b c) : Fr2 g1 g2 a c :=
 ⟨k.os.trans h.os, k.tape.trans h.tape, k.output.trans h.output, h.size.trans k.size, fun i h1 h2 => (k.block i h1 h2).trans (h.block i h1 h2)⟩
theorem Fr2.set_ {g1 g2 : Nat} {a w : World} (h : Fr2 g1 g2 a w) {p : Addr} (hp : p.block = g1 ∨ p.block = g2) (u : Value) : Fr2 g1 g2 a (w.setCell p u) :=
 ⟨h.os, h.tape, h.output, h.size.trans (by simp [World.setCell]), fun k h1 h2 => (Below.heap_setCell w p u k (by rintro rfl; rcases hp with hp | hp <;> omega)).trans (h.block k h1 h2)⟩
theorem Fr2.cell {g1 g2 : Nat} {a w : World} (h : Fr2 g1 g2 a w) {p : Addr} (h1 : p.block ≠ g1) (h2 : p.block ≠ g2) : w.cell? p = a.cell? p := World.cell?_of_block (h.block _ h1 h2)
def boolVs (s : List Bool) : List Value := s.map Value.bool
def SrchPost (w : World) (og sg : Nat) (r : KSt) (e : Ending) (w' : World) : Prop := e = .returned (.bool r.1) ∧ RowC w' og 3 (intVs r.2.1) ∧ RowC w' sg 4 (boolVs r.2.2) ∧ Fr2 og sg w w'
theorem intVs_get {o : List Int} {j : Nat} (h : j < o.length) : (intVs o)[j]? = some (.int .i64 (o.getD j 0)) := by simp [intVs, List.getD_eq_getElem?_getD, h]
theorem boolVs_get {o : List Bool} {j : Nat} (h : j < o.length) : (boolVs o)[j]? = some (.bool (o.getD j true)) := by simp [boolVs, List.getD_eq_getElem?_getD, h]
theorem intVs_set (o : List Int) (j : Nat) (x : Int) : (intVs o).set j (.int .i64 x) = intVs (o.set j x) := by simp [intVs]
theorem boolVs_set (o : List Bool) (j : Nat) (x : Bool) : (boolVs o).set j (.bool x) = boolVs (o.set j x) := by simp [boolVs]
structure SrI (tb : List (List Bool)) (n m f og sg row : Nat) (w wr : World) (res : KSt) (l : List Bool) (us j : Nat) (o : List Int) (s : List Bool) : Prop where
 ro : RowC wr og 3 (intVs o)
 rs : RowC wr sg 4 (boolVs s)
 fr : Fr2 og sg w wr
 ok : KOk n m o s
 en : EntOk tb o
 eq : res = srchL (srch tb f) row j (l.drop j) o s
 us : unseen s ≤ us
theorem srchL_nil (rec : List Int → List Bool → Nat → KSt) (row j : Nat) (o : List Int) (s : List Bool) : srchL rec row j [] o s = (false, o, s) := rfl
theorem srchL_cons (rec : List Int → List Bool → Nat → KSt) (row j : Nat) (l : List Bool) (o : List Int) (s : List Bool) (h : j < l.length) : srchL rec row j (l.drop j) o s =
   if (!l[j] || s.getD j true) = true then srchL rec row (j + 1) (l.drop (j + 1)) o s
   else if o.getD j 0 = -1 then (true, o.set j row, s.set j true)
   else match rec o (s.set j true) (o.getD j 0).toNat with
     | (true, o2, s2) => (true, o2.set j row, s2)
     | (false, o2, s2) => srchL rec row (j + 1) (l.drop (j + 1)) o2 s2 := by
 rw [List.drop_eq_getElem_cons h]; rfl

theorem msearch_step (tb : List (List Bool)) (n m f : Nat) (hn : tb.length = n) (hm : ∀ r ∈ tb, r.length = m) (hn9 : n ≤ 1000) (hm9 : m ≤ 1000) (tv : Value) (og sg : Nat) (hne : og ≠ sg) (S : Nat → Prop) (hS : ∀ b, S b → b ≠ og ∧ b ≠ sg)
   (ih : ∀ (o : List Int) (s : List Bool) (row : Nat) (oc sc : Nat) (w : World), row < n → KOk n m o s → EntOk tb o → unseen s < f → TabAt w S tv tb → RowC w og 3 (intVs o) → RowC w sg 4 (boolVs s) →
     Calls Tryz.prog 182 #[tv, .slice (some ⟨og, 0, none⟩) m oc, .slice (some ⟨sg, 0, none⟩) m sc, .int .i64 (row : Int)] w (SrchPost w og sg (srch tb f o s row)))
   (o : List Int) (s : List Bool) (row : Nat) (oc sc : Nat) (w : World) (hrow : row < n) (hko : KOk n m o s) (heo : EntOk tb o) (hus : unseen s < f + 1) (hT : TabAt w S tv tb) (hro : RowC w og 3 (intVs o)) (hrs : RowC w sg 4 (boolVs s)) :
   Calls Tryz.prog 182 #[tv, .slice (some ⟨og, 0, none⟩) m oc, .slice (some ⟨sg, 0, none⟩) m sc, .int .i64 (row : Int)] w (SrchPost w og sg (srch tb (f + 1) o s row)) := by
 have hrt : row < tb.length := by omega
 obtain ⟨TA, tn, tc, rfl, ltn, mtn⟩ := hT.form
 obtain ⟨adt, RA, rn, rc, rfl, hSt, qt, lrn, mrn, hB⟩ := hT.at_ hrt
 have hrm : tb[row].length = m := hm _ (List.getElem_mem hrt)
 obtain rfl : rn = m := by omega
 obtain rfl : tn = n := by omega
 have HE : Hid (srch tb (f + 1) o s row = srchL (srch tb f) row 0 (tb[row].drop 0) o s) := Lib.hid (by
   show srchL (srch tb f) row 0 (tb.getD row []) o s = _
   rw [List.getD_eq_getElem?_getD, List.getElem?_eq_getElem hrt]; rfl)
 have HSR := Lib.hid (srch_said hn hm f)
 have HIH := Lib.hid ih
 have HT := Lib.hid hT
 have HB := Lib.hid hB
 have HSS := Lib.hid hS
 have HKO := Lib.hid hko
 have HEO := Lib.hid heo
 have HRO := Lib.hid hro
 have HRS := Lib.hid hrs
 have HN := Lib.hid hn
 generalize hl : tb[row] = l at *
 have HL := Lib.hid lrn
 clear hT hB ih hS hn hm lrn hrm hl hrt hko heo hro hrs ltn
 generalize hres : srch tb (f + 1) o s row = res at *
 clear hres
 have hs1 := (HSS.out _ hSt)
 go_enter Tryz.func182, Tryz.ntmps182
 go_wp2
 go_loopw [16] (fun i wr => ∃ j : Nat, j ≤ rn ∧ i = .int .i64 j ∧ Hid (∃ o1 s1, SrI tb tn rn f og sg row w wr res l f j o1 s1)) (fun i _ => rn - (intOf i).toNat)
 case atStart => exact ⟨0, by omega, rfl, Lib.hid ⟨o, s, HRO.out, HRS.out, Fr2.refl _ _ _, HKO.out, HEO.out, HE.out, by omega⟩⟩
 case round =>
   obtain ⟨j, hj, rfl, HR⟩ := hrel
   obtain ⟨o1, s1, hI⟩ := HR.out
   by_cases hlt : j < rn
   · have e1 : j < l.length := by have := HL.out; omega
     obtain ⟨adr, rfl, hSr, qr⟩ := HB.out.at_ e1
     have hs2 := HSS.out _ hSr
     have qr' : wr.cell? (adr.add j) = some (.bool l[j]) := (hI.fr.cell (by rw [add_block]; exact hs2.1) (by rw [add_block]; exact hs2.2)).trans qr
     have jo : j < o1.length := by rw [hI.ok.ol]; exact hlt
     have js : j < s1.length := by rw [hI.ok.sl]; exact hlt
     have qs := hI.rs.cell (boolVs_get js)
     have fs := hI.rs.frozen j
     have heq := hI.eq
     rw [srchL_cons _ _ _ _ _ _ e1] at heq
     have HI := Lib.hid hI
     clear hI HR qr
     by_cases h1 : (!l[j] || s1.getD j true) = true
     · rw [if_pos h1] at heq
       have HQ := Lib.hid heq
       clear heq
       rcases hlj : l[j] with _ | _
       · rw [hlj] at qr'
         clear h1
         generalize s1.getD j true = sj at *
         go_wp2
         go_roundw
         case rel => exact ⟨j + 1, by omega, by go_num, Lib.hid ⟨o1, s1, HI.out.ro, HI.out.rs, HI.out.fr, HI.out.ok, HI.out.en, HQ.out, HI.out.us⟩⟩
         case measure => simp [intOf]; omega
       · rw [hlj] at qr' h1
         have hsj : s1.getD j true = true := by simpa using h1
         rw [hsj] at qs
         clear h1 hsj
         go_wp2
         go_roundw
         case rel => exact ⟨j + 1, by omega, by go_num, Lib.hid ⟨o1, s1, HI.out.ro, HI.out.rs, HI.out.fr, HI.out.ok, HI.out.en, HQ.out, HI.out.us⟩⟩
         case measure => simp [intOf]; omega
     · rw [if_neg h1] at heq
       have h1' : l[j] = true ∧ s1.getD j true = false := by revert h1; cases l[j] <;> cases s1.getD j true <;> simp
       obtain ⟨hlj, hsj⟩ := h1'
       rw [hlj] at qr'
       rw [hsj] at qs
       have hus2 := unseen_set hsj
       have hrs2 := HI.out.rs.set_ j (.bool true)
       rw [boolVs_set] at hrs2
       have hro2 := HI.out.ro.far (p := ⟨sg, j, none⟩) hne (.bool true)
       have qo := hro2.cell (intVs_get jo)
       have fo := hro2.frozen j
       have hfr2 := HI.out.fr.set_ (p := ⟨sg, j, none⟩) (.inr rfl) (.bool true)
       have hok2 : KOk tn rn o1 (s1.set j true) := ⟨HI.out.ok.ol, by simp [HI.out.ok.sl], HI.out.ok.ow⟩
       clear h1 hlj
       by_cases h2 : o1.getD j 0 = -1
       · rw [if_pos h2] at heq
         have HQ := Lib.hid heq
         rw [h2] at qo
         have hro3 := hro2.set_ j (.int .i64 (row : Int))
         rw [intVs_set] at hro3
         have hrs3 := hrs2.far (p := ⟨og, j, none⟩) (by dsimp only; omega) (.int .i64 (row : Int))
         have HF : Hid (SrchPost w og sg res (.returned (.bool true)) (((wr.setCell ⟨sg, j, none⟩ (.bool true)).setCell ⟨og, j, none⟩ (.int .i64 (row : Int))))) := Lib.hid (by rw [HQ.out]; exact ⟨rfl, hro3, hrs3, hfr2.set_ (p := ⟨og, j, none⟩) (.inl rfl) _⟩)
         clear heq h2 hro2 hrs2 hro3 hrs3 hfr2 hok2 hsj hus2
         go_wp2
         go_ret
         exact HF.out
       · rw [if_neg h2] at heq
         have hoj : 0 ≤ o1.getD j 0 ∧ o1.getD j 0 < tn := by
           have : o1.getD j 0 ∈ o1 := by simp [List.getD_eq_getElem?_getD, jo]
           rcases HI.out.ok.ow _ this with h | h
           · exact absurd h h2
           · exact h
         obtain ⟨r, hr⟩ := Int.eq_ofNat_of_zero_le hoj.1
         rw [hr] at heq qo h2
         have hr9 : r < tn := by omega
         have hTT : TabAt (wr.setCell ⟨sg, j, none⟩ (.bool true)) S (.slice (some adt) tn tc) tb := HT.out.keep (fun _ h => h) (fun p hp => hfr2.cell (HSS.out _ hp).1 (HSS.out _ hp).2)
         have CM : Hid (Calls Tryz.prog 182 #[.slice (some adt) tn tc, .slice (some ⟨og, 0, none⟩) rn oc, .slice (some ⟨sg, 0, none⟩) rn sc, .int .i64 (r : Int)] (wr.setCell ⟨sg, j, none⟩ (.bool true)) (SrchPost (wr.setCell ⟨sg, j, none⟩ (.bool true)) og sg (srch tb f o1 (s1.set j true) r))) := Lib.hid (HIH.out o1 (s1.set j true) r oc sc _ hr9 hok2 HI.out.en (by have := HI.out.us; omega) hTT hro2 hrs2)
         have hsaid := HSR.out o1 (s1.set j true) r hr9 hok2 HI.out.en (by have := HI.out.us; omega)
         have HSJ := Lib.hid hsj
         simp only [Int.toNat_natCast] at heq
         have HFR2 := Lib.hid hfr2
         have d1 : ((r : Int) == -1) = false := by simp
         have HUS := Lib.hid hus2
         clear h2 hro2 hrs2 hfr2 hok2 hsj hus2 hTT hoj hr
         rcases hrec : srch tb f o1 (s1.set j true) r with ⟨b, o2, s2⟩
         rw [hrec] at hsaid heq CM
         have HSD := Lib.hid hsaid
         clear hrec hsaid
         have jo2 : j < o2.length := by have := HSD.out.ok.ol; simp only at this; omega
         cases b with
         | true =>
           have HQ := Lib.hid (show res = (true, o2.set j row, s2) from heq)
           clear heq
           go_wp2_with (go_at_call 182; go_must (refine CM.out.mono ?_; rintro e w6 ⟨rfl, ro6, rs6, fr6⟩; (have c6 := ro6.cell (intVs_get jo2)); (have z6 := ro6.frozen j); (have HRO6 := Lib.hid ro6); (have HRS6 := Lib.hid rs6); (have HFR6 := Lib.hid fr6); clear ro6 rs6 fr6))
           go_ret
           show SrchPost w og sg res _ _
           rw [HQ.out]
           have hro3 := HRO6.out.set_ j (.int .i64 (row : Int))
           rw [intVs_set] at hro3
           exact ⟨rfl, hro3, HRS6.out.far (p := ⟨og, j, none⟩) (by dsimp only; omega) _, (HFR2.out.trans HFR6.out).set_ (p := ⟨og, j, none⟩) (.inl rfl) _⟩
         | false =>
           have HQ := Lib.hid (show res = srchL (srch tb f) row (j + 1) (l.drop (j + 1)) o2 s2 from heq)
           clear heq
           go_wp2_with (go_at_call 182; go_must (refine CM.out.mono ?_; rintro e w6 ⟨rfl, ro6, rs6, fr6⟩; (have HRO6 := Lib.hid ro6); (have HRS6 := Lib.hid rs6); (have HFR6 := Lib.hid fr6); clear ro6 rs6 fr6))
           go_roundw
           case rel =>
             have hno := HSD.out.no rfl
             simp only at hno
             refine ⟨j + 1, by omega, by go_num, Lib.hid ⟨o2, s2, HRO6.out, HRS6.out, HFR2.out.trans HFR6.out, HSD.out.ok, by rw [hno.1]; exact HI.out.en, HQ.out, ?_⟩⟩
             have h1 := HSD.out.less
             have h2 := HUS.out
             have h3 := HI.out.us
             simp only at h1
             omega
           case measure => simp [intOf]; omega
   · obtain rfl : j = rn := by omega
     have hq := hI.eq
     rw [List.drop_eq_nil_of_le (by have := HL.out; omega), srchL_nil] at hq
     have HF : Hid (SrchPost w og sg res (.returned (.bool false)) wr) := Lib.hid (by rw [hq]; exact ⟨rfl, hI.ro, hI.rs, hI.fr⟩)
     clear hq hI HR
     go_wp2
     go_ret
     exact HF.out
theorem msearch_any (tb : List (List Bool)) (n m : Nat) (hn : tb.length = n) (hm : ∀ r ∈ tb, r.length = m) (hn9 : n ≤ 1000) (hm9 : m ≤ 1000) (tv : Value) (og sg : Nat) (hne : og ≠ sg) (S : Nat → Prop) (hS : ∀ b, S b → b ≠ og ∧ b ≠ sg) (f : Nat) :
   ∀ (o : List Int) (s : List Bool) (row : Nat) (oc sc : Nat) (w : World), row < n → KOk n m o s → EntOk tb o → unseen s < f → TabAt w S tv tb → RowC w og 3 (intVs o) → RowC w sg 4 (boolVs s) →
     Calls Tryz.prog 182 #[tv, .slice (some ⟨og, 0, none⟩) m oc, .slice (some ⟨sg, 0, none⟩) m sc, .int .i64 (row : Int)] w (SrchPost w og sg (srch tb f o s row)) := by
 induction f with
 | zero => intro o s row oc sc w _ _ _ h; omega
 | succ f ih => exact fun o s row oc sc w h1 h2 h3 h4 h5 h6 h7 => msearch_step tb n m f hn hm hn9 hm9 tv og sg hne S hS ih o s row oc sc w h1 h2 h3 h4 h5 h6 h7
theorem made_one (z : Value) (hz : z.cells = #[z]) (n : Nat) : madeCells z.cells (n * 1) = (List.replicate n z).toArray := by
 rw [hz]
 apply Array.ext
 · rw [size_madeCells]; simp
 · intro i h1 h2
   simp [madeCells, Nat.mod_one]
theorem mkInts (m : Nat) (h9 : m ≤ 1000) (W : World) : (Instr.makeSlice 22 (.int .i64 (m : Int)) (.int .i64 (m : Int))).run Tryz.prog W = .ok (.slice (some ⟨W.heap.size, 0, none⟩) m m) (W.alloc (.cells (intVs (List.replicate m 0)).toArray 3)) := by
 obtain ⟨i0, hi, hz0, hz1, hz2⟩ := info_parts infoInt
 rw [run_makeSlice W 22 3 i0 _ Tryz.underlying22 hi hz0 .i64 .i64 m m (by omega) (by omega) (by rw [hz1]; simp; omega) (by rw [hz2]; omega) (by omega), hz1]
 simp only [Int.toNat_natCast]
 rw [made_one _ rfl]
 simp [intVs]
theorem infoBool : (Tryz.prog.info? 4).map (fun i => (i.zero, i.size, i.bytes)) = some (some (.bool false), 1, 1) := by kernel_rfl
theorem infoBools : (Tryz.prog.info? 103).map (fun i => (i.zero, i.size, i.bytes)) = some (some (.slice none 0 0), 1, 24) := by kernel_rfl
theorem mkBools (m : Nat) (h9 : m ≤ 1000) (W : World) : (Instr.makeSlice 103 (.int .i64 (m : Int)) (.int .i64 (m : Int))).run Tryz.prog W = .ok (.slice (some ⟨W.heap.size, 0, none⟩) m m) (W.alloc (.cells (boolVs (List.replicate m false)).toArray 4)) := by
 obtain ⟨i0, hi, hz0, hz1, hz2⟩ := info_parts infoBool
 rw [run_makeSlice W 103 4 i0 _ Tryz.underlying103 hi hz0 .i64 .i64 m m (by omega) (by omega) (by rw [hz1]; simp; omega) (by rw [hz2]; omega) (by omega), hz1]
 simp only [Int.toNat_natCast]
 rw [made_one _ rfl]
 simp [boolVs]
theorem mkRows (m : Nat) (h9 : m ≤ 1000) (W : World) : (Instr.makeSlice 102 (.int .i64 (m : Int)) (.int .i64 (m : Int))).run Tryz.prog W = .ok (.slice (some ⟨W.heap.size, 0, none⟩) m m) (W.alloc (.cells (List.replicate m (Value.slice none 0 0)).toArray 103)) := by
 obtain ⟨i0, hi, hz0, hz1, hz2⟩ := info_parts infoBools
 rw [run_makeSlice W 102 103 i0 _ Tryz.underlying102 hi hz0 .i64 .i64 m m (by omega) (by omega) (by rw [hz1]; simp; omega) (by rw [hz2]; omega) (by omega), hz1]
 simp only [Int.toNat_natCast]
 rw [made_one _ rfl]
theorem below_drewN {B : Nat} {a w : World} (h : Below B a w) (n : Nat) : Below B a (w.drewN n) := ⟨h.os, h.tape, h.output, h.size, h.block⟩
def RepPost (w : World) (m : Nat) (x : Int) (e : Ending) (w' : World) : Prop := e = .returned (.slice (some ⟨w.heap.size, 0, none⟩) m m) ∧ Blk w' w.heap.size 3 (intVs (List.replicate m x)).toArray ∧ Below w.heap.size w w'
def repL (m k : Nat) (x : Int) : List Value := intVs (List.replicate k x ++ List.replicate (m - k) 0)
theorem repL_length {m k : Nat} (h : k ≤ m) (x : Int) : (repL m k x).length = m := by simp [repL, intVs]; omega
theorem repL_splice {m k q : Nat} (h : k + q ≤ m) (x : Int) : splice (repL m k x) k (intVs (List.replicate q x)) = repL m (k + q) x := by
 unfold splice repL
 have e1 : (intVs (List.replicate k x ++ List.replicate (m - k) 0)).take k = intVs (List.replicate k x) := by simp [intVs]
 have e2 : (intVs (List.replicate q x)).length = q := by simp [intVs]
 have e3 : (intVs (List.replicate k x ++ List.replicate (m - k) 0)).drop (k + q) = intVs (List.replicate (m - (k + q)) 0) := by
   simp [intVs, List.drop_append]
   omega
 rw [e1, e2, e3]
 simp only [intVs, List.map_append, List.map_replicate, ← List.append_assoc, List.replicate_append_replicate]
theorem repL_get {m k j : Nat} (h : k ≤ m) (hj : j < k) (x : Int) : (repL m k x)[j]? = some (.int .i64 x) := by
 unfold repL intVs
 rw [List.getElem?_map, List.getElem?_append_left (by simpa using hj)]
 simp [hj]
theorem rep_get {q j : Nat} {x : Int} {u : Value} (h : (intVs (List.replicate q x))[j]? = some u) : j < q ∧ u = .int .i64 x := by
 have hj : j < q := by
   rcases Nat.lt_or_ge j q with h1 | h1
   · exact h1
   · rw [List.getElem?_eq_none (by simp [intVs]; omega)] at h; cases h
 refine ⟨hj, ?_⟩
 simp [intVs, hj] at h
 exact h.symm
theorem infoInt1 : (Tryz.prog.info? 3).map (·.size) = some 1 := by kernel_rfl
theorem rep_one (q : Nat) (x : Int) : ∀ u ∈ intVs (List.replicate q x), u.oneCell' = true := intVs_one _
theorem rep_len (q : Nat) (x : Int) : goInt (intVs (List.replicate q x)).length = .int .i64 (q : Int) := by simp [intVs, goInt]
theorem repeat_any (m : Nat) (h9 : m ≤ 1000) (x : Int) (g : Nat) (w : World) (hg : Blk w g 3 #[.int .i64 x]) : Calls Tryz.prog 181 #[.slice (some ⟨g, 0, none⟩) 1 1, .int .i64 (m : Int)] w (RepPost w m x) := by
 have ML : Hid (∀ W, Calls Tryz.prog 190 #[.int .u64 1, .int .u64 (m : Int)] W fun e w' => e = .returned (.tuple #[.int .u64 0, .int .u64 (m : Int)]) ∧ W = w') := Lib.hid (fun W => by
   have := Tryz.bits_Mul 1 m (by omega) (by omega) W
   rw [Nat.one_mul, Nat.div_eq_of_lt (by omega), Nat.mod_eq_of_lt (by omega)] at this
   exact this.mono fun _ _ h => ⟨h.1, h.2.symm⟩)
 have HG := Lib.hid hg
 have hgl := hg.lt
 clear hg
 have hmk := mkInts m h9 w
 have HB0 : Hid (Blk (w.alloc (.cells (intVs (List.replicate m 0)).toArray 3)) w.heap.size 3 (repL m 0 x).toArray) := Lib.hid (by have := Blk.new w 3 (intVs (List.replicate m 0)).toArray; simpa [repL] using this)
 by_cases hm0 : m = 0
 · subst hm0
   have hmk0 : (Instr.makeSlice 22 (.int .i64 0) (.int .i64 0)).run Tryz.prog w = .ok (.slice (some ⟨w.heap.size, 0, none⟩) 0 0) (w.alloc (.cells (intVs (List.replicate 0 0)).toArray 3)) := mkInts 0 (by omega) w
   clear hmk
   go_enter Tryz.func181, Tryz.ntmps181
   go_wp2_with (first
   | (go_at_call 190; go_must (refine (ML.out _).mono ?_; rintro e w' ⟨rfl, rfl⟩))
     | (with_reducible refine wpList_copy_nothing rfl (.tmp 31) (.tmp 32) 22 22 rfl 3 Tryz.underlying22 infoInt1 _ _ 0 0 1 1 rfl rfl rfl ?_))
   go_loopw [8] (fun i wr => i = .int .i64 0 ∧ Hid (Blk wr w.heap.size 3 (repL 0 0 x).toArray ∧ Below w.heap.size w wr)) (fun i _ => 0)
   case atStart => exact ⟨rfl, Lib.hid ⟨HB0.out, (Below.refl _ _).alloc (Nat.le_refl _) _⟩⟩
   case round =>
     obtain ⟨rfl, HR⟩ := hrel
     go_wp2
     go_ret
     exact ⟨rfl, by simpa [repL] using HR.out.1, HR.out.2⟩
 have hm1 : 1 ≤ m := by omega
 have d0 : ((m : Int) == 0) = false := by simp; omega
 have HB0h : Hid ((w.alloc (.cells (intVs (List.replicate m 0)).toArray 3)).heap[w.heap.size]? = some (.cells (repL m 0 x).toArray 3 (0, 0))) := Lib.hid HB0.out
 have HN1 : Hid ((intVs (List.replicate 1 x)).length = Nat.min 1 m) := Lib.hid (by show 1 = min 1 m; omega)
 have HC1 : Hid (∀ o (j : Nat) (v : Value), (intVs (List.replicate 1 x))[j]? = some v → (w.alloc o).cell? ((⟨g, 0, none⟩ : Addr).add j) = some v) := Lib.hid (fun o j v hv => by
   obtain ⟨hj, rfl⟩ := rep_get hv
   obtain rfl : j = 0 := by omega
   exact (HG.out.alloc o).cell 0)
 have HF1 : Hid (0 + (intVs (List.replicate 1 x)).length ≤ (repL m 0 x).length) := Lib.hid (by rw [repL_length (by omega)]; show 0 + 1 ≤ m; omega)
 have HB1 : Hid (∀ o, Below w.heap.size w (w.alloc o)) := Lib.hid (fun o => (Below.refl _ _).alloc (Nat.le_refl _) o)
 go_enter Tryz.func181, Tryz.ntmps181
 go_wp2_with (first
   | (go_at_call 190; go_must (refine (ML.out _).mono ?_; rintro e w' ⟨rfl, rfl⟩))
   | (with_reducible refine wpList_copy_splice rfl (.tmp 31) (.tmp 32) 22 22 rfl 3 Tryz.underlying22 infoInt1 (some ⟨w.heap.size, 0, none⟩) (some ⟨g, 0, none⟩) m m 1 1 rfl rfl w.heap.size 0 (repL m 0 x) 3 HB0h.out (intVs (List.replicate 1 x)) HN1.out (fun _ => ⟨rfl, _, rfl, HC1.out _⟩) HF1.out (rep_one _ _) w.heap.size w (HB1.out _) (Nat.le_refl _) ?_; intro w3 hb3 hw3; (rw [repL_splice (show 0 + 1 ≤ m by omega) x] at hb3); (have HB3 := Lib.hid hb3); (have HW3 := Lib.hid hw3); (rw [rep_len]); clear hb3 hw3))
 go_loopw [8] (fun i wr => ∃ k : Nat, 1 ≤ k ∧ k ≤ m ∧ i = .int .i64 k ∧ Hid (Blk wr w.heap.size 3 (repL m k x).toArray ∧ Below w.heap.size w wr)) (fun i _ => m - (intOf i).toNat)
 case atStart => exact ⟨1, by omega, by omega, rfl, Lib.hid ⟨HB3.out.out, HW3.out⟩⟩
 case round =>
   obtain ⟨k, hk1, hkm, rfl, HR⟩ := hrel
   obtain ⟨hb, hw⟩ := HR.out
   have HB := Lib.hid hb
   have HW := Lib.hid hw
   have hsz := hb.lt
   clear hb hw HR
   by_cases hlt : k < m
   · obtain ⟨q, hq⟩ : ∃ q, min k (m - k) = q := ⟨_, rfl⟩
     have hc1 : ∀ W, (Instr.slice 22 (.slice (some ⟨w.heap.size, 0, none⟩) m m) (some (.int .i64 (k : Int))) none none).run Tryz.prog W = .ok (.slice (some ⟨w.heap.size, k, none⟩) (m - k) (m - k)) W := fun W => by
       rw [cutI_l _ m m k (by omega) W]
       unfold sliced
       rw [if_neg (by omega)]
       simp [Addr.add]; omega
     have hc2 : ∀ W, (Instr.slice 22 (.slice (some ⟨w.heap.size, 0, none⟩) m m) none (some (.int .i64 (k : Int))) none).run Tryz.prog W = .ok (.slice (some ⟨w.heap.size, 0, none⟩) k m) W := fun W => by
       rw [run_slice_h W 22 _ m m (by kernel_rfl) .i64 (k : Int) (by omega) (by omega)]
       have : (sizeOf (Tryz.prog.elem 22)).run Tryz.prog W = .ok 1 W := by kernel_rfl
       rw [this]; simp [Result.andThen, sliced, Addr.add]
     have HN2 : Hid ((intVs (List.replicate q x)).length = Nat.min k (m - k)) := Lib.hid (by rw [← hq]; simp [intVs])
     have HC2 : Hid (∀ (j : Nat) (v : Value), (intVs (List.replicate q x))[j]? = some v → wr.drew.cell? ((⟨w.heap.size, 0, none⟩ : Addr).add j) = some v) := Lib.hid (fun j v hv => by
       obtain ⟨hj, rfl⟩ := rep_get hv
       have e : ((⟨w.heap.size, 0, none⟩ : Addr).add j) = ⟨w.heap.size, j, none⟩ := by
         unfold Addr.add
         by_cases h0 : j = 0 <;> simp [h0]
       rw [e]
       show wr.cell? _ = _
       rw [HB.out.cell j]
       have := repL_get (m := m) (k := k) (j := j) (by omega) (by omega) x
       simpa using this)
     have HF2 : Hid (k + (intVs (List.replicate q x)).length ≤ (repL m k x).length) := Lib.hid (by rw [repL_length (by omega)]; simp [intVs]; omega)
     have HSP : Hid (splice (repL m k x) k (intVs (List.replicate q x)) = repL m (k + q) x) := Lib.hid (repL_splice (by omega) x)
     have HBD : Hid (wr.drew.heap[w.heap.size]? = some (.cells (repL m k x).toArray 3 (0, 0))) := Lib.hid HB.out
     have HWD : Hid (Below w.heap.size w wr.drew) := Lib.hid (below_drewN HW.out 1)
     have hq1 : 1 ≤ q := by omega
     have hq2 : k + q ≤ m := by omega
     have dw : IntKind.i64.wrap ((k : Int) + (q : Int)) = (k : Int) + q := wI64 _ (by omega) (by omega)
     clear hq
     go_wp2_with fail
     go_region_law (refine step_copy_splice rfl (.tmp 41) (.tmp 44) 22 22 rfl 3 Tryz.underlying22 infoInt1 (some ⟨w.heap.size, k, none⟩) (some ⟨w.heap.size, 0, none⟩) (m - k) (m - k) k m (by simp [Act.eval, Act.put]) (by simp [Act.eval, Act.put]) w.heap.size k (repL m k x) 3 HBD.out (intVs (List.replicate q x)) HN2.out (fun _ => ⟨rfl, _, rfl, HC2.out⟩) HF2.out (rep_one _ _) w.heap.size w HWD.out (Nat.le_refl _) ?_; intro w4 hb4 hw4; (rw [HSP.out] at hb4); (have HB4 := Lib.hid hb4); (have HW4 := Lib.hid hw4); (rw [rep_len]); clear hb4 hw4)
     all_goals
       go_simp
       go_wp2
       go_roundw
       case rel => exact ⟨k + q, by omega, by omega, by go_num, Lib.hid ⟨HB4.out.out, HW4.out⟩⟩
       case measure => simp [intOf]; omega
   · obtain rfl : k = m := by omega
     go_wp2
     go_ret
     refine ⟨rfl, ?_, HW.out⟩
     have := HB.out
     unfold repL at this
     simpa using this
theorem own_RowC {w : World} {base : Nat} {e : TypeId} {A : Option Addr} {c n : Nat} {xs : List Value} (h : w.ownsRow base e 1 (.slice A n c) n xs) (hn : 0 < n) : ∃ g, A = some ⟨g, 0, none⟩ ∧ base ≤ g ∧ RowC w g e xs := by
 have hl := h.1
 rcases h.2 with ⟨hv, rfl⟩ | ⟨g, cap, cur, hv, hb, hg, h1, h2, h3, h4⟩
 · omega
 · injection hv with e1 e2 e3
   subst e1
   refine ⟨g, rfl, hb, cur, hg, by omega, fun j u hu => ?_⟩
   rw [← h4, List.getElem?_take] at hu
   split at hu
   · simpa using hu
   · cases hu
theorem boolVs_one (cs : List Bool) : ∀ u ∈ boolVs cs, u.oneCell' = true := by
 intro u hu
 obtain ⟨x, _, rfl⟩ := List.mem_map.1 hu
 rfl
def ClonePost (w : World) (m : Nat) (bs : List Bool) (e : Ending) (w' : World) : Prop := ∃ g c, e = .returned (.slice (some ⟨g, 0, none⟩) m c) ∧ RowC w' g 4 (boolVs bs) ∧ w.heap.size ≤ g ∧ Bw w w'
theorem clone_any (m : Nat) (hm : 0 < m) (h9 : m ≤ 1000) (bs : List Bool) (hbs : bs.length = m) (ug c : Nat) (w : World) (hu : RowC w ug 4 (boolVs bs)) : Calls Tryz.prog 183 #[.slice (some ⟨ug, 0, none⟩) m c] w (ClonePost w m bs) := by
 obtain ⟨i0, hi, hz0, hz1, hz2⟩ := info_parts infoBool
 have hl : (boolVs bs).length = m := by simp [boolVs, hbs]
 have HR : Hid (∀ o, Reads (w.alloc o) w.heap.size 1 (some ⟨ug, 0, none⟩) m (boolVs bs)) := Lib.hid (fun o => ⟨by rw [hl]; omega, fun _ => ⟨_, rfl, hu.lt, fun j u h => by
   have e : ((⟨ug, 0, none⟩ : Addr).add j) = ⟨ug, j, none⟩ := by
     unfold Addr.add
     by_cases h0 : j = 0 <;> simp [h0]
   rw [e, World.cell?_alloc_lt w o _ hu.lt]
   exact hu.cell h⟩⟩)
 clear hu hbs
 have heq : (binOp .eql 103 (.slice (some ⟨ug, 0, none⟩) m c) (.slice none 0 0)).run Tryz.prog w = .ok (.bool false) w := Lib.run_eql_slice_nil w 103 4 (some ⟨ug, 0, none⟩) m c 0 0 Tryz.underlying103
 go_enter Tryz.func183, Tryz.ntmps183
 go_wp2_with (at_builtin; go_must (refine wpList_append_any _ rfl _ _ 103 rfl w.heap.size 4 i0 _ 1 1 Tryz.underlying103 hi hz0 hz1 hz2 rfl (by decide) (.slice (some ⟨w.heap.size, 0, none⟩) 0 0) 0 [] rfl (own_new w _ _ _ rfl rfl) w.heap.size (some ⟨ug, 0, none⟩) m c (boolVs bs) rfl (HR.out _) (boolVs_one _) (by unfold maxLen; omega) (by omega) (by simp) ?_; intro v7 w7 hown7 hgr7 hl7; obtain ⟨A7, c7, rfl⟩ := own_form hown7; (have HO7 := Lib.hid hown7); (have HG7 := Lib.hid hgr7); clear hown7 hgr7 hl7))
 go_ret
 have ho := HO7.out
 rw [Nat.zero_add, List.nil_append] at ho
 obtain ⟨g, rfl, hb, hrow⟩ := own_RowC ho hm
 refine ⟨g, c7, rfl, hrow, hb, ?_⟩
 exact Below.trans ((Bw.refl w).alloc _) (below_own (B := w.heap.size) (Below.refl _ _) (own_new w 4 #[] 1 (n := 0) (xs := []) rfl rfl) HG7.out (by simp))
theorem mostL_step (tb : List (List Bool)) (m k row : Nat) (o : List Int) : mostL tb m (k + 1) row o = (if (srch tb (m + 1) o (List.replicate m false) row).1 then 1 else 0) + mostL tb m k (row + 1) (srch tb (m + 1) o (List.replicate m false) row).2.1 := rfl
theorem mmost_pos (tb : List (List Bool)) (n m : Nat) (hn : tb.length = n) (hm : ∀ r ∈ tb, r.length = m) (hn9 : n ≤ 1000) (hm0 : 0 < m) (hm9 : m ≤ 1000) (tv : Value) (ug uc : Nat) (w : World) (hT : TabAt w (· < w.heap.size) tv tb) (hu : RowC w ug 4 (boolVs (List.replicate m false))) :
   Calls Tryz.prog 173 #[tv, .int .i64 0, .slice (some ⟨ug, 0, none⟩) m uc] w (NumPost w (mostP tb m)) := by
 obtain ⟨TA, tn, tc, rfl, ltn, mtn⟩ := hT.form
 obtain rfl : tn = n := by omega
 have HT := Lib.hid hT
 have HU := Lib.hid hu
 have HSAID := Lib.hid (srch_said (n := tn) hn hm (m + 1))
 have HSR : Hid (∀ (og sg : Nat) (o : List Int) (row oc sc : Nat) (W : World), w.heap.size ≤ og → w.heap.size ≤ sg → og ≠ sg → row < tn → KOk tn m o (List.replicate m false) → EntOk tb o → Below w.heap.size w W → RowC W og 3 (intVs o) → RowC W sg 4 (boolVs (List.replicate m false)) →
     Calls Tryz.prog 182 #[.slice TA tn tc, .slice (some ⟨og, 0, none⟩) m oc, .slice (some ⟨sg, 0, none⟩) m sc, .int .i64 (row : Int)] W (SrchPost W og sg (srch tb (m + 1) o (List.replicate m false) row))) := Lib.hid (fun og sg o row oc sc W h1 h2 h3 h4 h5 h6 h7 h8 h9 =>
   msearch_any tb tn m hn hm hn9 hm9 _ og sg h3 (· < w.heap.size) (fun b hb => ⟨by omega, by omega⟩) (m + 1) o _ row oc sc W h4 h5 h6 (by simp [unseen, List.countP_replicate]) (HT.out.keep (fun _ h => h) (fun p hp => h7.cell hp)) h8 h9)
 have HMP : Hid (mostP tb m = mostL tb m tn 0 (List.replicate m (-1))) := Lib.hid (by unfold mostP; rw [hn])
 have HRP : Hid (∀ o, o = .cells #[.int .i64 (-1)] 3 → Calls Tryz.prog 181 #[.slice (some ⟨w.heap.size, 0, none⟩) 1 1, .int .i64 (m : Int)] (w.alloc o) (RepPost (w.alloc o) m (-1))) := Lib.hid (fun o ho => by subst ho; exact repeat_any m hm9 (-1) w.heap.size _ (Blk.new _ _ _))
 have hsz1 : (w.alloc (.cells #[.int .i64 (-1)] 3)).heap.size = w.heap.size + 1 := by simp
 clear hT hu hn hm ltn
 generalize hmp : mostP tb m = mp at *
 clear hmp
 go_enter Tryz.func173, Tryz.ntmps173
 go_wp2_with (go_at_call 181; go_must (refine (HRP.out _ rfl).mono ?_; rintro e w3 ⟨rfl, hb3, hg3⟩; (have HB3 := Lib.hid hb3); (have HG3 := Lib.hid hg3); clear hb3 hg3; simp only [World.size_alloc]))
 go_loopw [8, 9] (fun s8 s9 wr => ∃ (cnt row : Nat), row ≤ tn ∧ cnt ≤ row ∧ s8 = .int .i64 cnt ∧ s9 = .int .i64 row ∧ Hid (∃ o, RowC wr (w.heap.size + 1) 3 (intVs o) ∧ Below w.heap.size w wr ∧ KOk tn m o (List.replicate m false) ∧ EntOk tb o ∧ mp = cnt + mostL tb m (tn - row) row o)) (fun _ s9 _ => tn - (intOf s9).toNat)
 case atStart =>
   refine ⟨0, 0, by omega, by omega, rfl, rfl, Lib.hid ⟨List.replicate m (-1), ?_, ?_, ⟨by simp, by simp, fun x hx => .inl (List.mem_replicate.1 hx).2⟩, fun j hj => .inl (by simp at hj; simp [List.getD_eq_getElem?_getD, hj]), by rw [HMP.out]; simp⟩⟩
   · have := HB3.out
     rw [hsz1] at this
     exact ⟨_, this, by simp [intVs], fun j u hu => by simpa using hu⟩
   · have := HG3.out
     exact Below.trans ((Bw.refl w).alloc _) (this.mono (by simp))
 case round =>
   obtain ⟨cnt, row, hrow, hcnt, rfl, rfl, HR⟩ := hrel
   obtain ⟨o, hro, hbw, hko, heo, hmp⟩ := HR.out
   have hl1 := hro.lt
   have HRO := Lib.hid hro
   have HBW := Lib.hid hbw
   have HKO := Lib.hid hko
   have HEO := Lib.hid heo
   have HM := Lib.hid hmp
   clear hro hbw hko heo hmp HR
   by_cases hlt : row < tn
   · have CL : Hid (Calls Tryz.prog 183 #[.slice (some ⟨ug, 0, none⟩) m uc] wr (ClonePost wr m (List.replicate m false))) := Lib.hid (clone_any m hm0 hm9 _ (by simp) ug uc wr (HU.out.block (HBW.out.block _ HU.out.lt)))
     have hsaid := HSAID.out o (List.replicate m false) row hlt HKO.out HEO.out (by simp [unseen, List.countP_replicate])
     have HM2 : Hid (mp = cnt + ((if (srch tb (m + 1) o (List.replicate m false) row).1 then 1 else 0) + mostL tb m (tn - (row + 1)) (row + 1) (srch tb (m + 1) o (List.replicate m false) row).2.1)) := Lib.hid (by
       rw [HM.out, show tn - row = (tn - (row + 1)) + 1 by omega, mostL_step])
     rcases hrec : srch tb (m + 1) o (List.replicate m false) row with ⟨b, o2, s2⟩
     have SR : Hid (∀ sg sc W, wr.heap.size ≤ sg → Bw wr W → RowC W sg 4 (boolVs (List.replicate m false)) → Calls Tryz.prog 182 #[.slice TA tn tc, .slice (some ⟨w.heap.size + 1, 0, none⟩) m m, .slice (some ⟨sg, 0, none⟩) m sc, .int .i64 (row : Int)] W (SrchPost W (w.heap.size + 1) sg (b, o2, s2))) := Lib.hid (fun sg sc W h1 h2 h3 => by
       rw [← hrec]
       exact HSR.out _ sg o row m sc W (by omega) (by omega) (by omega) hlt HKO.out HEO.out (Below.trans HBW.out (h2.b.mono (by omega))) (HRO.out.block (h2.b.block _ hl1)) h3)
     rw [hrec] at hsaid HM2
     have HSD := Lib.hid hsaid
     clear hsaid hrec
     have HNX : Hid (KOk tn m o2 (List.replicate m false) ∧ EntOk tb o2) := Lib.hid (by
       have h1 := HSD.out.ok
       refine ⟨⟨h1.ol, by simp, h1.ow⟩, ?_⟩
       cases b with
       | true => exact (HSD.out.yes rfl).1
       | false => have := (HSD.out.no rfl).1; simp only at this; rw [this]; exact HEO.out)
     cases b with
     | true =>
       have HM3 : Hid (mp = (cnt + 1 : Nat) + mostL tb m (tn - (row + 1)) (row + 1) o2) := Lib.hid (by have := HM2.out; simp only [if_true] at this; rw [this]; omega)
       go_wp2_with (first
         | (go_at_call 183; go_must (refine CL.out.mono ?_; rintro e w6 ⟨sg, sc, rfl, hc6, hsg, hg6⟩; (have HC6 := Lib.hid hc6); (have HG6 := Lib.hid hg6); (have SR2 := Lib.hid (SR.out sg sc w6 hsg hg6 hc6)); clear hc6 hg6))
         | (go_at_call 182; go_must (refine SR2.out.mono ?_; rintro e w7 ⟨rfl, ro7, rs7, fr7⟩; (have HRO7 := Lib.hid ro7); (have HFR7 := Lib.hid fr7); clear ro7 rs7 fr7)))
       go_roundw
       case rel =>
         refine ⟨cnt + 1, row + 1, by omega, by omega, by go_num, by go_num, Lib.hid ⟨o2, HRO7.out, ?_, HNX.out.1, HNX.out.2, HM3.out⟩⟩
         have h1 : Below w.heap.size w w6 := Below.trans HBW.out (HG6.out.b.mono (by omega))
         have f7 := HFR7.out
         exact Below.trans h1 ⟨f7.os, f7.tape, f7.output, by have := f7.size; omega, fun k hk => f7.block k (by omega) (by omega)⟩
       case measure => simp [intOf]; omega
     | false =>
       have HM3 : Hid (mp = cnt + mostL tb m (tn - (row + 1)) (row + 1) o2) := Lib.hid (by have := HM2.out; simp at this; rw [this])
       go_wp2_with (first
         | (go_at_call 183; go_must (refine CL.out.mono ?_; rintro e w6 ⟨sg, sc, rfl, hc6, hsg, hg6⟩; (have HC6 := Lib.hid hc6); (have HG6 := Lib.hid hg6); (have SR2 := Lib.hid (SR.out sg sc w6 hsg hg6 hc6)); clear hc6 hg6))
         | (go_at_call 182; go_must (refine SR2.out.mono ?_; rintro e w7 ⟨rfl, ro7, rs7, fr7⟩; (have HRO7 := Lib.hid ro7); (have HFR7 := Lib.hid fr7); clear ro7 rs7 fr7)))
       go_roundw
       case rel =>
         refine ⟨cnt, row + 1, by omega, by omega, rfl, by go_num, Lib.hid ⟨o2, HRO7.out, ?_, HNX.out.1, HNX.out.2, HM3.out⟩⟩
         have h1 : Below w.heap.size w w6 := Below.trans HBW.out (HG6.out.b.mono (by omega))
         have f7 := HFR7.out
         exact Below.trans h1 ⟨f7.os, f7.tape, f7.output, by have := f7.size; omega, fun k hk => f7.block k (by omega) (by omega)⟩
       case measure => simp [intOf]; omega
   · obtain rfl : row = tn := by omega
     have HF : Hid (mp = cnt) := Lib.hid (by rw [HM.out]; simp [mostL])
     go_wp2
     go_ret
     exact ⟨ret_int (by rw [HF.out]), HBW.out⟩

/- tables without columns -/
theorem srch_zero {tb : List (List Bool)} (hm : ∀ r ∈ tb, r.length = 0) (f row : Nat) (o : List Int) (s : List Bool) (hr : row < tb.length) : srch tb (f + 1) o s row = (false, o, s) := by
 have : tb.getD row [] = [] := by
   rw [List.getD_eq_getElem?_getD, List.getElem?_eq_getElem hr]
   exact List.eq_nil_of_length_eq_zero (hm _ (List.getElem_mem hr))
 show srchL _ _ _ (tb.getD row []) _ _ = _
 rw [this]; rfl
theorem mostP_zero {tb : List (List Bool)} (hm : ∀ r ∈ tb, r.length = 0) : mostP tb 0 = 0 := by
 have key : ∀ k row o, row + k = tb.length → mostL tb 0 k row o = 0 := by
   intro k
   induction k with
   | zero => intro row o _; rfl
   | succ k ih =>
     intro row o h
     rw [mostL_step, srch_zero hm 0 row o _ (by omega)]
     simp only [Bool.false_eq_true, if_false]
     rw [ih (row + 1) o (by omega)]
 exact key _ 0 _ (by omega)
theorem msearch_zero (tb : List (List Bool)) (n : Nat) (hn : tb.length = n) (hm : ∀ r ∈ tb, r.length = 0) (tv o s : Value) (row : Nat) (w : World) (hrow : row < n) (S : Nat → Prop) (hT : TabAt w S tv tb) :
   Calls Tryz.prog 182 #[tv, o, s, .int .i64 (row : Int)] w fun e w' => e = .returned (.bool false) ∧ w = w' := by
 have hrt : row < tb.length := by omega
 obtain ⟨TA, tn, tc, rfl, ltn, mtn⟩ := hT.form
 obtain ⟨adt, RA, rn, rc, rfl, hSt, qt, lrn, mrn, hB⟩ := hT.at_ hrt
 obtain rfl : rn = 0 := by rw [← lrn]; exact hm _ (List.getElem_mem hrt)
 obtain rfl : tn = n := by omega
 clear hT hB lrn hrt hm hn ltn
 go_enter Tryz.func182, Tryz.ntmps182
 go_wp2
 go_loop [16] (fun i => i = .int .i64 0) (fun i => 0)
 case atStart => exact rfl
 case round =>
   subst hrel
   go_wp2
   go_ret
   exact ⟨rfl, rfl⟩
theorem mmost_zero (tb : List (List Bool)) (n : Nat) (hn : tb.length = n) (hm : ∀ r ∈ tb, r.length = 0) (hn9 : n ≤ 1000) (tv : Value) (ug uc : Nat) (w : World) (hT : TabAt w (· < w.heap.size) tv tb) :
   Calls Tryz.prog 173 #[tv, .int .i64 0, .slice (some ⟨ug, 0, none⟩) 0 uc] w (NumPost w 0) := by
 obtain ⟨TA, tn, tc, rfl, ltn, mtn⟩ := hT.form
 obtain rfl : tn = n := by omega
 have HT := Lib.hid hT
 have HRP : Hid (∀ o, o = .cells #[.int .i64 (-1)] 3 → Calls Tryz.prog 181 #[.slice (some ⟨w.heap.size, 0, none⟩) 1 1, .int .i64 0] (w.alloc o) (RepPost (w.alloc o) 0 (-1))) := Lib.hid (fun o ho => by subst ho; exact repeat_any 0 (by omega) (-1) w.heap.size _ (Blk.new _ _ _))
 have SR : Hid (∀ o s row W, row < tn → Below w.heap.size w W → Calls Tryz.prog 182 #[.slice TA tn tc, o, s, .int .i64 (row : Int)] W fun e w' => e = .returned (.bool false) ∧ W = w') := Lib.hid (fun o s row W h1 h2 => msearch_zero tb tn hn hm _ o s row W h1 (· < w.heap.size) (HT.out.keep (fun _ h => h) (fun p hp => h2.cell hp)))
 have CL : Hid (∀ W, Calls Tryz.prog 183 #[.slice (some ⟨ug, 0, none⟩) 0 uc] W fun e w' => ∃ s, e = .returned s ∧ Bw W w') := Lib.hid (fun W => by
   obtain ⟨i0, hi, hz0, hz1, hz2⟩ := info_parts infoBool
   have heq : (binOp .eql 103 (.slice (some ⟨ug, 0, none⟩) 0 uc) (.slice none 0 0)).run Tryz.prog W = .ok (.bool false) W := Lib.run_eql_slice_nil W 103 4 (some ⟨ug, 0, none⟩) 0 uc 0 0 Tryz.underlying103
   have HRD : Hid (∀ o, Reads (W.alloc o) W.heap.size 1 (some ⟨ug, 0, none⟩) 0 []) := Lib.hid (fun o => ⟨rfl, fun h => absurd h (by omega)⟩)
   clear hT HRP SR
   go_enter Tryz.func183, Tryz.ntmps183
   go_wp2_with (at_builtin; go_must (refine wpList_append_any _ rfl _ _ 103 rfl W.heap.size 4 i0 _ 1 1 Tryz.underlying103 hi hz0 hz1 hz2 rfl (by decide) (.slice (some ⟨W.heap.size, 0, none⟩) 0 0) 0 [] rfl (own_new W _ _ _ rfl rfl) W.heap.size (some ⟨ug, 0, none⟩) 0 uc [] rfl (HRD.out _) (by simp) (by unfold maxLen; omega) (by omega) (by simp) ?_; intro v7 w7 hown7 hgr7 hl7; obtain ⟨A7, c7, rfl⟩ := own_form hown7; (have HO7 := Lib.hid hown7); (have HG7 := Lib.hid hgr7); clear hown7 hgr7 hl7))
   go_ret
   exact ⟨_, rfl, Below.trans ((Bw.refl W).alloc _) (below_own (B := W.heap.size) (Below.refl _ _) (own_new W 4 #[] 1 (n := 0) (xs := []) rfl rfl) HG7.out (by simp))⟩)
 clear hT hn hm ltn
 go_enter Tryz.func173, Tryz.ntmps173
 go_wp2_with (go_at_call 181; go_must (refine (HRP.out _ rfl).mono ?_; rintro e w3 ⟨rfl, hb3, hg3⟩; (have HG3 := Lib.hid hg3); clear hb3 hg3; simp only [World.size_alloc]))
 go_loopw [8, 9] (fun s8 s9 wr => ∃ (row : Nat), row ≤ tn ∧ s8 = .int .i64 0 ∧ s9 = .int .i64 row ∧ Hid (Below w.heap.size w wr)) (fun _ s9 _ => tn - (intOf s9).toNat)
 case atStart => exact ⟨0, by omega, rfl, rfl, Lib.hid (Below.trans ((Bw.refl w).alloc _) (HG3.out.mono (by simp)))⟩
 case round =>
   obtain ⟨row, hrow, rfl, rfl, HR⟩ := hrel
   by_cases hlt : row < tn
   · go_wp2_with (first
       | (go_at_call 183; go_must (refine (CL.out _).mono ?_; rintro e w6 ⟨s6, rfl, hg6⟩; (have HG6 : Hid (Below w.heap.size w w6) := Lib.hid (Below.trans HR.out (hg6.b.mono (by have := HR.out.size; omega)))); clear hg6))
       | (go_at_call 182; go_must (refine (SR.out _ _ row _ hlt HG6.out).mono ?_; rintro e w7 ⟨rfl, rfl⟩)))
     go_roundw
     case rel => exact ⟨row + 1, by omega, rfl, by go_num, Lib.hid HG6.out⟩
     case measure => simp [intOf]; omega
   · obtain rfl : row = tn := by omega
     go_wp2
     go_ret
     exact ⟨rfl, HR.out⟩
/- Valid, columns, Most -/
theorem mvalid_any (tb : List (List Bool)) (n m : Nat) (hn : tb.length = n) (hm : ∀ r ∈ tb, r.length = m) (hn9 : n ≤ 12) (hm9 : m ≤ 12) (tv : Value) (S : Nat → Prop) (w : World) (hT : TabAt w S tv tb) :
   Calls Tryz.prog 172 #[tv] w fun e w' => e = .returned (.bool true) ∧ w = w' := by
 obtain ⟨TA, tn, tc, rfl, ltn, mtn⟩ := hT.form
 obtain rfl : tn = n := by omega
 have HT := Lib.hid hT
 have HM := Lib.hid hm
 have HN := Lib.hid hn
 have d0 : decide ((12 : Int) < (tn : Int)) = false := by simp; omega
 clear hT hm hn ltn
 go_enter Tryz.func172, Tryz.ntmps172
 go_wp2
 go_loop [10] (fun i => ∃ k : Nat, k ≤ tn ∧ i = .int .i64 k) (fun i => tn - (intOf i).toNat)
 case atStart => exact ⟨0, by omega, rfl⟩
 case round =>
   obtain ⟨k, hk, rfl⟩ := hrel
   by_cases hlt : k < tn
   · obtain ⟨ad, RA, rn, rc, rfl, _, q0, lrn, mrn, _⟩ := HT.out.at_ (show k < tb.length by rw [HN.out]; exact hlt)
     obtain ⟨ad', RA', rn', rc', e', _, q1, lrn', _, _⟩ := HT.out.at_ (show 0 < tb.length by rw [HN.out]; omega)
     obtain rfl : ad = ad' := Option.some.inj e'
     have e0 : ad.add 0 = ad := by unfold Addr.add; simp
     rw [e0] at q1
     obtain rfl : rn = m := by rw [← lrn]; exact HM.out _ (List.getElem_mem _)
     obtain rfl : rn' = rn := by rw [← lrn']; exact HM.out _ (List.getElem_mem _)
     have d1 : decide ((12 : Int) < (rn' : Int)) = false := by simp; omega
     have d2 : 0 < tn := by omega
     clear lrn lrn' e0 e'
     go_wp2
     go_round
     case rel => exact ⟨k + 1, by omega, by go_num⟩
     case measure => simp [intOf]; omega
   · obtain rfl : k = tn := by omega
     go_wp2
     go_ret
     exact ⟨rfl, rfl⟩
theorem mcolumns_any (tb : List (List Bool)) (n m : Nat) (hn : tb.length = n) (hn9 : n ≤ 12) (hm : ∀ r ∈ tb, r.length = m) (hm9 : m ≤ 12) (tv : Value) (S : Nat → Prop) (w : World) (hT : TabAt w S tv tb) :
   Calls Tryz.prog 174 #[tv] w fun e w' => e = .returned (.int .i64 ((if n = 0 then 0 else m : Nat) : Int)) ∧ w = w' := by
 obtain ⟨TA, tn, tc, rfl, ltn, mtn⟩ := hT.form
 obtain rfl : tn = n := by omega
 by_cases h0 : tn = 0
 · subst h0
   clear hT hm hn ltn
   go_enter Tryz.func174, Tryz.ntmps174
   go_wp2
   go_ret
   exact ⟨rfl, rfl⟩
 · obtain ⟨ad', RA', rn', rc', rfl, hs9, q1, lrn', hr9, hb9⟩ := hT.at_ (show 0 < tb.length by omega)
   clear hb9
   have e0 : ad'.add 0 = ad' := by unfold Addr.add; simp
   rw [e0] at q1
   obtain rfl : rn' = m := by rw [← lrn']; exact hm _ (List.getElem_mem _)
   have d2 : 0 < tn := by omega
   clear hT hm hn ltn lrn' e0
   go_enter Tryz.func174, Tryz.ntmps174
   go_wp2
   go_ret
   exact ⟨by simp [h0], rfl⟩
theorem mMost_any (tb : List (List Bool)) (n m : Nat) (hn : tb.length = n) (hm : ∀ r ∈ tb, r.length = m) (hn9 : n ≤ 12) (hm9 : m ≤ 12) (tv : Value) (w : World) (hT : TabAt w (· < w.heap.size) tv tb) :
   Calls Tryz.prog 160 #[tv] w fun e w' => e = .returned (.tuple #[.int .i64 (mostP tb m), .bool true]) ∧ Bw w w' := by
 obtain ⟨TA, tn, tc, rfl, ltn, mtn⟩ := hT.form
 obtain rfl : tn = n := by omega
 have VA := Lib.hid (mvalid_any tb tn m hn hm hn9 hm9 _ _ w hT)
 have CO := Lib.hid (mcolumns_any tb tn m hn hn9 hm hm9 _ _ w hT)
 have hTA : ∀ o, TabAt (w.alloc o) (· < (w.alloc o).heap.size) (.slice TA tn tc) tb := fun o => hT.keep (fun b hb => by simp; omega) (fun p hp => World.cell?_alloc_lt w o p hp)
 have MO : Hid (∀ k, k = (if tn = 0 then 0 else m : Nat) → ∀ o, o = .cells (boolVs (List.replicate k false)).toArray 4 → Calls Tryz.prog 173 #[.slice TA tn tc, .int .i64 0, .slice (some ⟨w.heap.size, 0, none⟩) k k] (w.alloc o) (NumPost (w.alloc o) (mostP tb m))) := Lib.hid (fun k hk o ho => by
   subst ho
   by_cases h0 : tn = 0
   · rw [if_pos h0] at hk
     subst hk
     obtain rfl : tb = [] := List.eq_nil_of_length_eq_zero (by omega)
     have := mmost_zero [] tn hn (by simp) (by omega) _ w.heap.size 0 _ (hTA (.cells (boolVs (List.replicate 0 false)).toArray 4))
     exact this
   · rw [if_neg h0] at hk
     subst hk
     by_cases hk0 : k = 0
     · subst hk0
       have := mmost_zero tb tn hn hm (by omega) _ w.heap.size 0 _ (hTA (.cells (boolVs (List.replicate 0 false)).toArray 4))
       have e : ((mostP tb 0 : Nat) : Int) = 0 := by rw [mostP_zero hm]; rfl
       rw [e]; exact this
     · exact mmost_pos tb tn k hn hm (by omega) (by omega) (by omega) _ w.heap.size k _ (hTA _) ⟨_, Blk.new _ _ _, by simp, fun j u h => by simpa using h⟩)
 have hkk : (if tn = 0 then 0 else m : Nat) ≤ 12 := by split <;> omega
 generalize hkq : (if tn = 0 then 0 else m : Nat) = k at *
 clear hT hn hm ltn hTA
 have HKQ := Lib.hid hkq
 have hmk := mkBools k (by omega) w
 have MO2 := Lib.hid (fun o => MO.out k rfl o)
 clear hkq MO
 generalize mostP tb m = mp at *
 go_enter Tryz.func160, Tryz.ntmps160
 go_wp2_with (first
   | (go_at_call 172; go_must (refine VA.out.mono ?_; rintro e w' ⟨rfl, rfl⟩))
   | (go_at_call 174; go_must (refine CO.out.mono ?_; rintro e w' ⟨rfl, rfl⟩))
   | (go_at_call 173; go_must (refine (MO2.out _ rfl).mono ?_; rintro e w6 ⟨rfl, hg6⟩; (have HG6 := Lib.hid hg6); clear hg6)))
 go_ret2
 exact ⟨rfl, ((Bw.refl _).alloc _).trans HG6.out⟩
end Go.Proofs.YtbmheekaclmibaaGreat
