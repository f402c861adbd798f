/- Part of a proof of basisExact_holds. -/
import Derived.Test.YtbmheekaclmibaaGreatXMatAQ
import Derived.Test.YtbmheekaclmibaaGreatXRefCQ
import Derived.Test.YtbmheekaclmibaaGreatXPriAQ
set_option maxRecDepth 100000
set_option maxHeartbeats 16000000
namespace Go.Proofs.YtbmheekaclmibaaGreat
open Go.RowKit
set_option linter.unusedSimpArgs false
set_option linter.unusedVariables false
theorem r3try_step (tb : List (List Bool)) (n m f : Nat) (hn : tb.length = n) (hm : ∀ r ∈ tb, r.length = m) (hn9 : n ≤ 1000) (hm9 : m ≤ 1000) (tv : Value) (og sg : Nat) (hne : og ≠ sg) (S : Nat → Prop) (hS : ∀ b, S b → b ≠ og ∧ b ≠ sg)
   (ih : ∀ (o : List Int) (s : List Bool) (row : Nat) (oc sc : Nat) (w : World), row < n → KOk n m o s → EntOk tb o → unseen s < f → TabAt w S tv tb → RowC w og 3 (intVs o) → RowC w sg 4 (boolVs s) →
     Calls Tryz.prog 155 #[tv, .int .i64 (row : Int), .slice (some ⟨sg, 0, none⟩) m sc, .slice (some ⟨og, 0, none⟩) m oc] w (SrchPost w og sg (srch tb f o s row)))
   (o : List Int) (s : List Bool) (row : Nat) (oc sc : Nat) (w : World) (hrow : row < n) (hko : KOk n m o s) (heo : EntOk tb o) (hus : unseen s < f + 1) (hT : TabAt w S tv tb) (hro : RowC w og 3 (intVs o)) (hrs : RowC w sg 4 (boolVs s)) :
   Calls Tryz.prog 155 #[tv, .int .i64 (row : Int), .slice (some ⟨sg, 0, none⟩) m sc, .slice (some ⟨og, 0, none⟩) m oc] w (SrchPost w og sg (srch tb (f + 1) o s row)) := by
 have hrt : row < tb.length := by omega
 obtain ⟨TA, tn, tc, rfl, ltn, mtn⟩ := hT.form
 obtain ⟨adt, RA, rn, rc, rfl, hSt, qt, lrn, mrn, hB⟩ := hT.at_ hrt
 have hrm : tb[row].length = m := hm _ (List.getElem_mem hrt)
 obtain rfl : rn = m := by omega
 obtain rfl : tn = n := by omega
 have HE : Hid (srch tb (f + 1) o s row = srchL (srch tb f) row 0 (tb[row].drop 0) o s) := Lib.hid (by
   show srchL (srch tb f) row 0 (tb.getD row []) o s = _
   rw [List.getD_eq_getElem?_getD, List.getElem?_eq_getElem hrt]; rfl)
 have HSR := Lib.hid (srch_said hn hm f)
 have HIH := Lib.hid ih
 have HT := Lib.hid hT
 have HB := Lib.hid hB
 have HSS := Lib.hid hS
 have HKO := Lib.hid hko
 have HEO := Lib.hid heo
 have HRO := Lib.hid hro
 have HRS := Lib.hid hrs
 have HN := Lib.hid hn
 generalize hl : tb[row] = l at *
 have HL := Lib.hid lrn
 clear hT hB ih hS hn hm lrn hrm hl hrt hko heo hro hrs ltn
 generalize hres : srch tb (f + 1) o s row = res at *
 clear hres
 have hs1 := (HSS.out _ hSt)
 go_enter Tryz.func155, Tryz.ntmps155
 go_wp2
 go_loopw [9] (fun i wr => ∃ j : Nat, j ≤ rn ∧ i = .int .i64 j ∧ Hid (∃ o1 s1, SrI tb tn rn f og sg row w wr res l f j o1 s1)) (fun i _ => rn - (intOf i).toNat)
 case atStart => exact ⟨0, by omega, rfl, Lib.hid ⟨o, s, HRO.out, HRS.out, Fr2.refl _ _ _, HKO.out, HEO.out, HE.out, by omega⟩⟩
 case round =>
   obtain ⟨j, hj, rfl, HR⟩ := hrel
   obtain ⟨o1, s1, hI⟩ := HR.out
   have qt2 := (hI.fr.cell (p := adt.add row) (by rw [add_block]; exact hs1.1) (by rw [add_block]; exact hs1.2)).trans qt
   have dr0 : (0 : Int) ≤ (row : Int) := by omega
   have dr1 : (row : Int) < (tn : Int) := by omega
   by_cases hlt : j < rn
   · have e1 : j < l.length := by have := HL.out; omega
     obtain ⟨adr, rfl, hSr, qr⟩ := HB.out.at_ e1
     have hs2 := HSS.out _ hSr
     have qr' : wr.cell? (adr.add j) = some (.bool l[j]) := (hI.fr.cell (by rw [add_block]; exact hs2.1) (by rw [add_block]; exact hs2.2)).trans qr
     have jo : j < o1.length := by rw [hI.ok.ol]; exact hlt
     have js : j < s1.length := by rw [hI.ok.sl]; exact hlt
     have qs := hI.rs.cell (boolVs_get js)
     have fs := hI.rs.frozen j
     have heq := hI.eq
     rw [srchL_cons _ _ _ _ _ _ e1] at heq
     have HI := Lib.hid hI
     clear hI HR qr
     by_cases h1 : (!l[j] || s1.getD j true) = true
     · rw [if_pos h1] at heq
       have HQ := Lib.hid heq
       clear heq
       rcases hlj : l[j] with _ | _
       · rw [hlj] at qr'
         clear h1
         generalize s1.getD j true = sj at *
         go_wp2
         go_roundw
         case rel => exact ⟨j + 1, by omega, by go_num, Lib.hid ⟨o1, s1, HI.out.ro, HI.out.rs, HI.out.fr, HI.out.ok, HI.out.en, HQ.out, HI.out.us⟩⟩
         case measure => simp [intOf]; omega
       · rw [hlj] at qr' h1
         have hsj : s1.getD j true = true := by simpa using h1
         rw [hsj] at qs
         clear h1 hsj
         go_wp2
         go_roundw
         case rel => exact ⟨j + 1, by omega, by go_num, Lib.hid ⟨o1, s1, HI.out.ro, HI.out.rs, HI.out.fr, HI.out.ok, HI.out.en, HQ.out, HI.out.us⟩⟩
         case measure => simp [intOf]; omega
     · rw [if_neg h1] at heq
       have h1' : l[j] = true ∧ s1.getD j true = false := by revert h1; cases l[j] <;> cases s1.getD j true <;> simp
       obtain ⟨hlj, hsj⟩ := h1'
       rw [hlj] at qr'
       rw [hsj] at qs
       have qt3 := (((HI.out.fr.set_ (p := ⟨sg, j, none⟩) (.inr rfl) (.bool true))).cell (p := adt.add row) (by rw [add_block]; exact hs1.1) (by rw [add_block]; exact hs1.2)).trans qt
       have hus2 := unseen_set hsj
       have hrs2 := HI.out.rs.set_ j (.bool true)
       rw [boolVs_set] at hrs2
       have hro2 := HI.out.ro.far (p := ⟨sg, j, none⟩) hne (.bool true)
       have qo := hro2.cell (intVs_get jo)
       have fo := hro2.frozen j
       have hfr2 := HI.out.fr.set_ (p := ⟨sg, j, none⟩) (.inr rfl) (.bool true)
       have hok2 : KOk tn rn o1 (s1.set j true) := ⟨HI.out.ok.ol, by simp [HI.out.ok.sl], HI.out.ok.ow⟩
       clear h1 hlj
       by_cases h2 : o1.getD j 0 = -1
       · rw [if_pos h2] at heq
         have HQ := Lib.hid heq
         rw [h2] at qo
         have hro3 := hro2.set_ j (.int .i64 (row : Int))
         rw [intVs_set] at hro3
         have hrs3 := hrs2.far (p := ⟨og, j, none⟩) (by dsimp only; omega) (.int .i64 (row : Int))
         have HF : Hid (SrchPost w og sg res (.returned (.bool true)) (((wr.setCell ⟨sg, j, none⟩ (.bool true)).setCell ⟨og, j, none⟩ (.int .i64 (row : Int))))) := Lib.hid (by rw [HQ.out]; exact ⟨rfl, hro3, hrs3, hfr2.set_ (p := ⟨og, j, none⟩) (.inl rfl) _⟩)
         clear heq h2 hro2 hrs2 hro3 hrs3 hfr2 hok2 hsj hus2
         go_wp2
         go_ret
         exact HF.out
       · rw [if_neg h2] at heq
         have hoj : 0 ≤ o1.getD j 0 ∧ o1.getD j 0 < tn := by
           have : o1.getD j 0 ∈ o1 := by simp [List.getD_eq_getElem?_getD, jo]
           rcases HI.out.ok.ow _ this with h | h
           · exact absurd h h2
           · exact h
         obtain ⟨r, hr⟩ := Int.eq_ofNat_of_zero_le hoj.1
         rw [hr] at heq qo h2
         have hr9 : r < tn := by omega
         have hTT : TabAt (wr.setCell ⟨sg, j, none⟩ (.bool true)) S (.slice (some adt) tn tc) tb := HT.out.keep (fun _ h => h) (fun p hp => hfr2.cell (HSS.out _ hp).1 (HSS.out _ hp).2)
         have CM : Hid (Calls Tryz.prog 155 #[.slice (some adt) tn tc, .int .i64 (r : Int), .slice (some ⟨sg, 0, none⟩) rn sc, .slice (some ⟨og, 0, none⟩) rn oc] (wr.setCell ⟨sg, j, none⟩ (.bool true)) (SrchPost (wr.setCell ⟨sg, j, none⟩ (.bool true)) og sg (srch tb f o1 (s1.set j true) r))) := Lib.hid (HIH.out o1 (s1.set j true) r oc sc _ hr9 hok2 HI.out.en (by have := HI.out.us; omega) hTT hro2 hrs2)
         have hsaid := HSR.out o1 (s1.set j true) r hr9 hok2 HI.out.en (by have := HI.out.us; omega)
         have HSJ := Lib.hid hsj
         simp only [Int.toNat_natCast] at heq
         have HFR2 := Lib.hid hfr2
         have d1 : decide ((r : Int) < 0) = false := by simp
         have d2 : ¬ ((r : Int) < 0) := by omega
         have HUS := Lib.hid hus2
         clear h2 hro2 hrs2 hfr2 hok2 hsj hus2 hTT hoj hr
         rcases hrec : srch tb f o1 (s1.set j true) r with ⟨b, o2, s2⟩
         rw [hrec] at hsaid heq CM
         have HSD := Lib.hid hsaid
         clear hrec hsaid
         have jo2 : j < o2.length := by have := HSD.out.ok.ol; simp only at this; omega
         cases b with
         | true =>
           have HQ := Lib.hid (show res = (true, o2.set j row, s2) from heq)
           clear heq
           go_wp2_with (go_at_call 155; go_must (refine CM.out.mono ?_; rintro e w6 ⟨rfl, ro6, rs6, fr6⟩; (have c6 := ro6.cell (intVs_get jo2)); (have z6 := ro6.frozen j); (have HRO6 := Lib.hid ro6); (have HRS6 := Lib.hid rs6); (have HFR6 := Lib.hid fr6); clear ro6 rs6 fr6))
           go_ret
           show SrchPost w og sg res _ _
           rw [HQ.out]
           have hro3 := HRO6.out.set_ j (.int .i64 (row : Int))
           rw [intVs_set] at hro3
           exact ⟨rfl, hro3, HRS6.out.far (p := ⟨og, j, none⟩) (by dsimp only; omega) _, (HFR2.out.trans HFR6.out).set_ (p := ⟨og, j, none⟩) (.inl rfl) _⟩
         | false =>
           have HQ := Lib.hid (show res = srchL (srch tb f) row (j + 1) (l.drop (j + 1)) o2 s2 from heq)
           clear heq
           go_wp2_with (go_at_call 155; go_must (refine CM.out.mono ?_; rintro e w6 ⟨rfl, ro6, rs6, fr6⟩; (have HRO6 := Lib.hid ro6); (have HRS6 := Lib.hid rs6); (have HFR6 := Lib.hid fr6); clear ro6 rs6 fr6))
           go_roundw
           case rel =>
             have hno := HSD.out.no rfl
             simp only at hno
             refine ⟨j + 1, by omega, by go_num, Lib.hid ⟨o2, s2, HRO6.out, HRS6.out, HFR2.out.trans HFR6.out, HSD.out.ok, by rw [hno.1]; exact HI.out.en, HQ.out, ?_⟩⟩
             have h1 := HSD.out.less
             have h2 := HUS.out
             have h3 := HI.out.us
             simp only at h1
             omega
           case measure => simp [intOf]; omega
   · obtain rfl : j = rn := by omega
     have hq := hI.eq
     rw [List.drop_eq_nil_of_le (by have := HL.out; omega), srchL_nil] at hq
     have HF : Hid (SrchPost w og sg res (.returned (.bool false)) wr) := Lib.hid (by rw [hq]; exact ⟨rfl, hI.ro, hI.rs, hI.fr⟩)
     clear hq hI HR
     go_wp2
     go_ret
     exact HF.out
theorem r3try_any (tb : List (List Bool)) (n m : Nat) (hn : tb.length = n) (hm : ∀ r ∈ tb, r.length = m) (hn9 : n ≤ 1000) (hm9 : m ≤ 1000) (tv : Value) (og sg : Nat) (hne : og ≠ sg) (S : Nat → Prop) (hS : ∀ b, S b → b ≠ og ∧ b ≠ sg) (f : Nat) :
   ∀ (o : List Int) (s : List Bool) (row : Nat) (oc sc : Nat) (w : World), row < n → KOk n m o s → EntOk tb o → unseen s < f → TabAt w S tv tb → RowC w og 3 (intVs o) → RowC w sg 4 (boolVs s) →
     Calls Tryz.prog 155 #[tv, .int .i64 (row : Int), .slice (some ⟨sg, 0, none⟩) m sc, .slice (some ⟨og, 0, none⟩) m oc] w (SrchPost w og sg (srch tb f o s row)) := by
 induction f with
 | zero => intro o s row oc sc w _ _ _ h; omega
 | succ f ih => exact fun o s row oc sc w h1 h2 h3 h4 h5 h6 h7 => r3try_step tb n m f hn hm hn9 hm9 tv og sg hne S hS ih o s row oc sc w h1 h2 h3 h4 h5 h6 h7
theorem r3Valid_any (tb : List (List Bool)) (n m : Nat) (hn : tb.length = n) (hm : ∀ r ∈ tb, r.length = m) (hn9 : n ≤ 12) (hm9 : m ≤ 12) (tv : Value) (w : World) (hT : TabAt w (· < w.heap.size) tv tb) :
   Calls Tryz.prog 122 #[tv] w (BoolPost w true) := by
 obtain ⟨TA, tn, tc, rfl, ltn, mtn⟩ := hT.form
 obtain rfl : tn = n := by omega
 have HT := Lib.hid hT
 have HM := Lib.hid hm
 have HN := Lib.hid hn
 have d0 : decide ((tn : Int) ≤ 12) = true := by simp; omega
 clear hT hm hn ltn
 go_enter Tryz.func122, Tryz.ntmps122
 go_wp2
 go_loopw [3] (fun i wr => ∃ k : Nat, k ≤ tn ∧ i = .int .i64 k ∧ Hid (Bw w wr)) (fun i _ => tn - (intOf i).toNat)
 case atStart => exact ⟨0, by omega, rfl, Lib.hid (Bw.refl _)⟩
 case round =>
   obtain ⟨k, hk, rfl, HR⟩ := hrel
   by_cases hlt : k < tn
   · obtain ⟨ad, RA, rn, rc, rfl, hb0, q0, lrn, mrn, _⟩ := HT.out.at_ (show k < tb.length by rw [HN.out]; exact hlt)
     obtain ⟨ad', RA', rn', rc', e', hb1, q1, lrn', _, _⟩ := HT.out.at_ (show 0 < tb.length by rw [HN.out]; omega)
     obtain rfl : ad = ad' := Option.some.inj e'
     have e0 : ad.add 0 = ad := by unfold Addr.add; simp
     rw [e0] at q1
     obtain rfl : rn = m := by rw [← lrn]; exact HM.out _ (List.getElem_mem _)
     obtain rfl : rn' = rn := by rw [← lrn']; exact HM.out _ (List.getElem_mem _)
     have p0 : ∀ P : BwOf wr, P.val.cell? (ad.add k) = some (.slice RA rn' rc) := fun P => ((HR.out.trans P.bw).b.cell (p := ad.add k) (by rw [add_block]; exact hb0)).trans q0
     have p1 : ∀ P : BwOf wr, P.val.cell? ad = some (.slice RA' rn' rc') := fun P => ((HR.out.trans P.bw).b.cell (p := ad) hb1).trans q1
     have d1 : decide ((12 : Int) < (rn' : Int)) = false := by simp; omega
     have d3 : ((rn' : Int) != (rn' : Int)) = false := by simp
     have d2 : 0 < tn := by omega
     have dz0 : (0 : Int) ≤ (k : Int) := by omega
     have dz1 : (k : Int) < (tn : Int) := by omega
     have dz2 : (0 : Int) < (tn : Int) := by omega
     clear lrn lrn' e0 e' q0 q1
     go_wp2_with fail
     refine wp_region_quiet_bw mixedO (by kernel_rfl) ?_
     repeat (go_big_quiet_step (fail))
     refine wpQuiet_nil ?_
     intro _ hw'
     obtain ⟨⟨w6, hg6⟩, rfl⟩ := hw'
     have HG6 := Lib.hid hg6
     clear hg6
     go_wp2
     go_roundw
     case rel => exact ⟨k + 1, by omega, by go_num, Lib.hid (HR.out.trans HG6.out)⟩
     case measure => simp [intOf]; omega
   · obtain rfl : k = tn := by omega
     go_wp2
     go_ret
     exact ⟨rfl, HR.out⟩
def freeL (m k : Nat) : List Int := List.replicate k (-1) ++ List.replicate (m - k) 0
theorem freeL_set {m k : Nat} (h : k < m) : (freeL m k).set k (-1) = freeL m (k + 1) := by
 unfold freeL
 rw [List.set_append_right _ _ (by simp), List.length_replicate, Nat.sub_self, show m - k = (m - (k + 1)) + 1 by omega, List.replicate_succ, List.set_cons_zero]
 apply List.ext_getElem
 · simp; omega
 · intro j h1 h2
   simp only [List.getElem_append, List.getElem_cons, List.getElem_replicate, List.length_replicate]
   repeat' split
   all_goals first | rfl | omega
theorem freeL_all (m : Nat) : freeL m m = List.replicate m (-1) := by simp [freeL]
theorem freeL_none (m : Nat) : freeL m 0 = List.replicate m 0 := by simp [freeL]
theorem freeL_length {m k : Nat} (h : k ≤ m) : (freeL m k).length = m := by simp [freeL]; omega
theorem r3most_any (tb : List (List Bool)) (n m : Nat) (hn : tb.length = n) (hm : ∀ r ∈ tb, r.length = m) (hn9 : n ≤ 1000) (hm9 : m ≤ 1000) (hn0 : 0 < n) (tv : Value) (w : World) (hT : TabAt w (· < w.heap.size) tv tb) :
   Calls Tryz.prog 123 #[tv] w (NumPost w (mostP tb m)) := by
 obtain ⟨TA, tn, tc, rfl, ltn, mtn⟩ := hT.form
 obtain rfl : tn = n := by omega
 obtain ⟨ad, RA, rn, rc, rfl, hb0, q0, lrn, mrn, hrb⟩ := hT.at_ (show 0 < tb.length by omega)
 clear hrb
 have e0 : ad.add 0 = ad := by unfold Addr.add; simp
 rw [e0] at q0
 obtain rfl : rn = m := by rw [← lrn]; exact hm _ (List.getElem_mem _)
 have HT := Lib.hid hT
 have HSAID := Lib.hid (srch_said (n := tn) hn hm (rn + 1))
 have HSR : Hid (∀ (og sg : Nat) (o : List Int) (row oc sc : Nat) (W : World), w.heap.size ≤ og → w.heap.size ≤ sg → og ≠ sg → row < tn → KOk tn rn o (List.replicate rn false) → EntOk tb o → Below w.heap.size w W → RowC W og 3 (intVs o) → RowC W sg 4 (boolVs (List.replicate rn false)) →
     Calls Tryz.prog 155 #[.slice (some ad) tn tc, .int .i64 (row : Int), .slice (some ⟨sg, 0, none⟩) rn sc, .slice (some ⟨og, 0, none⟩) rn oc] W (SrchPost W og sg (srch tb (rn + 1) o (List.replicate rn false) row))) := Lib.hid (fun og sg o row oc sc W h1 h2 h3 h4 h5 h6 h7 h8 h9 =>
   r3try_any tb tn rn hn hm hn9 hm9 _ og sg h3 (· < w.heap.size) (fun b hb => ⟨by omega, by omega⟩) (rn + 1) o _ row oc sc W h4 h5 h6 (by simp [unseen, List.countP_replicate]) (HT.out.keep (fun _ h => h) (fun p hp => h7.cell hp)) h8 h9)
 have HMP : Hid (mostP tb rn = mostL tb rn tn 0 (List.replicate rn (-1))) := Lib.hid (by unfold mostP; rw [hn])
 have mkI := mkInts rn hm9 w
 have d0 : ((tn : Int) == 0) = false := by simp; omega
 clear hT hn hm ltn e0 lrn
 generalize hmp : mostP tb rn = mp at *
 clear hmp
 go_enter Tryz.func123, Tryz.ntmps123
 go_wp2
 go_loopw [4] (fun i wr => ∃ k : Nat, k ≤ rn ∧ i = .int .i64 k ∧ Hid (RowC wr w.heap.size 3 (intVs (freeL rn k)) ∧ Below w.heap.size w wr)) (fun i _ => rn - (intOf i).toNat)
 case atStart =>
   exact ⟨0, by omega, rfl, Lib.hid ⟨by rw [freeL_none]; exact ⟨_, Blk.new _ _ _, by simp, fun j u h => by simpa using h⟩, (Bw.refl w).alloc _⟩⟩
 case round =>
   obtain ⟨k, hk, rfl, HR⟩ := hrel
   obtain ⟨hro, hbw⟩ := HR.out
   by_cases hlt : k < rn
   · have c0 := hro.cell (intVs_get (j := k) (by rw [freeL_length (by omega)]; exact hlt))
     have f0 := hro.frozen k
     have HRO : Hid (RowC (wr.setCell ⟨w.heap.size, k, none⟩ (.int .i64 (-1))) w.heap.size 3 (intVs (freeL rn (k + 1)))) := Lib.hid (by
       have := hro.set_ k (.int .i64 (-1))
       rw [intVs_set, freeL_set hlt] at this
       exact this)
     have HBW := Lib.hid hbw
     clear hro hbw HR
     go_wp2
     go_roundw
     case rel => exact ⟨k + 1, by omega, by go_num, Lib.hid ⟨HRO.out, HBW.out.setCell (by dsimp only; omega) _⟩⟩
     case measure => simp [intOf]; omega
   · obtain rfl : rn = k := by omega
     rw [freeL_all] at hro
     have HRO0 := Lib.hid hro
     have HBW0 := Lib.hid hbw
     clear hro hbw HR hk hlt
     obtain ⟨wo, rfl⟩ : ∃ wo, wo = wr := ⟨_, rfl⟩
     go_wp2_with fail
     go_loopw [5, 6] (fun s8 s9 wr => ∃ (cnt row : Nat), row ≤ tn ∧ cnt ≤ row ∧ s8 = .int .i64 cnt ∧ s9 = .int .i64 row ∧ Hid (∃ o, RowC wr w.heap.size 3 (intVs o) ∧ Below w.heap.size w wr ∧ KOk tn rn o (List.replicate rn false) ∧ EntOk tb o ∧ mp = cnt + mostL tb rn (tn - row) row o)) (fun _ s9 _ => tn - (intOf s9).toNat)
     case atStart =>
       exact ⟨0, 0, by omega, by omega, rfl, rfl, Lib.hid ⟨List.replicate rn (-1), HRO0.out, HBW0.out, ⟨by simp, by simp, fun x hx => .inl (List.mem_replicate.1 hx).2⟩, fun j hj => .inl (by simp at hj; simp [List.getD_eq_getElem?_getD, hj]), by rw [HMP.out]; simp⟩⟩
     case round =>
       obtain ⟨cnt, row, hrow, hcnt, rfl, rfl, HR⟩ := hrel
       obtain ⟨o, hro, hbw, hko, heo, hmp⟩ := HR.out
       have hl1 := hro.lt
       have HRO := Lib.hid hro
       have HBW := Lib.hid hbw
       have HKO := Lib.hid hko
       have HEO := Lib.hid heo
       have HM := Lib.hid hmp
       have hsw := hbw.size
       clear hro hbw hko heo hmp HR
       by_cases hlt : row < tn
       · have mkB := mkBools rn hm9 wr
         have hsaid := HSAID.out o (List.replicate rn false) row hlt HKO.out HEO.out (by simp [unseen, List.countP_replicate])
         have HM2 : Hid (mp = cnt + ((if (srch tb (rn + 1) o (List.replicate rn false) row).1 then 1 else 0) + mostL tb rn (tn - (row + 1)) (row + 1) (srch tb (rn + 1) o (List.replicate rn false) row).2.1)) := Lib.hid (by
           rw [HM.out, show tn - row = (tn - (row + 1)) + 1 by omega, mostL_step])
         rcases hrec : srch tb (rn + 1) o (List.replicate rn false) row with ⟨b, o2, s2⟩
         have SR : Hid (∀ ob, ob = .cells (boolVs (List.replicate rn false)).toArray 4 → Calls Tryz.prog 155 #[.slice (some ad) tn tc, .int .i64 (row : Int), .slice (some ⟨wr.heap.size, 0, none⟩) rn rn, .slice (some ⟨w.heap.size, 0, none⟩) rn rn] (wr.alloc ob) (SrchPost (wr.alloc ob) w.heap.size wr.heap.size (b, o2, s2))) := Lib.hid (fun ob hob => by
           subst hob
           rw [← hrec]
           exact HSR.out _ _ o row rn rn _ (Nat.le_refl _) (by omega) (by omega) hlt HKO.out HEO.out (HBW.out.alloc HBW.out.size _) (HRO.out.block (Below.heap_alloc wr _ _ hl1)) ⟨_, Blk.new _ _ _, by simp, fun j u h => by simpa using h⟩)
         have SR1 := Lib.hid (SR.out _ rfl)
         rw [hrec] at hsaid HM2
         have HSD := Lib.hid hsaid
         clear hsaid hrec SR
         have HNX : Hid (KOk tn rn o2 (List.replicate rn false) ∧ EntOk tb o2) := Lib.hid (by
           have h1 := HSD.out.ok
           refine ⟨⟨h1.ol, by simp, h1.ow⟩, ?_⟩
           cases b with
           | true => exact (HSD.out.yes rfl).1
           | false => have := (HSD.out.no rfl).1; simp only at this; rw [this]; exact HEO.out)
         have HM3 : Hid (mp = (cnt + (if b then 1 else 0) : Nat) + mostL tb rn (tn - (row + 1)) (row + 1) o2) := Lib.hid (by have := HM2.out; rw [this]; cases b <;> simp <;> omega)
         clear HM2
         cases b with
         | true =>
           go_wp2_with (go_at_call 155; go_must (refine SR1.out.mono ?_; rintro e w7 ⟨rfl, ro7, rs7, fr7⟩; (have HRO7 := Lib.hid ro7); (have HFR7 := Lib.hid fr7); clear ro7 rs7 fr7))
           go_roundw
           case rel =>
             refine ⟨cnt + 1, row + 1, by omega, by omega, by go_num, by go_num, Lib.hid ⟨o2, HRO7.out, ?_, HNX.out.1, HNX.out.2, HM3.out⟩⟩
             have h1 := HBW.out.alloc HBW.out.size (.cells (boolVs (List.replicate rn false)).toArray 4)
             have f7 := HFR7.out
             exact Below.trans h1 ⟨f7.os, f7.tape, f7.output, by have := f7.size; omega, fun k hk => f7.block k (by omega) (by omega)⟩
           case measure => simp [intOf]; omega
         | false =>
           go_wp2_with (go_at_call 155; go_must (refine SR1.out.mono ?_; rintro e w7 ⟨rfl, ro7, rs7, fr7⟩; (have HRO7 := Lib.hid ro7); (have HFR7 := Lib.hid fr7); clear ro7 rs7 fr7))
           go_roundw
           case rel =>
             refine ⟨cnt, row + 1, by omega, by omega, rfl, by go_num, Lib.hid ⟨o2, HRO7.out, ?_, HNX.out.1, HNX.out.2, HM3.out⟩⟩
             have h1 := HBW.out.alloc HBW.out.size (.cells (boolVs (List.replicate rn false)).toArray 4)
             have f7 := HFR7.out
             exact Below.trans h1 ⟨f7.os, f7.tape, f7.output, by have := f7.size; omega, fun k hk => f7.block k (by omega) (by omega)⟩
           case measure => simp [intOf]; omega
       · obtain rfl : row = tn := by omega
         have HF : Hid (mp = cnt) := Lib.hid (by rw [HM.out]; simp [mostL])
         go_wp2
         go_ret
         exact ⟨ret_int (by rw [HF.out]), HBW.out⟩
theorem r3most_none (tv : Value) (A : Option Addr) (c : Nat) (w : World) : Calls Tryz.prog 123 #[.slice A 0 c] w (NumPost w 0) := by
 go_enter Tryz.func123, Tryz.ntmps123
 go_wp2
 go_ret
 exact ⟨rfl, Bw.refl _⟩
theorem r3Most_any (tb : List (List Bool)) (n m : Nat) (hn : tb.length = n) (hm : ∀ r ∈ tb, r.length = m) (hn9 : n ≤ 12) (hm9 : m ≤ 12) (tv : Value) (w : World) (hT : TabAt w (· < w.heap.size) tv tb) :
   Calls Tryz.prog 95 #[tv] w fun e w' => e = .returned (.tuple #[.int .i64 (mostP tb m), .bool true]) ∧ Bw w w' := by
 have VA := Lib.hid (r3Valid_any tb n m hn hm hn9 hm9 tv w hT)
 have MO : Hid (∀ W, Bw w W → Calls Tryz.prog 123 #[tv] W (NumPost W (mostP tb m))) := Lib.hid (fun W g => by
   by_cases h0 : n = 0
   · obtain ⟨TA, tn, tc, rfl, ltn, mtn⟩ := hT.form
     obtain rfl : tb = [] := List.eq_nil_of_length_eq_zero (by omega)
     obtain rfl : tn = 0 := by simpa using ltn.symm
     exact r3most_none (.slice TA 0 tc) TA tc W
   · exact r3most_any tb n m hn hm (by omega) (by omega) (by omega) tv W (hT.keep (fun b hb => Nat.lt_of_lt_of_le hb g.size) (fun p hp => g.b.cell hp)))
 obtain ⟨TA, tn, tc, rfl, ltn, mtn⟩ := hT.form
 clear hT hn hm ltn
 generalize mostP tb m = mp at *
 go_enter Tryz.func95, Tryz.ntmps95
 go_wp2_with (first
   | (go_at_call 122; go_must (refine VA.out.mono ?_; rintro e w6 ⟨rfl, hg6⟩))
   | (go_at_call 123; go_must (refine (MO.out w6 hg6).mono ?_; rintro e w7 ⟨rfl, hg7⟩)))
 go_ret2
 exact ⟨rfl, hg6.trans hg7⟩
theorem rf_skip {r b : List Int} {x : Int} {a : List Int} {p : Nat} (hp : p < b.length) {q : Bool} (h : q = pleB (rankAt r) (x :: a) (b.drop p)) (hn : b[p] ≠ x) (hr : rankAt r b[p] ≤ rankAt r x) : q = pleB (rankAt r) (x :: a) (b.drop (p + 1)) := by
 rw [h, pleB_step hp, beq_eq_false_iff_ne.2 (Ne.symm hn), Bool.false_and, Bool.false_or, decide_eq_true hr, Bool.true_and]
theorem rf_stop {r b : List Int} {x : Int} {a : List Int} {p : Nat} (hp : p < b.length) {q : Bool} (h : q = pleB (rankAt r) (x :: a) (b.drop p)) (hn : b[p] ≠ x) (hr : ¬ rankAt r b[p] ≤ rankAt r x) : q = false := by
 rw [h, pleB_step hp, beq_eq_false_iff_ne.2 (Ne.symm hn), Bool.false_and, Bool.false_or, decide_eq_false hr, Bool.false_and]
theorem rf_rec {r b : List Int} {x : Int} {a : List Int} {p : Nat} (hp : p < b.length) {q : Bool} (h : q = pleB (rankAt r) (x :: a) (b.drop p)) (he : b[p] = x) (hn : pleB (rankAt r) a (b.drop (p + 1)) = false) : q = pleB (rankAt r) (x :: a) (b.drop (p + 1)) := by
 rw [h, pleB_step hp, hn, Bool.and_false, Bool.false_or, he, decide_eq_true (Int.le_refl _), Bool.true_and]
theorem rf_hit {r b : List Int} {x : Int} {a : List Int} {p : Nat} (hp : p < b.length) {q : Bool} (h : q = pleB (rankAt r) (x :: a) (b.drop p)) (he : b[p] = x) (hn : pleB (rankAt r) a (b.drop (p + 1)) = true) : q = true := by
 rw [h, pleB_step hp, hn, he]; simp
theorem r5find_step (r b : List Int) (x : Int) (a : List Int) (hb9 : b.length ≤ 1000) (ha9 : a.length ≤ 1000) (hlb : LettersOk r b) (hlx : 0 ≤ x ∧ x < r.length)
   (ih : ∀ (f : Nat) (sr sa sb : Value) (W : World), f ≤ b.length → IB W W.heap.size sr r → IB W W.heap.size sa a → IB W W.heap.size sb b → Calls Tryz.prog 154 #[sr, sa, sb, .int .i64 (f : Int)] W (EmbPost W (pleB (rankAt r) a (b.drop f)) a.length))
   (f : Nat) (sr sa sb : Value) (w : World) (hf : f ≤ b.length) (hr : IB w w.heap.size sr r) (ha : IB w w.heap.size sa (x :: a)) (hb : IB w w.heap.size sb b) :
   Calls Tryz.prog 154 #[sr, sa, sb, .int .i64 (f : Int)] w (EmbPost w (pleB (rankAt r) (x :: a) (b.drop f)) (x :: a).length) := by
 obtain ⟨RA, rn, rc, rfl, lr, mr⟩ := hr.form'
 obtain ⟨BA, bn, bc, rfl, lb, mb⟩ := hb.form'
 obtain ⟨AA, an, ac, e, la, a1, a2⟩ := ha.form
 subst e
 unfold maxLen at a2
 obtain ⟨ada, rfl, hba, qa⟩ := ha.at_ (k := 0) (by simp)
 have e0 : ada.add 0 = ada := by unfold Addr.add; simp
 rw [e0] at qa
 simp only [List.getElem_cons_zero] at qa
 have an1 : 1 ≤ an := by rw [← la]; simp
 obtain ⟨k1, hk1, rfl, ek1⟩ := rankAt_get hlx
 obtain ⟨adr, rfl, hbr, qr⟩ := hr.at_ hk1
 have hk1n : k1 < rn := by omega
 have hcut : ∀ W, (Instr.slice 22 (.slice (some ada) an ac) (some (.int .i64 1)) none none).run Tryz.prog W = .ok (sliced (some ada) 1 an ac 1) W := fun W => cutI_l (some ada) an ac 1 an1 W
 have hpt := IAt.part ha an1 (Nat.le_refl an)
 obtain ⟨A1, hA1⟩ := sliced_form (some ada) 1 an ac 1
 rw [hA1] at hpt
 simp only [hA1] at hcut
 rw [List.take_of_length_le (by omega)] at hpt
 change IAt w _ _ a at hpt
 have HIH := Lib.hid ih
 have HR := Lib.hid hr
 have HB := Lib.hid hb
 have HA := Lib.hid hpt
 have LB := Lib.hid lb
 have LR := Lib.hid lr
 have HLB := Lib.hid hlb
 have hal : ((k1 : Int) :: a).length = a.length + 1 := rfl
 obtain ⟨al, hal2⟩ : ∃ al, a.length = al := ⟨_, rfl⟩
 rw [hal, hal2]
 rw [hal2] at ha9
 rw [lb] at hb9 hf
 have HAL := Lib.hid hal2
 have an0 : ¬ an = 0 := by omega
 have an2 : 0 < an := by omega
 have anb : ((an : Int) == 0) = false := by simp; omega
 generalize hr1 : r[k1] = r1 at *
 have HR1 : Hid (rankAt r k1 = r1) := Lib.hid ek1
 clear ih hr hb hpt lb hlb ha la hal hal2 e0 hA1 lr ek1 hlx hr1 hk1
 generalize hq : pleB (rankAt r) ((k1 : Int) :: a) (b.drop f) = q at *
 have HQ := Lib.hid hq
 clear hq
 obtain ⟨i0, hi, hz0, hz1, hz2⟩ := info_parts infoInt
 go_enter Tryz.func154, Tryz.ntmps154
 go_wp2
 go_loopw [10] (fun i wr => ∃ p : Nat, p ≤ bn ∧ i = .int .i64 p ∧ Hid (Bw w wr ∧ q = pleB (rankAt r) ((k1 : Int) :: a) (b.drop p))) (fun i _ => bn - (intOf i).toNat)
 case atStart => exact ⟨f, by omega, rfl, Lib.hid ⟨Bw.refl _, HQ.out.symm⟩⟩
 case round =>
   obtain ⟨p, hp, rfl, HRL⟩ := hrel
   obtain ⟨hw, hqq⟩ := HRL.out
   have HW := Lib.hid hw
   have HQQ := Lib.hid hqq
   by_cases hlt : p < bn
   · have e1 : p < b.length := by rw [LB.out]; exact hlt
     obtain ⟨adb, rfl, hbb, qb⟩ := (HB.out.bw hw).at_ e1
     obtain ⟨k2, hk2, ek2, er2⟩ := rankAt_get (HLB.out _ (List.getElem_mem e1))
     obtain ⟨adr', e', _, q2⟩ := HR.out.at_ hk2
     obtain rfl : adr = adr' := Option.some.inj e'
     have hk2n : k2 < rn := by have := LR.out; omega
     have hr2 : rankAt r b[p] = r[k2] := er2
     rw [ek2] at qb
     generalize r[k2] = r2 at *
     have KS : Hid (∀ w', Bw wr w' → w'.cell? (adb.add p) = some (.int .i64 (k2 : Int)) ∧ w'.cell? ada = some (.int .i64 (k1 : Int)) ∧ w'.cell? (adr.add k1) = some (.int .i64 r1) ∧ w'.cell? (adr.add k2) = some (.int .i64 r2)) := Lib.hid (fun w' g => ⟨(g.b.cell (by rw [add_block]; exact hbb)).trans qb, ((HW.out.trans g).b.cell hba).trans qa, ((HW.out.trans g).b.cell (by rw [add_block]; exact hbr)).trans qr, ((HW.out.trans g).b.cell (by rw [add_block]; exact hbr)).trans q2⟩)
     by_cases hx : k2 = k1
     · subst hx
       have hxe : b[p] = (k2 : Int) := ek2
       have RC : Hid (∀ W, Bw wr W → Calls Tryz.prog 154 #[.slice (some adr) rn rc, .slice A1 (an - 1) (ac - 1), .slice (some adb) bn bc, .int .i64 ((p : Int) + 1)] W (EmbPost W (pleB (rankAt r) a (b.drop (p + 1))) al)) := Lib.hid (fun W g => by
         rw [← HAL.out]
         exact HIH.out (p + 1) _ _ _ W (by have := LB.out; omega) ((HR.out.bw HW.out).bw g) ((HA.out.bw HW.out).bw g) ((HB.out.bw HW.out).bw g))
       unfold EmbPost at RC
       have d1 : ((k2 : Int) == k2) = true := by simp
       have KS0 := Lib.hid (KS.out _ (Bw.refl wr))
       obtain ⟨s1, s2, s3, s4⟩ := KS0.out
       obtain rfl : r1 = r2 := by have := s3.symm.trans s4; injection this with this; injection this
       have r11 : ¬ r1 < r1 := by omega
       rcases hrec : pleB (rankAt r) a (b.drop (p + 1)) with _ | _
       · have HN : Hid (q = pleB (rankAt r) ((k2 : Int) :: a) (b.drop (p + 1))) := Lib.hid (rf_rec e1 hqq hxe hrec)
         rw [hrec] at RC
         clear hrec hqq hw HRL KS0 s3 s4 qb q2 qa qr ek2 er2 hr2 hxe
         go_wp2_with fail
         go_quiet (fail)
         go_wp2_with (go_at_call 154; go_must ((with_reducible refine (RC.out _ ?_).mono ?_); first | exact (Bw.refl _).drew | exact (Bw.refl _).drewN _ ; rintro e w7 ⟨rv, pl, rfl, hrv, hpl, hg7⟩; (have HG7 : Hid (Bw wr w7) := Lib.hid (Bw.trans (by first | exact (Bw.refl _).drew | exact (Bw.refl _).drewN _) hg7)); (have KS7 := Lib.hid (KS.out _ HG7.out)); obtain ⟨s1, s2, s3, s4⟩ := KS7.out; clear hg7 hrv hpl KS7))
         go_quiet (fail)
         go_wp2
         go_roundw
         case rel => exact ⟨p + 1, by omega, by go_num, Lib.hid ⟨HW.out.trans (HG7.out.trans ((Bw.refl _).drewN _)), HN.out⟩⟩
         case measure => simp [intOf]; omega
       · have HN : Hid (q = true) := Lib.hid (rf_hit e1 hqq hxe hrec)
         rw [hrec] at RC
         clear hrec hqq hw HRL KS0 s3 s4 qb q2 qa qr ek2 er2 hr2 hxe
         go_wp2_with fail
         go_quiet (fail)
         go_wp2_with (first
           | (go_at_call 154; go_must ((with_reducible refine (RC.out _ ?_).mono ?_); first | exact (Bw.refl _).drew | exact (Bw.refl _).drewN _ ; rintro e w7 ⟨rv, pl, rfl, hrv, hpl, hg7⟩; obtain ⟨V7, n7, c7, rfl, l7, m7⟩ := hrv.form'; (have HG7 : Hid (Bw wr w7) := Lib.hid (Bw.trans (by first | exact (Bw.refl _).drew | exact (Bw.refl _).drewN _) hg7)); (have HRV := Lib.hid hrv); (have HL7 := Lib.hid l7); (have n7b : n7 ≤ al := by omega); clear hg7 hrv l7 hpl))
           | (at_builtin; go_must (refine wpList_append_any _ rfl _ _ 22 rfl w7.heap.size 3 i0 _ 1 8 Tryz.underlying22 hi hz0 hz1 hz2 rfl (by decide) (.slice (some ⟨w7.heap.size, 0, none⟩) 1 1) 1 (intVs [(p : Int)]) rfl (own_new w7 _ _ _ rfl (by simp [intVs])) (w7.heap.size + 1) V7 n7 c7 (intVs pl) rfl (IAt.reads ((HRV.out.bw ((Bw.refl _).alloc (.cells #[.int .i64 (p : Int)] 3))).more (by simp))) (intVs_one _) (by unfold maxLen; omega) (by omega) (by simp) ?_; intro v8 w8 hown8 hgr8 hl8; obtain ⟨A8, c8, rfl⟩ := own_form hown8; (have HO8 := Lib.hid hown8); (have HG8 := Lib.hid hgr8); clear hown8 hgr8 hl8)))
         go_ret2
         refine ⟨_, (p : Int) :: pl, ?_, (own_IB (cs := (p : Int) :: pl) (by have := HO8.out; rwa [intVs_append] at this) (by have := HL7.out; simp; omega)).keep (fun b hb => hb.2) (fun _ _ => rfl), by have := HL7.out; simp; omega, ?_⟩
         · rw [HN.out]; rfl
         · exact Below.trans (HW.out.trans (HG7.out.alloc _)) ((below_own (B := w.heap.size) (Below.refl _ _) (own_base (own_new w7 3 #[.int .i64 (p : Int)] 1 (n := 1) (xs := intVs [(p : Int)]) rfl rfl) (by have := HW.out.size; have := HG7.out.size; omega)) HG8.out (by simp; have := HW.out.size; have := HG7.out.size; omega)))
     · have hxn : b[p] ≠ (k1 : Int) := by rw [ek2]; omega
       have d1 : ((k2 : Int) == k1) = false := by simp; omega
       obtain ⟨s1, s2, s3, s4⟩ := KS.out _ (Bw.refl wr)
       obtain ⟨z1, z2, z3, z4⟩ := KS.out _ (Bw.refl wr).drew
       by_cases hgt : r1 < r2
       · have HN : Hid (q = false) := Lib.hid (rf_stop e1 hqq hxn (by rw [hr2, HR1.out]; omega))
         clear hqq hw HRL qb q2 qa qr ek2 er2 hr2 hxn
         go_wp2_with fail
         go_quiet (fail)
         go_wp2_with fail
         go_quiet (fail)
         go_wp2
         go_ret2
         exact ⟨.slice none 0 0, [], by rw [HN.out]; rfl, IAt.nil 0 none (by unfold maxLen; omega), by simp, HW.out.trans (by first | exact (Bw.refl _).drewN _ | exact ((Bw.refl _).drewN _).drewN _)⟩
       · have HN : Hid (q = pleB (rankAt r) ((k1 : Int) :: a) (b.drop (p + 1))) := Lib.hid (rf_skip e1 hqq hxn (by rw [hr2, HR1.out]; omega))
         clear hqq hw HRL qb q2 qa qr ek2 er2 hr2 hxn
         go_wp2_with fail
         go_quiet (fail)
         go_wp2_with fail
         go_quiet (fail)
         go_wp2
         go_roundw
         case rel => exact ⟨p + 1, by omega, by go_num, Lib.hid ⟨HW.out.trans (by first | exact (Bw.refl _).drewN _ | exact ((Bw.refl _).drewN _).drewN _), HN.out⟩⟩
         case measure => simp [intOf]; omega
   · obtain rfl : p = bn := by omega
     have HN : Hid (q = false) := Lib.hid (by rw [hqq, List.drop_eq_nil_of_le (by rw [LB.out]; omega)]; simp [pleB])
     clear hqq hw HRL
     go_wp2
     go_ret2
     exact ⟨.slice none 0 0, [], by rw [HN.out]; rfl, IAt.nil 0 none (by unfold maxLen; omega), by simp, HW.out⟩
theorem r5find_any (r b : List Int) (hb9 : b.length ≤ 1000) (hlb : LettersOk r b) : ∀ (a : List Int), a.length ≤ 1000 → LettersOk r a → ∀ (f : Nat) (sr sa sb : Value) (w : World), f ≤ b.length → IB w w.heap.size sr r → IB w w.heap.size sa a → IB w w.heap.size sb b →
   Calls Tryz.prog 154 #[sr, sa, sb, .int .i64 (f : Int)] w (EmbPost w (pleB (rankAt r) a (b.drop f)) a.length)
 | x :: a, h, hla, f, sr, sa, sb, w, hf, hr, ha, hb => r5find_step r b x a hb9 (by simp at h; omega) hlb (hla x (by simp)) (fun f sr sa sb W h1 h2 h3 h4 => r5find_any r b hb9 hlb a (by simp at h; omega) (fun y hy => hla y (by simp [hy])) f sr sa sb W h1 h2 h3 h4) f sr sa sb w hf hr ha hb
 | [], _, _, f, sr, sa, sb, w, hf, hr, ha, hb => by
   obtain ⟨RA, rn, rc, rfl, _, _⟩ := hr.form'
   obtain ⟨BA, bn, bc, rfl, lb, mb⟩ := hb.form'
   obtain ⟨AA, an, ac, rfl, la, ma⟩ := ha.form'
   obtain rfl : an = 0 := by simpa using la.symm
   rw [lb] at hf
   have HF : Hid (pleB (rankAt r) [] (b.drop f) = decide (f = bn)) := Lib.hid (by
     rw [Bool.eq_iff_iff]; simp [pleB]; omega)
   clear hr hb ha la
   by_cases hfb : f = bn
   · subst hfb
     go_enter Tryz.func154, Tryz.ntmps154
     go_wp2
     go_ret2
     exact ⟨.slice none 0 0, [], by rw [HF.out]; simp, IAt.nil 0 none (by unfold maxLen; omega), by simp, Bw.refl _⟩
   · have d1 : ((f : Int) == (bn : Int)) = false := by simp; omega
     go_enter Tryz.func154, Tryz.ntmps154
     go_wp2
     go_ret2
     exact ⟨.slice none 0 0, [], by rw [HF.out]; simp [hfb], IAt.nil 0 none (by unfold maxLen; omega), by simp, Bw.refl _⟩
theorem r5Valid_any (r x : List Int) (hx9 : wordP r x = true) (s u : Value) (w : World) (h : IB w w.heap.size s r) (hx : IB w w.heap.size u x) : Calls Tryz.prog 153 #[s, u] w (BoolPost w true) := by
 obtain ⟨A, n, c, rfl, ln, hm⟩ := h.form'
 obtain ⟨A2, n2, c2, rfl, ln2, hm2⟩ := hx.form'
 have hl := wordP_letters hx9
 have hrk : rankedP r = true := by unfold wordP at hx9; simp only [Bool.and_eq_true] at hx9; exact hx9.1.1
 have RK : Hid (∀ W, Bw w W → Calls Tryz.prog 103 #[.slice A n c] W (BoolPost W true)) := Lib.hid (fun W g => by rw [← hrk]; exact r5Ranks_any r _ _ (h.bw g))
 have HX := Lib.hid hx
 have HL := Lib.hid hl.1
 have n29 : n2 ≤ 12 := by have := hl.2; omega
 have LN := Lib.hid ln
 have LN2 := Lib.hid ln2
 clear h hx hx9 hl hrk ln ln2
 go_enter Tryz.func153, Tryz.ntmps153
 go_wp2
 go_loopw [5] (fun i wr => ∃ k : Nat, k ≤ n2 ∧ i = .int .i64 k ∧ Hid (Bw w wr)) (fun i _ => n2 - (intOf i).toNat)
 case atStart => exact ⟨0, by omega, by go_num, Lib.hid (Bw.refl _)⟩
 case round =>
   obtain ⟨k, hk, rfl, HW⟩ := hrel
   by_cases hlt : k < n2
   · have e1 : k < x.length := by rw [LN2.out]; exact hlt
     obtain ⟨ad, rfl, hb, q0⟩ := (HX.out.bw HW.out).at_ e1
     obtain ⟨x0, x1⟩ := HL.out _ (List.getElem_mem e1)
     rw [LN.out] at x1
     generalize x[k] = y at *
     have y0 : ¬ y < 0 := by omega
     have y1 : ¬ (n : Int) ≤ y := by omega
     go_wp2_with fail
     first
       | (go_quiet (fail); go_wp2)
       | skip
     go_roundw
     case rel => exact ⟨k + 1, by omega, by go_num, Lib.hid (HW.out.trans (by first | exact Bw.refl _ | exact (Bw.refl _).drewN _))⟩
     case measure => simp [intOf]; omega
   · obtain rfl : k = n2 := by omega
     have RK2 := Lib.hid (RK.out wr HW.out)
     have d12 : decide ((k : Int) ≤ 12) = true := by simp; omega
     go_wp2_with (go_at_call 103; go_must (refine RK2.out.mono ?_; rintro e w7 ⟨rfl, hg7⟩; (have HG7 := Lib.hid hg7); clear hg7))
     go_ret
     exact ⟨rfl, HW.out.trans HG7.out⟩
theorem r5leq_any (r a b : List Int) (ha9 : wordP r a = true) (hb9 : wordP r b = true) (q : Bool) (hq : pleB (rankAt r) a b = q) (sr sa sb : Value) (w : World) (hr : IB w w.heap.size sr r) (ha : IB w w.heap.size sa a) (hb : IB w w.heap.size sb b) :
   Calls Tryz.prog 93 #[sr, sa, sb] w (BoolPost w q) := by
 obtain ⟨RA, rn, rc, rfl, _, _⟩ := hr.form'
 obtain ⟨BA, bn, bc, rfl, lb, mb⟩ := hb.form'
 obtain ⟨AA, an, ac, rfl, la, ma⟩ := ha.form'
 have V1 : Hid (∀ W, Bw w W → Calls Tryz.prog 153 #[.slice RA rn rc, .slice AA an ac] W (BoolPost W true)) := Lib.hid (fun W g => r5Valid_any r a ha9 _ _ W (hr.bw g) (ha.bw g))
 have V2 : Hid (∀ W, Bw w W → Calls Tryz.prog 153 #[.slice RA rn rc, .slice BA bn bc] W (BoolPost W true)) := Lib.hid (fun W g => r5Valid_any r b hb9 _ _ W (hr.bw g) (hb.bw g))
 have SE : Hid (∀ W, Bw w W → Calls Tryz.prog 154 #[.slice RA rn rc, .slice AA an ac, .slice BA bn bc, .int .i64 0] W (EmbPost W q a.length)) := Lib.hid (fun W g => by
   have := r5find_any r b (by have := (wordP_letters hb9).2; omega) (wordP_letters hb9).1 a (by have := (wordP_letters ha9).2; omega) (wordP_letters ha9).1 0 _ _ _ W (by omega) (hr.bw g) (ha.bw g) (hb.bw g)
   rw [List.drop_zero, hq] at this
   exact this)
 have EM : Hid (∀ W, Bw w W → Calls Tryz.prog 121 #[.slice RA rn rc, .slice AA an ac, .slice BA bn bc] W (EmbPost W q a.length)) := Lib.hid (fun W g => by
   clear hr ha hb ha9 hb9 hq la lb ma mb
   have HG := Lib.hid g
   clear g
   unfold EmbPost at SE
   go_enter Tryz.func121, Tryz.ntmps121
   go_wp2_with (first
     | (go_at_call 153; (with_reducible refine (V1.out _ HG.out).mono ?_); rintro e w6 ⟨rfl, hg6⟩; (have HG6 := Lib.hid hg6); clear hg6)
     | (go_at_call 153; go_must ((with_reducible refine (V2.out _ (HG.out.trans HG6.out)).mono ?_); rintro e w7 ⟨rfl, hg7⟩; (have HG7 := Lib.hid hg7); clear hg7))
     | (go_at_call 154; go_must (refine (SE.out _ (HG.out.trans (HG6.out.trans HG7.out))).mono ?_; rintro e w8 ⟨rv, pl, rfl, hrv, hpl, hg8⟩; obtain ⟨V8, n8, c8, rfl, l8, m8⟩ := hrv.form'; (have HRV := Lib.hid hrv); (have HPL := Lib.hid hpl); (have HG8 := Lib.hid hg8); clear hg8 hrv hpl l8)))
   go_ret2
   exact ⟨_, pl, rfl, HRV.out, HPL.out, HG6.out.trans (HG7.out.trans HG8.out)⟩)
 clear hr ha hb ha9 hb9 hq la lb V1 V2 SE
 have EM2 := Lib.hid (EM.out w (Bw.refl _))
 unfold EmbPost at EM2
 go_enter Tryz.func93, Tryz.ntmps93
 go_wp2_with (go_at_call 121; go_must (refine EM2.out.mono ?_; rintro e w8 ⟨rv, pl, rfl, hrv, hpl, hg8⟩; obtain ⟨V8, n8, c8, rfl, l8, m8⟩ := hrv.form'; (have HG8 := Lib.hid hg8); clear hg8 hrv hpl l8))
 go_ret
 exact ⟨rfl, HG8.out⟩
end Go.Proofs.YtbmheekaclmibaaGreat
