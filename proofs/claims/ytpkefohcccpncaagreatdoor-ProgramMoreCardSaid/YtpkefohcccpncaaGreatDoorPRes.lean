/- The names of the threads that lines of kind spawn ask for become numbers. -/
import Derived.Test.YtpkefohcccpncaaGreatDoorPRes0
namespace Go.Proofs.YtpkefohcccpncaaGreatDoor
open Go.RowKit
set_option linter.unusedSimpArgs false
set_option linter.unusedVariables false

def lensum : List Th → Nat
  | [] => 0
  | t :: r => t.ls.length + lensum r
def R2 (all pre : List Th) (nm : ByteArray) (lp ls : List Ln) (rest : List Th) (ns ns2 : List (List UInt8)) : Option (List Th) :=
  match resLines all ls ns, resThs all rest ns2 with
  | some a, some b => some (pre ++ ⟨nm, lp ++ a⟩ :: b)
  | _, _ => none
theorem R2_start (all pre : List Th) (t : Th) (rest : List Th) (ns : List (List UInt8)) : (resThs all (t :: rest) ns).map (pre ++ ·) = R2 all pre t.nm [] t.ls rest ns (ns.drop t.ls.length) := by
  rw [resThs]
  unfold R2
  rcases resLines all t.ls ns with _ | a <;> rcases resThs all rest (ns.drop t.ls.length) with _ | b <;> rfl
theorem R2_end (all pre : List Th) (nm : ByteArray) (lp : List Ln) (rest : List Th) (ns ns2 : List (List UInt8)) : R2 all pre nm lp [] rest ns ns2 = (resThs all rest ns2).map ((pre ++ [⟨nm, lp⟩]) ++ ·) := by
  unfold R2 resLines
  rcases resThs all rest ns2 with _ | b <;> simp
theorem R2_none {all pre : List Th} {nm : ByteArray} {lp r : List Ln} {l : Ln} {rest : List Th} {ns ns2 : List (List UInt8)} (h : fixLn all l (ns.headD []) = none) : R2 all pre nm lp (l :: r) rest ns ns2 = none := by
  unfold R2 resLines
  rw [h]
theorem R2_some {all pre : List Th} {nm : ByteArray} {lp r : List Ln} {l l' : Ln} {rest : List Th} {ns ns2 : List (List UInt8)} (h : fixLn all l (ns.headD []) = some l') : R2 all pre nm lp (l :: r) rest ns ns2 = R2 all pre nm (lp ++ [l']) r rest ns.tail ns2 := by
  unfold R2
  rw [resLines, h]
  rcases resLines all r ns.tail with _ | a <;> rcases resThs all rest ns2 with _ | b <;> simp
theorem fixLn_ne {all : List Th} {l : Ln} {x : List UInt8} (h : x ≠ []) : fixLn all l x = match findTh all x with
    | none => none
    | some a => some ⟨l.k, a, l.n⟩ := by
  cases x with
  | nil => exact absurd rfl h
  | cons c y => rfl
theorem lensum_drop (ts : List Th) (k : Nat) (hk : k < ts.length) : lensum (ts.drop k) = ts[k].ls.length + lensum (ts.drop (k + 1)) := by
  rw [List.drop_eq_getElem_cons hk]; rfl
theorem mid_set (pre : List Th) (nm : ByteArray) (lp : List Ln) (l : Ln) (r : List Ln) (rest : List Th) (a : Int) {k j : Nat} (hk : pre.length = k) (hj : lp.length = j) :
    pre ++ ⟨nm, (lp ++ [⟨l.k, a, l.n⟩]) ++ r⟩ :: rest = (pre ++ (⟨nm, lp ++ l :: r⟩ : Th) :: rest).set k ⟨nm, (lp ++ l :: r).set j ⟨l.k, a, l.n⟩⟩ := by
  subst hk; subst hj
  rw [List.set_append_right _ _ (Nat.le_refl _), List.set_append_right _ _ (Nat.le_refl _)]
  simp
def ResPost (w : World) (B g : Nat) (st : PS) (tv nv : Value) (vs : List Value) (lim : Nat) (R : Option (List Th)) (e : Ending) (w' : World) : Prop :=
  e = .returned (.bool R.isSome) ∧ FrB B g w w' ∧ ∀ ts', R = some ts' → PsI w' B g { st with ts := ts' } tv nv vs lim
set_option maxRecDepth 100000 in
set_option maxHeartbeats 4000000 in
theorem resolve_any (B g : Nat) (st : PS) (tv nv : Value) (vs : List Value) (lim : Nat) (w : World) (h : PsI w B g st tv nv vs lim) (hB : PsB st 5000) (hne : st.ts ≠ []) (hsum : lensum st.ts = st.ns.length)
    (R : Option (List Th)) (hR : resThs st.ts st.ts st.ns = R) :
    Calls Tryz.prog 55 #[.pointer (some ⟨g, 0, none⟩)] w (ResPost w B g st tv nv vs lim R) := by
  obtain ⟨q0, q1, q2, q3, f0, f1, f2, f3⟩ := h.cells
  obtain ⟨gt, c, rfl, hgtB, hgtl⟩ := h.th.form (List.length_pos_iff.2 hne)
  obtain ⟨NA, nc, rfl⟩ := own_form h.nm
  obtain ⟨nT, hnT⟩ : ∃ n, st.ts.length = n := ⟨_, rfl⟩
  obtain ⟨nN, hnN⟩ : ∃ n, st.ns.length = n := ⟨_, rfl⟩
  have hnT5 : nT ≤ 5000 := by rw [← hnT]; exact hB.ts
  have hnN5 : nN ≤ 5000 := by rw [← hnN]; exact hB.ns
  rw [hnT] at q1
  have H := Lib.hid h
  have HB := Lib.hid hB
  have HR := Lib.hid hR
  have HS := Lib.hid hsum
  have HNT := Lib.hid hnT
  have HNN := Lib.hid hnN
  have hgB := h.gB
  have hBw := h.Bw
  clear h hB hne hR hsum hnT hnN q0 q2 q3 f0 f1 f2 f3
  go_enter Tryz.func55, Tryz.ntmps55
  go_wp2_with fail
  go_loopw [3, 14] (fun at_ i wr => ∃ (k n : Nat), k ≤ nT ∧ n ≤ nN ∧ i = .int .i64 k ∧ at_ = .int .i64 n ∧ Hid (∃ pre, pre.length = k ∧ PsI wr B g { st with ts := pre ++ st.ts.drop k } (.slice (some ⟨gt, 0, none⟩) st.ts.length c) (.slice NA st.ns.length nc) vs lim ∧ FrB B g w wr ∧
    R = (resThs st.ts (st.ts.drop k) (st.ns.drop n)).map (pre ++ ·) ∧ n + lensum (st.ts.drop k) = st.ns.length ∧ pre.map (·.nm) = (st.ts.take k).map (·.nm))) (fun _ i _ => nT - (intOf i).toNat)
  case atStart =>
    refine ⟨0, 0, by omega, by omega, rfl, rfl, Lib.hid ⟨[], rfl, H.out, FrB.refl B g w, ?_, ?_, rfl⟩⟩
    · rw [← HR.out]; simp
    · simpa using HS.out
  case round =>
    clear q1
    obtain ⟨wo, rfl⟩ : ∃ wo : World, wo = wr := ⟨_, rfl⟩
    obtain ⟨k, n, hk, hn, rfl, rfl, HI⟩ := hrel
    obtain ⟨pre, hpl, hp, hfr, hRR, hsm, hpn⟩ := HI.out
    by_cases hlt : k < nT
    · have hkt : k < st.ts.length := by rw [HNT.out]; exact hlt
      obtain ⟨t, ht⟩ : ∃ t, st.ts[k] = t := ⟨_, rfl⟩
      obtain ⟨ln, hln⟩ : ∃ ln, t.ls.length = ln := ⟨_, rfl⟩
      have hln5 : ln ≤ 5000 := by rw [← hln, ← ht]; exact HB.out.ls _ (List.getElem_mem hkt)
      have hdr : st.ts.drop k = t :: st.ts.drop (k + 1) := by rw [List.drop_eq_getElem_cons hkt, ht]
      have hvk : k < vs.length := by rw [hp.vl, hdr]; simp; omega
      have hown := hp.ln k hvk (by rw [hdr]; simp; omega)
      have htk : ∀ hh, (pre ++ st.ts.drop k)[k]'hh = t := by
        intro hh
        rw [List.getElem_append_right (by omega)]
        simp only [hpl, Nat.sub_self, List.getElem_drop, Nat.add_zero, ht]
      simp only [htk] at hown
      obtain ⟨LA, lc, hvv⟩ := own_form hown
      rw [hln] at hvv
      obtain ⟨_, q1, _, _, _, f1, _, _⟩ := hp.cells
      rw [HNT.out] at q1
      have hth := hp.th
      have hlen : (pre ++ st.ts.drop k).length = st.ts.length := by simp [hpl]; omega
      simp only [hlen] at hth
      have hc1 : wo.cell? ⟨gt, k * 2 + 1, none⟩ = some (.slice LA ln lc) := by
        rw [hth.cellAt (k * 2 + 1) (by omega), (thCells_get _ vs hp.vl k (by rw [hlen]; exact hkt)).2, hvv]
      have hsm2 : n + ln ≤ nN := by
        rw [lensum_drop _ _ hkt, ht, hln, HNN.out] at hsm; omega
      have hgtw : gt < wo.heap.size := (hth.lt gt rfl).2
      have hgw : g < wo.heap.size := hp.blk.lt
      have HP := Lib.hid hp
      have HFR := Lib.hid hfr
      have HRR := Lib.hid hRR
      have HSM := Lib.hid hsm
      have HPN := Lib.hid hpn
      have HPL := Lib.hid hpl
      have HT := Lib.hid ht
      have HLN := Lib.hid hln
      have HDR := Lib.hid hdr
      have HVV := Lib.hid hvv
      have HVK := Lib.hid hvk
      have HKT := Lib.hid hkt
      clear hp hfr hRR hsm hpn hpl ht hln hdr hvv hown htk hth hlen HI f1
      go_wp2_with fail
      clear q1 hc1
      go_loopw [3, 27] (fun at_ i wr => ∃ (j : Nat), j ≤ ln ∧ i = .int .i64 j ∧ at_ = .int .i64 ((n + j : Nat) : Int) ∧ Hid (∃ lp, lp.length = j ∧ PsI wr B g { st with ts := pre ++ ⟨t.nm, lp ++ t.ls.drop j⟩ :: st.ts.drop (k + 1) } (.slice (some ⟨gt, 0, none⟩) st.ts.length c) (.slice NA st.ns.length nc) vs lim ∧ FrB B g w wr ∧
        R = R2 st.ts pre t.nm lp (t.ls.drop j) (st.ts.drop (k + 1)) (st.ns.drop (n + j)) (st.ns.drop (n + ln)))) (fun _ i _ => ln - (intOf i).toNat)
      case atStart =>
        refine ⟨0, by omega, rfl, rfl, Lib.hid ⟨[], rfl, ?_, HFR.out, ?_⟩⟩
        · have := HP.out; rw [HDR.out] at this; simpa using this
        · rw [HRR.out, HDR.out, R2_start, HLN.out, List.drop_drop]; rfl
      case round =>
        obtain ⟨j, hj, rfl, rfl, HI⟩ := hrel
        obtain ⟨lp, hlp, hp, hfr, hRR⟩ := HI.out
        by_cases hjl : j < ln
        · have hjt : j < t.ls.length := by rw [HLN.out]; exact hjl
          obtain ⟨l, hl⟩ : ∃ l, t.ls[j] = l := ⟨_, rfl⟩
          obtain ⟨r, hr⟩ : ∃ r, t.ls.drop (j + 1) = r := ⟨_, rfl⟩
          have hdl : t.ls.drop j = l :: r := by rw [List.drop_eq_getElem_cons hjt, hl, hr]
          have hrl : lp.length + (r.length + 1) = ln := by rw [hlp, ← hr, List.length_drop, HLN.out]; omega
          have hnx : n + j < st.ns.length := by rw [HNN.out]; omega
          obtain ⟨x, hx⟩ : ∃ x, st.ns[n + j] = x := ⟨_, rfl⟩
          obtain ⟨key, hkey⟩ : ∃ key : ByteArray, (⟨x.toArray⟩ : ByteArray) = key := ⟨_, rfl⟩
          have hkd : x = key.data.toList := by rw [← hkey]
          have hnd : (st.ns.drop (n + j)).headD [] = x := by rw [List.drop_eq_getElem_cons hnx, hx]; rfl
          have hnt : (st.ns.drop (n + j)).tail = st.ns.drop (n + (j + 1)) := by rw [List.tail_drop]; rfl
          rw [hdl] at hp hRR
          obtain ⟨T, hT⟩ : ∃ T, pre ++ (⟨t.nm, lp ++ l :: r⟩ : Th) :: st.ts.drop (k + 1) = T := ⟨_, rfl⟩
          have hTlen : T.length = st.ts.length := by rw [← hT]; simp [HPL.out]; have := HKT.out; omega
          have hkT : k < T.length := by rw [hTlen]; exact HKT.out
          have hTk : T[k] = ⟨t.nm, lp ++ l :: r⟩ := by
            simp only [← hT]
            rw [List.getElem_append_right (by rw [HPL.out]; exact Nat.le_refl _)]
            simp [HPL.out]
          have hTn : T.map (·.nm) = st.ts.map (·.nm) := by
            rw [← hT, List.map_append, HPN.out, List.map_cons]
            have e := congrArg (List.map (fun (y : Th) => y.nm)) (List.take_append_drop k st.ts)
            rw [List.map_append, HDR.out, List.map_cons] at e
            exact e
          rw [hT] at hp
          obtain ⟨gn, cn, hgn, _, hgnl⟩ := hp.nm.form (show 0 < st.ns.length by omega)
          injection hgn with hgn1 hgn3 hgn2
          clear hgn3
          subst hgn1; subst hgn2
          obtain ⟨_, q1, _, q3, _, f1, _, _⟩ := hp.cells
          rw [HNN.out] at q3
          rw [HNT.out] at q1
          have qn : wr.cell? ⟨gn, n + j, none⟩ = some (.string key) := by
            rw [hp.nm.cellAt (n + j) (show n + j < st.ns.length * 1 by omega)]
            rw [List.getElem?_map, List.getElem?_eq_getElem hnx, hx, ← hkey]; rfl
          have hgw2 : g < wr.heap.size := hp.blk.lt
          have hgtw2 : gt < wr.heap.size := (hp.th.lt gt rfl).2
          have hWB := hp.Bw
          have HT2 := Lib.hid hT
          have HP2 := Lib.hid hp
          have HFR2 := Lib.hid hfr
          have HRR2 := Lib.hid hRR
          have HLP := Lib.hid hlp
          by_cases h0 : key.size = 0
          · have c2 := str_nil h0
            have c3 := str_empty h0
            have hx0 : x = [] := by rw [hkd]; exact List.length_eq_zero_iff.1 (by rw [size_data]; exact h0)
            have HF : Hid (R = R2 st.ts pre t.nm (lp ++ [l]) r (st.ts.drop (k + 1)) (st.ns.drop (n + (j + 1))) (st.ns.drop (n + ln))) := Lib.hid (by
              rw [hRR, R2_some (l' := l) (by rw [hnd, hx0]; rfl), hnt])
            have HRE := Lib.hid hr
            clear hp hfr hRR hlp HI hT hTk hTn hkT hTlen hdl hl hr hrl hx hkey hkd hnd hnt h0 hx0
            go_wp2_with fail
            go_roundw
            case rel =>
              refine ⟨j + 1, by omega, by go_num, by go_num, Lib.hid ⟨lp ++ [l], by simp [HLP.out], ?_, HFR2.out.alloc hWB _, ?_⟩⟩
              · have := HP2.out.alloc (.cells #[.string key] 9)
                rw [HRE.out, List.append_assoc]
                rw [← HT2.out] at this
                exact this
              · rw [HRE.out]; exact HF.out
            case measure => simp [intOf]; omega
          · have c2 := str_ne h0
            have hx0 : x ≠ [] := by rw [hkd]; intro e; exact h0 (by rw [← size_data, e]; rfl)
            have hRF : R = (match (match findTh st.ts x with
                | none => none
                | some a => some ⟨l.k, a, l.n⟩ : Option Ln) with
              | none => none
              | some l' => R2 st.ts pre t.nm (lp ++ [l']) r (st.ts.drop (k + 1)) (st.ns.drop (n + (j + 1))) (st.ns.drop (n + ln))) := by
              rw [hRR]
              have e := fixLn_ne (all := st.ts) (l := l) hx0
              rcases hf : findTh st.ts x with _ | a
              · rw [hf] at e; rw [R2_none (by rw [hnd]; exact e)]
              · rw [hf] at e; rw [R2_some (l' := ⟨l.k, a, l.n⟩) (by rw [hnd]; exact e), hnt]
            have hvkT : k < vs.length := hp.vl ▸ hkT
            have hlk := hp.ln k hvkT hkT
            have hvk2 : vs[k] = .slice LA ln lc := HVV.out
            rw [hvk2] at hlk
            have hTls : T[k].ls.length = ln := by rw [hTk]; simp; omega
            obtain ⟨lb, cl, hlb, hlbB, hlbl⟩ := hlk.form (by rw [hTls]; omega)
            injection hlb with hlb1 hlb3 hlb2
            clear hlb3
            subst hlb1; subst hlb2
            have IX : Hid (Calls Tryz.prog 75 #[.slice (some ⟨gt, 0, none⟩) nT c, .func (.func 76) #[] #[.pointer (some ⟨wr.heap.size, 0, none⟩)]] (wr.alloc (.cells #[.string key] 9)) fun e w' => e = .returned (.int .i64 (thR T x)) ∧ Below (wr.alloc (.cells #[.string key] 9)).heap.size (wr.alloc (.cells #[.string key] 9)) w') := Lib.hid (by
              have hA := hp.alloc (.cells #[.string key] 9)
              have hAt : (wr.alloc (.cells #[.string key] 9)).ownsRow B 45 2 (.slice (some ⟨gt, 0, none⟩) st.ts.length c) st.ts.length (thCells T vs) := by
                have := hA.th
                simp only [hTlen] at this; exact this
              have h1 := idxTh_any T vs gt c key wr.heap.size (wr.alloc (.cells #[.string key] 9)) (by rw [hTlen, HNT.out]; exact hnT5) (by simp; omega)
                (fun k2 h2 h3 => ⟨by have := hAt.cellAt (k2 * 2) (by omega); rw [this]; exact (thCells_get T vs hp.vl k2 h2).1, by have := hAt.cellAt (k2 * 2 + 1) (by omega); rw [this]; exact (thCells_get T vs hp.vl k2 h2).2⟩)
                hp.vl (by rw [cell_of_row _ _ _ _ _ _ (heap_alloc_new wr _)]; rfl) (by simp)
              rw [hTlen, HNT.out] at h1
              rw [hkd]; exact h1)
            have FACTS : Hid (∀ w6, Below (wr.alloc (.cells #[.string key] 9)).heap.size (wr.alloc (.cells #[.string key] 9)) w6 → w6.cell? ⟨g, 1, none⟩ = some (.slice (some ⟨gt, 0, none⟩) nT c) ∧ w6.frozen? ⟨g, 1, none⟩ = false ∧ w6.cell? ⟨gt, k * 2 + 1, none⟩ = some (.slice (some ⟨lb, 0, none⟩) ln lc) ∧ w6.cell? ⟨lb, j * 3 + 1, none⟩ = some (.int .i64 l.a) ∧ w6.frozen? ⟨lb, j * 3 + 1, none⟩ = false ∧ FrB B g w w6 ∧
                ∀ a : Int, PsI (w6.setCell ⟨lb, j * 3 + 1, none⟩ (.int .i64 a)) B g { st with ts := pre ++ ⟨t.nm, (lp ++ [⟨l.k, a, l.n⟩]) ++ r⟩ :: st.ts.drop (k + 1) } (.slice (some ⟨gt, 0, none⟩) st.ts.length c) (.slice (some ⟨gn, 0, none⟩) st.ns.length nc) vs lim ∧ FrB B g w (w6.setCell ⟨lb, j * 3 + 1, none⟩ (.int .i64 a))) := Lib.hid (by
              intro w6 hb6
              have hA := hp.alloc (.cells #[.string key] 9)
              have h6 := hA.below hb6
              obtain ⟨_, q1, _, _, _, f1, _, _⟩ := h6.cells
              rw [HNT.out] at q1
              have hl6 := h6.ln k hvkT hkT
              rw [hvk2] at hl6
              simp only [hTls] at hl6
              have hf6 : FrB B g w w6 := (HFR2.out.alloc hWB _).trans (FrB.of_below hb6 (by simp; omega))
              have hjl2 : (lnCells T[k].ls)[j * 3 + 1]? = some (.int .i64 l.a) := by
                rw [hTk, (lnCells_get (lp ++ l :: r) j (by simp; omega)).2.1]
                simp [← hlp]
              refine ⟨q1, f1, ?_, ?_, hl6.frozenAt _, hf6, fun a => ?_⟩
              · have h6t : w6.ownsRow B 45 2 (.slice (some ⟨gt, 0, none⟩) st.ts.length c) st.ts.length (thCells T vs) := by
                  have := h6.th
                  simp only [hTlen] at this; exact this
                have := h6t.cellAt (k * 2 + 1) (by omega)
                rw [this]
                exact ((thCells_get T vs hp.vl k hkT).2).trans (by rw [hvk2])
              · exact (hl6.cellAt (j * 3 + 1) (by omega)).trans hjl2
              · have hTj : ∀ h2 : j < T[k].ls.length, T[k].ls[j] = l := by
                  intro h2
                  simp only [hTk]
                  rw [List.getElem_append_right (by omega)]
                  simp [hlp]
                have h7 := h6.lineA (i := k) (j := j) hkT hvkT (by show j < T[k].ls.length; rw [hTls]; exact hjl) a (lb := lb) (lc := lc) (by rw [hvk2]; show _ = Value.slice _ T[k].ls.length lc; rw [hTls]) (ts' := pre ++ ⟨t.nm, (lp ++ [⟨l.k, a, l.n⟩]) ++ r⟩ :: st.ts.drop (k + 1)) (by
                  rw [mid_set pre t.nm lp l r (st.ts.drop (k + 1)) a HPL.out hlp]
                  show _ = T.set k ⟨T[k].nm, T[k].ls.set j ⟨T[k].ls[j].k, a, T[k].ls[j].n⟩⟩
                  rw [hT, hTj (by rw [hTls]; exact hjl), hTk])
                exact ⟨h7.1, hf6.trans h7.2⟩)
            have hfn : findTh T x = findTh st.ts x := findTh_names _ _ _ hTn
            rcases hf : findTh st.ts x with _ | a
            · have HF : Hid (R = none) := Lib.hid (by rw [hRF, hf])
              have hthr : thR T x = -1 := by unfold thR; rw [hfn, hf]
              rw [hthr] at IX
              clear hp hfr hRR hlp HI hT hTk hTn hkT hTlen hdl hl hr hrl hx hkey hkd hnd hnt h0 hx0 hlk hRF hf hfn hthr hTls
              go_wp2_with (go_at_call 75; go_must (refine IX.out.mono ?_; rintro e w6 ⟨rfl, hb6⟩; (have HFC := Lib.hid (FACTS.out w6 hb6)); clear hb6))
              go_ret
              obtain ⟨_, _, _, _, _, hfr6, _⟩ := HFC.out
              exact ⟨ret_bool (by rw [HF.out]; rfl), hfr6, fun ts' e => by rw [HF.out] at e; cases e⟩
            · have HF : Hid (R = R2 st.ts pre t.nm (lp ++ [⟨l.k, a, l.n⟩]) r (st.ts.drop (k + 1)) (st.ns.drop (n + (j + 1))) (st.ns.drop (n + ln))) := Lib.hid (by rw [hRF, hf])
              have hthr : thR T x = (a : Int) := by unfold thR; rw [hfn, hf]
              rw [hthr] at IX
              have HRE := Lib.hid hr
              clear hp hfr hRR hlp HI hT hTk hTn hkT hTlen hdl hl hr hrl hx hkey hkd hnd hnt h0 hx0 hlk hRF hf hfn hthr hTls
              go_wp2_with (go_at_call 75; go_must (refine IX.out.mono ?_; rintro e w6 ⟨rfl, hb6⟩; (obtain ⟨r1, r2, r3, r4, r5, r6, r7⟩ := FACTS.out w6 hb6); (have HFC := Lib.hid r7); clear hb6 r7))
              go_roundw
              case rel =>
                refine ⟨j + 1, by omega, by go_num, by go_num, Lib.hid ⟨lp ++ [⟨l.k, a, l.n⟩], by simp [HLP.out], ?_, (HFC.out _).2, ?_⟩⟩
                · rw [HRE.out]; exact (HFC.out _).1
                · rw [HRE.out]; exact HF.out
              case measure => simp [intOf]; omega
        · obtain rfl : j = ln := by omega
          have HP3 := Lib.hid hp
          have HFR3 := Lib.hid hfr
          have HRR3 := Lib.hid hRR
          have HLP3 := Lib.hid hlp
          clear hp hfr hRR hlp HI
          go_wp2_with fail
          go_roundw
          case rel =>
            refine ⟨k + 1, n + j, by omega, by omega, by go_num, rfl, Lib.hid ⟨pre ++ [⟨t.nm, lp⟩], by simp [HPL.out], ?_, HFR3.out, ?_, ?_, ?_⟩⟩
            · have := HP3.out
              rw [List.drop_of_length_le (by rw [HLN.out]; exact Nat.le_refl _)] at this
              simpa using this
            · rw [HRR3.out, List.drop_of_length_le (by rw [HLN.out]; exact Nat.le_refl _), R2_end]
            · have := HSM.out
              rw [lensum_drop _ _ HKT.out, HT.out, HLN.out] at this
              omega
            · rw [List.map_append, HPN.out, List.take_succ_eq_append_getElem HKT.out, List.map_append, HT.out]; rfl
          case measure => simp [intOf]; omega
    · obtain rfl : k = nT := by omega
      have HF : Hid (R = some pre) := Lib.hid (by
        rw [hRR, List.drop_of_length_le (by rw [HNT.out]; exact Nat.le_refl _)]; simp [resThs])
      have HP3 : Hid (PsI wo B g { st with ts := pre } (.slice (some ⟨gt, 0, none⟩) st.ts.length c) (.slice NA st.ns.length nc) vs lim) := Lib.hid (by
        have := hp
        rw [List.drop_of_length_le (by rw [HNT.out]; exact Nat.le_refl _)] at this
        simpa using this)
      have HFR3 := Lib.hid hfr
      clear hp hfr hRR hsm hpn HI
      go_wp2_with fail
      go_ret
      refine ⟨ret_bool (by rw [HF.out]; rfl), HFR3.out, fun ts' e => ?_⟩
      rw [HF.out] at e; injection e with e; subst e
      exact HP3.out
end Go.Proofs.YtpkefohcccpncaaGreatDoor
