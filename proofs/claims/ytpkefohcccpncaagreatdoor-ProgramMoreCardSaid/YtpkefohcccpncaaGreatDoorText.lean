/- The text of a program. -/
import Derived.Test.YtpkefohcccpncaaGreatDoorTextOf
import Derived.Test.YtpkefohcccpncaaGreatDoorTextLaw
namespace Go.Proofs.YtpkefohcccpncaaGreatDoor
open Go.RowKit
set_option linter.unusedSimpArgs false
set_option linter.unusedVariables false

theorem infoString : (Tryz.prog.info? 9).map (fun i => (i.zero, i.size, i.bytes)) = some (some (.string ⟨#[]⟩), 1, 16) := by kernel_rfl
theorem own_kept_below {w w' : World} {base : Nat} {e size : Nat} {v : Value} {n : Nat} {xs : List Value} (h : w.ownsRow base e size v n xs) (hb : Below w.heap.size w w') : w'.ownsRow base e size v n xs :=
  h.kept (grownBy_of_below hb none) (by cases v.ownBlock <;> simp)
def strVs (L : List ByteArray) : List Value := L.map Value.string
theorem strVs_snoc (L : List ByteArray) (x : ByteArray) : strVs L ++ [.string x] = strVs (L ++ [x]) := by simp [strVs]
def bytesL (L : List ByteArray) : List (List UInt8) := L.map (·.data.toList)
theorem below_ownGrown {B : Nat} {w w1 w2 : World} {e size : Nat} {v : Value} {n : Nat} {xs : List Value} (h : Below B w w1) (hown : w1.ownsRow B e size v n xs) (hg : w1.grownBy w2 v.ownBlock) (hB : B ≤ w1.heap.size) : Below B w w2 :=
  h.grown hg hB (fun j hj => (hown.lt j hj).1)
theorem strcell1 (w : World) (o : Obj) (x : ByteArray) : ∀ j u, [Value.string x][j]? = some u → ((w.alloc o).alloc (.cells #[.string x] 9)).cell? ((⟨w.heap.size + 1, 0, none⟩ : Addr).add j) = some u := fun j u h => by
  simpa using cells_new_list (w.alloc o) 9 [.string x] j u h
def TextPost (w : World) (p : Prg) (b : Bool) (e : Ending) (w' : World) : Prop := Below w.heap.size w w' ∧ ∃ s : ByteArray, e = .returned (.tuple #[.string s, .int .i64 (chkR b)]) ∧ (b = true → s.data.toList = textP p)
set_option maxRecDepth 100000 in
set_option maxHeartbeats 4000000 in
theorem text_any (p : Prg) (A : Option Addr) (n c : Nat) (w : World) (hT : ThsAt w w.heap.size A p.ts) (hn : p.ts.length = n) (hg : GlobP w) (hok : PrgOk p) (b : Bool) (hb : checkP p = b) :
    Calls Tryz.prog 16 #[.agg #[.int .i64 p.v, .slice A n c]] w (TextPost w p b) := by
  have CK : Hid (∀ o, Calls Tryz.prog 18 #[.agg #[.int .i64 p.v, .slice A n c]] (w.alloc o) fun e w' => e = .returned (.int .i64 (chkR b)) ∧ Below (w.alloc o).heap.size (w.alloc o) w') := Lib.hid (fun o =>
    check_any p A n c (w.alloc o) (hT.up ((Below.refl _ _).alloc (Nat.le_refl _) o)) hn (hg.below ((Below.refl _ _).alloc (Nat.le_refl _) o)) hok b hb)
  rcases b with _ | _
  · generalize p.v = v at *
    clear hT hn hg hok hb
    go_enter Tryz.func16, Tryz.ntmps16
    go_wp2_with (go_at_call 18; go_must (refine (CK.out _).mono ?_; rintro e w1 ⟨rfl, hb1⟩; unfold chkR))
    go_ret2
    exact ⟨((Below.refl _ _).alloc (Nat.le_refl _) _).trans (hb1.mono (by simp)), _, rfl, fun h => by cases h⟩
  · have hv := valid_of hb
    have h6 := valid_l6 hb
    obtain ⟨i0, hi, hz0, hz1, hz2⟩ := info_parts infoString
    obtain ⟨u, hu⟩ := Int.eq_ofNat_of_zero_le (show 0 ≤ p.v by have := hv.v1; omega)
    have hu8 : u ≤ 8 := by have := hv.v8; omega
    have IT : ∀ W : World, Calls Tryz.prog 40 #[.int .i64 p.v] W fun e w' => e = .returned (.string ⟨(Lib.itoa p.v).toArray⟩) ∧ W = w' := fun W => by
      have := Tryz.strconv_Itoa_small u (by omega) W
      rw [hu, Lib.itoa_nonneg]; exact this.mono fun e w' h => ⟨h.1, h.2.symm⟩
    obtain ⟨du, hdu⟩ : ∃ du : ByteArray, du = ⟨(Lib.itoa p.v).toArray⟩ := ⟨_, rfl⟩
    rw [← hdu] at IT
    have hdl : du.size ≤ 7 := by rw [hdu]; exact decD_len (by have := hv.v1; omega) (by have := hv.v8; omega)
    have HDU : Hid (kwValues ++ 32 :: Lib.itoa p.v = [118, 97, 108, 117, 101, 115, 32] ++ du.data.toList) := Lib.hid (by rw [hdu]; rfl)
    have HIT := Lib.hid IT
    have hn6 : n ≤ 6 := by rw [← hn]; exact hv.t6
    have TO : Hid (∀ (W : World), Below w.heap.size w W → ∀ m l, LnOk p m l → Calls Tryz.prog 41 #[.agg #[.int .i64 p.v, .slice A n c], .agg #[.int .i64 l.k, .int .i64 l.a, .int .i64 l.n]] W (StrPost W (lineT p l))) := Lib.hid (fun W hW m l hl =>
      textOf_any p A n c W ((hT.below hW).more hW.size) hn (by omega) (hg.below hW) m l hl)
    have HT := Lib.hid hT
    have HV := Lib.hid hv
    have H6 := Lib.hid h6
    have HN := Lib.hid hn
    have HBC := Lib.hid hb
    clear hT hn hg hok hb hv h6 hu IT hdu
    generalize hpv : p.v = v at *
    have HPV := Lib.hid hpv
    clear hpv
    go_enter Tryz.func16, Tryz.ntmps16
    go_wp2_with (first
      | (go_at_call 18; go_must (refine (CK.out _).mono ?_; rintro e w1 ⟨rfl, hb1⟩; unfold chkR; (have hpb : Blk w1 w.heap.size 28 #[.int .i64 v, .slice A n c] := (Blk.new w _ _).below hb1 (by simp)); (have p0 := hpb.cell 0); (have p1 := hpb.cell 1); (have HPB := Lib.hid hpb); (have z1 : w.heap.size < w1.heap.size := by have := hb1.size; simp at this; omega); clear hpb))
      | (go_at_call 40; go_must (refine (HIT.out _).mono ?_; rintro e w' ⟨rfl, rfl⟩)))
    have HB1 := Lib.hid (((Below.refl w.heap.size w).alloc (Nat.le_refl _) _).trans (hb1.mono (by simp)))
    clear hb1 CK
    go_loopw [5, 23] (fun s5 i wr => ∃ (k : Nat) (L : List ByteArray), k ≤ n ∧ i = .int .i64 k ∧ Hid (bytesL L = textLs p k ∧ wr.ownsRow w.heap.size 9 1 s5 L.length (strVs L) ∧ Below w.heap.size w wr ∧ Blk wr w.heap.size 28 #[.int .i64 v, .slice A n c])) (fun _ i _ => n - (intOf i).toNat)
    case atStart =>
      refine ⟨0, [⟨#[118, 97, 108, 117, 101, 115, 32]⟩ ++ du], by omega, rfl, Lib.hid ⟨?_, ?_, HB1.out.alloc (by omega) _, HPB.out.alloc _⟩⟩
      · simp only [bytesL, List.map_cons, List.map_nil, textLs, append_data, List.take_zero, List.flatMap_nil]
        rw [HPV.out, HDU.out]
      · exact World.ownsRow_lit w1 _ 1 (by omega) (by unfold maxLen; omega) rfl
    case round =>
      obtain ⟨wo, rfl⟩ : ∃ wo : World, wo = wr := ⟨_, rfl⟩
      obtain ⟨k, L, hk, rfl, HR⟩ := hrel
      obtain ⟨hbl, hown, hbw, hpb⟩ := HR.out
      have hlen : L.length ≤ 49 := by
        have h1 := (textLs_len HBC.out k (by rw [HN.out]; exact hk)).1
        rw [← hbl] at h1
        simp only [bytesL, List.length_map] at h1
        omega
      have zwo : w.heap.size < wo.heap.size := hpb.lt
      by_cases hlt : k < n
      · have hkp : k < p.ts.length := by rw [HN.out]; exact hlt
        obtain ⟨ad, LA, lc, rfl, hab, h0, h1, hL⟩ := HT.out.at_ hkp
        replace h0 := (hbw.cell (p := ad.add (k * 2)) (by rw [add_block]; exact hab)).trans h0
        replace h1 := (hbw.cell (p := ⟨(ad.add (k * 2)).block, (ad.add (k * 2)).off + 1, none⟩) (by simp only [add_block]; exact hab)).trans h1
        obtain ⟨m, hm⟩ := thsOk_at _ _ HV.out.ths k hkp
        have hl6 := H6.out _ (List.getElem_mem hkp)
        have HSU := Lib.hid (textLs_succ hkp)
        generalize ht : p.ts[k]'hkp = t at *
        obtain ⟨nm, ls⟩ := t
        dsimp only at *
        obtain ⟨ln, hln⟩ : ∃ ln, ls.length = ln := ⟨_, rfl⟩
        rw [hln] at h1 hl6
        have hnm12 : nm.size ≤ 12 := named_len hm.nm
        have p0 := hpb.cell 0
        have p1 := hpb.cell 1
        have HM := Lib.hid hm
        have HL := Lib.hid hL
        have HLN := Lib.hid hln
        have HBW := Lib.hid hbw
        have HOWN := Lib.hid hown
        have HPB2 := Lib.hid hpb
        have HBL := Lib.hid hbl
        have HNE := Lib.hid (own_blk_ne hown hpb (by decide))
        have HNE2 : Hid (u5.ownBlock ≠ some wo.heap.size) := Lib.hid (fun e => absurd (hown.lt _ e).2 (Nat.lt_irrefl _))
        clear hm hL hln hbw hown hpb ht hbl
        go_wp2_with (at_builtin; go_must (refine wpList_append_own _ rfl _ _ 60 rfl w.heap.size 9 i0 _ 1 16 Tryz.underlying60 hi hz0 hz1 hz2 rfl (by decide) _ _ _ rfl ((HOWN.out.alloc _).alloc _) ⟨wo.heap.size + 1, 0, none⟩ 1 1 [.string (⟨#[116, 104, 114, 101, 97, 100, 32]⟩ ++ nm)] rfl rfl (strcell1 wo _ _) (by simp [Value.oneCell']) (by unfold maxLen; omega) (by omega) (by simp; omega) ?_; intro v2 w2 hown2 hgr2 _; obtain ⟨A2, c2, rfl⟩ := own_form hown2; (have q2 : Blk w2 wo.heap.size 45 #[.string nm, .slice LA ln lc] := ((Blk.new wo _ _).alloc _).grown hgr2 (by intro e; exact HNE2.out e.symm)); (have r2 : Blk w2 w.heap.size 28 #[.int .i64 v, .slice (some ad) n c] := ((HPB2.out.alloc _).alloc _).grown hgr2 (by intro e; exact HNE.out e.symm)); (have t0 := q2.cell 0); (have t1 := q2.cell 1); (have hb2 : Below w.heap.size w w2 := below_ownGrown ((HBW.out.alloc (by omega) _).alloc (by simp; omega) _) ((HOWN.out.alloc _).alloc _) hgr2 (by simp; omega)); (have z2 : wo.heap.size + 1 < w2.heap.size := by have := hgr2.size; simp at this; omega); (have HQ2 := Lib.hid q2); (have HR2 := Lib.hid r2); (have HO2 := Lib.hid hown2); (have HB2 := Lib.hid hb2); clear q2 r2 hown2 hgr2 hb2))
        have zw2 : w.heap.size < w2.heap.size := by omega
        go_loopw [5, 36] (fun s5 i wr => ∃ (j : Nat) (L2 : List ByteArray), j ≤ ln ∧ L2.length = L.length + 1 + j ∧ i = .int .i64 j ∧ Hid (bytesL L2 = textLs p k ++ (kwThread ++ 32 :: nm.data.toList) :: (ls.take j).map (lineT p) ∧ wr.ownsRow w.heap.size 9 1 s5 L2.length (strVs L2) ∧ Below w.heap.size w wr ∧ Blk wr w.heap.size 28 #[.int .i64 v, .slice (some ad) n c] ∧ Blk wr wo.heap.size 45 #[.string nm, .slice LA ln lc])) (fun _ i _ => ln - (intOf i).toNat)
        case atStart =>
          refine ⟨0, L ++ [⟨#[116, 104, 114, 101, 97, 100, 32]⟩ ++ nm], by omega, by simp, rfl, Lib.hid ⟨?_, ?_, HB2.out, HR2.out, HQ2.out⟩⟩
          · simp only [bytesL, List.map_append, List.map_cons, List.map_nil, List.take_zero, append_data]
            have := HBL.out
            unfold bytesL at this
            rw [this]; rfl
          · have := HO2.out
            rw [strVs_snoc] at this
            rw [List.length_append]; exact this
        case round =>
          clear p0 p1 t0 t1
          obtain ⟨j, L2, hj, hl2, rfl, HR3⟩ := hrel
          obtain ⟨hbl2, hown2, hbw2, hpb2, htb2⟩ := HR3.out
          have zr : w.heap.size < wr.heap.size := hpb2.lt
          have zr2 : wo.heap.size < wr.heap.size := htb2.lt
          have p0 := hpb2.cell 0
          have p1 := hpb2.cell 1
          by_cases hjl : j < ln
          · have hjp : j < ls.length := by rw [HLN.out]; exact hjl
            obtain ⟨ad2, rfl, hab2, g0, g1, g2⟩ := (HL.out.below hbw2).at_ hjp
            obtain ⟨m2, hm2⟩ := lnsOk_at _ _ HM.out.ls j hjp
            have HTK : Hid ((ls.take (j + 1)).map (lineT p) = (ls.take j).map (lineT p) ++ [lineT p (ls[j]'hjp)]) := Lib.hid (by rw [List.take_succ_eq_append_getElem hjp, List.map_append]; rfl)
            generalize hl : ls[j]'hjp = l at *
            obtain ⟨lk, la, lm⟩ := l
            dsimp only at *
            have TOL : Hid (∀ (W : World), Below w.heap.size w W → Calls Tryz.prog 41 #[.agg #[.int .i64 v, .slice (some ad) n c], .agg #[.int .i64 lk, .int .i64 la, .int .i64 lm]] W (StrPost W (lineT p ⟨lk, la, lm⟩))) := Lib.hid (fun W h => TO.out W h m2 ⟨lk, la, lm⟩ hm2)
            have HO3 := Lib.hid hown2
            have HBW3 := Lib.hid hbw2
            have HP3 := Lib.hid hpb2
            have HT3 := Lib.hid htb2
            have HBL3 := Lib.hid hbl2
            have HL2 := Lib.hid hl2
            have hl2' : L2.length ≤ 58 := by omega
            clear hl hm2 hown2 hbw2 hpb2 htb2 hbl2 hl2
            go_wp2_with (first
              | (go_at_call 41; go_must (refine (TOL.out _ (HBW3.out.alloc (by omega) _)).mono ?_; rintro e w6 ⟨s6, rfl, hs6, hb6⟩; (have z6 : wr.heap.size + 1 ≤ w6.heap.size := by have := hb6.size; simpa using this); (have HS6 := Lib.hid hs6); (have HB6 := Lib.hid hb6); (have HO6 := Lib.hid (own_kept_below (HO3.out.alloc _) hb6)); clear hs6 hb6))
              | (at_builtin; go_must (refine wpList_append_own _ rfl _ _ 60 rfl w.heap.size 9 i0 _ 1 16 Tryz.underlying60 hi hz0 hz1 hz2 rfl (by decide) _ _ _ rfl (HO6.out.alloc _) ⟨w6.heap.size, 0, none⟩ 1 1 [.string s6] rfl rfl (cells_new_list w6 _ _) (by simp [Value.oneCell']) (by unfold maxLen; omega) (by omega) (by simp; omega) ?_; intro v7 w7 hown7 hgr7 _; obtain ⟨A7, c7, rfl⟩ := own_form hown7; (have HO7 := Lib.hid hown7); (have HG7 := Lib.hid hgr7); clear hown7 hgr7)))
            have HB63 : Hid (Below w.heap.size w w6) := Lib.hid ((HBW3.out.alloc (by omega) _).trans (HB6.out.mono (by simp; omega)))
            have hP6 := (HP3.out.alloc _).below HB6.out (by simp; omega)
            have hT6 := (HT3.out.alloc _).below HB6.out (by simp; omega)
            have HN6 := Lib.hid (own_blk_ne HO6.out hP6 (by decide))
            have HN7 := Lib.hid (own_blk_ne HO6.out hT6 (by decide))
            have HREL : Hid (bytesL (L2 ++ [s6]) = textLs p k ++ (kwThread ++ 32 :: nm.data.toList) :: (ls.take (j + 1)).map (lineT p) ∧ w7.ownsRow w.heap.size 9 1 (.slice A7 (L2.length + 1) c7) (L2 ++ [s6]).length (strVs (L2 ++ [s6])) ∧ Below w.heap.size w w7 ∧ Blk w7 w.heap.size 28 #[.int .i64 v, .slice (some ad) n c] ∧ Blk w7 wo.heap.size 45 #[.string nm, .slice (some ad2) ln lc]) := Lib.hid (by
              refine ⟨?_, ?_, below_ownGrown (HB63.out.alloc (by omega) _) (HO6.out.alloc _) HG7.out (by simp; omega), (hP6.alloc _).grown HG7.out (by intro e; exact HN6.out e.symm), (hT6.alloc _).grown HG7.out (by intro e; exact HN7.out e.symm)⟩
              · have := HBL3.out
                unfold bytesL at this ⊢
                rw [List.map_append, this, HTK.out, List.map_cons, List.map_nil, HS6.out]
                simp
              · have := HO7.out
                rw [strVs_snoc] at this
                rw [List.length_append]; exact this)
            clear hP6 hT6
            go_wp2
            go_roundw
            case rel => exact ⟨j + 1, L2 ++ [s6], by omega, by rw [List.length_append, HL2.out]; simp; omega, by go_num, HREL.out⟩
            case measure => simp [intOf]; omega
          · obtain rfl : j = ln := by omega
            have HO3 := Lib.hid hown2
            have HBW3 := Lib.hid hbw2
            have HP3 := Lib.hid hpb2
            have HBL3 : Hid (bytesL L2 ++ [kwEnd] = textLs p (k + 1)) := Lib.hid (by
              rw [hbl2, HSU.out, List.take_of_length_le (by rw [HLN.out]; exact Nat.le_refl _)]
              unfold thLs
              simp)
            have HN3 := Lib.hid (own_blk_ne hown2 hpb2 (by decide))
            have hl2' : L2.length ≤ 58 := by omega
            have HL2 := Lib.hid hl2
            clear hown2 hbw2 hpb2 htb2 hbl2 hl2
            go_wp2_with (at_builtin; go_must (refine wpList_append_own _ rfl _ _ 60 rfl w.heap.size 9 i0 _ 1 16 Tryz.underlying60 hi hz0 hz1 hz2 rfl (by decide) _ _ _ rfl (HO3.out.alloc _) ⟨wr.heap.size, 0, none⟩ 1 1 [.string ⟨#[101, 110, 100]⟩] rfl rfl (cells_new_list wr _ _) (by simp [Value.oneCell']) (by unfold maxLen; omega) (by omega) (by simp; omega) ?_; intro v7 w7 hown7 hgr7 _; obtain ⟨A7, c7, rfl⟩ := own_form hown7; (have HO7 := Lib.hid hown7); (have HG7 := Lib.hid hgr7); clear hown7 hgr7))
            have HREL : Hid (bytesL (L2 ++ [(⟨#[101, 110, 100]⟩ : ByteArray)]) = textLs p (k + 1) ∧ w7.ownsRow w.heap.size 9 1 (.slice A7 (L2.length + 1) c7) (L2 ++ [(⟨#[101, 110, 100]⟩ : ByteArray)]).length (strVs (L2 ++ [(⟨#[101, 110, 100]⟩ : ByteArray)])) ∧ Below w.heap.size w w7 ∧ Blk w7 w.heap.size 28 #[.int .i64 v, .slice (some ad) n c]) := Lib.hid (by
              refine ⟨?_, ?_, below_ownGrown (HBW3.out.alloc (by omega) _) (HO3.out.alloc _) HG7.out (by simp; omega), (HP3.out.alloc _).grown HG7.out (by intro e; exact HN3.out e.symm)⟩
              · have := HBL3.out
                unfold bytesL at this ⊢
                rw [List.map_append, ← this]; rfl
              · have := HO7.out
                rw [strVs_snoc] at this
                rw [List.length_append]; exact this)
            go_wp2
            go_roundw
            case rel => exact ⟨k + 1, L2 ++ [⟨#[101, 110, 100]⟩], by omega, by go_num, HREL⟩
            case measure => simp [intOf]; omega
      · obtain rfl : k = n := by omega
        obtain ⟨g, cap, rfl, _, hgl⟩ := hown.form (by
          have := congrArg List.length hbl
          simp only [bytesL, List.length_map, textLs, List.length_cons] at this
          omega)
        have hcapn : L.length ≤ cap := by
          rcases hown.2 with ⟨h, _⟩ | ⟨g', cap', cur, h, _, _, hc, _⟩
          · cases h
          · injection h with _ _ h3; omega
        have HTP : Hid (textP p = (bytesL L |>.map (· ++ [10])).flatten) := Lib.hid (by rw [hbl, textP_lines, HN.out])
        have hne : bytesL L ≠ [] := by rw [hbl]; simp [textLs]
        have hjl := join_lines (bytesL L) hne
        have htl := (textP_len HBC.out).1
        obtain ⟨js, hjs⟩ : ∃ js : ByteArray, js = ⟨(Lib.join (bytesL L) [10]).toArray⟩ := ⟨_, rfl⟩
        have hjlen : (Lib.join (bytesL L) [10]).length + 1 ≤ 980 := by
          rw [HTP.out, ← hjl] at htl
          simpa using htl
        have hjsz : js.size ≤ 979 := by rw [hjs]; show (Lib.join (bytesL L) [10]).length ≤ 979; omega
        have JO : Hid (Calls Tryz.prog 42 #[.slice (some ⟨g, 0, none⟩) L.length cap, .string ⟨#[10]⟩] wo fun e w' => e = .returned (.string js) ∧ Below wo.heap.size wo w') := Lib.hid (by
          have := Tryz.strings_Join g 0 cap L ⟨#[10]⟩ wo (fun j x hx => by
            have := hown.cells (g := g) rfl j (.string x) (by unfold strVs; rw [List.getElem?_map, hx]; rfl)
            rw [Nat.zero_add]
            have e : (⟨g, 0, none⟩ : Addr).add j = ⟨g, j, none⟩ := by by_cases hi : j = 0 <;> simp [Addr.add, hi]
            rwa [e] at this) hgl (by omega) hcapn (by show (Lib.join (bytesL L) [10]).length ≤ _; omega)
          rw [hjs]; exact this)
        have HJD : Hid (js.data.toList ++ [10] = textP p) := Lib.hid (by rw [hjs, HTP.out, ← hjl])
        have HBW := Lib.hid hbw
        clear hbl hown hbw hpb hjs hjl hne htl hjlen
        go_wp2_with (go_at_call 42; go_must (refine JO.out.mono ?_; rintro e w8 ⟨rfl, hb8⟩))
        go_ret2
        exact ⟨HBW.out.trans (hb8.mono (by omega)), _, rfl, fun _ => by rw [append_data]; exact HJD.out⟩
end Go.Proofs.YtpkefohcccpncaaGreatDoor
