/- Plain facts on the text of a valid program: its lines, their lengths, the join. The text of a program. What the reader of programs holds in memory; the frame of its steps. -/
import Derived.Test.YtpkefohcccpncaaGreatDoorQAc
import Derived.Lib.Join
import Derived.Test.YtpkefohcccpncaaGreatDoorQAg
namespace Go.Proofs.YtpkefohcccpncaaGreatDoor
set_option linter.unusedSimpArgs false
set_option linter.unusedVariables false

theorem thsOk_at {p : Prg} : ∀ (ts : List Th) (n : Nat), ThsOk p n ts → ∀ k (h : k < ts.length), ∃ m, ThOk p m ts[k] := by
  intro ts
  induction ts with
  | nil => intro n _ k h; simp at h
  | cons t r ih =>
    intro n h k hk
    cases k with
    | zero => exact ⟨n, h.1⟩
    | succ k => exact ih _ h.2 k (by simpa using hk)
theorem lnsOk_at {p : Prg} : ∀ (ls : List Ln) (n : Nat), LnsOk p n ls → ∀ k (h : k < ls.length), ∃ m, LnOk p m ls[k] := by
  intro ls
  induction ls with
  | nil => intro n _ k h; simp at h
  | cons t r ih =>
    intro n h k hk
    cases k with
    | zero => exact ⟨_, h.1⟩
    | succ k => exact ih _ h.2 k (by simpa using hk)
theorem okThs_l6 (p : Prg) : ∀ (ts : List Th) (c num : Nat) (ns : List (List UInt8)), okThs p c num ns ts = true → ∀ t ∈ ts, t.ls.length ≤ 6 := by
  intro ts
  induction ts with
  | nil => intro c num ns _ t ht; cases ht
  | cons t r ih =>
    intro c num ns h u hu
    simp only [okThs, Bool.and_eq_true] at h
    rcases List.mem_cons.1 hu with rfl | hu
    · have h1 := h.1
      simp only [okTh, Bool.and_eq_true, decide_eq_true_eq] at h1
      omega
    · exact ih _ _ _ h.2 u hu
theorem valid_l6 {p : Prg} (h : checkP p = true) : ∀ t ∈ p.ts, t.ls.length ≤ 6 := by
  simp only [checkP, Bool.and_eq_true] at h
  exact okThs_l6 p _ _ _ _ h.2
/-- the lines of the text of a program, without their line feeds -/
def textLs (p : Prg) (k : Nat) : List (List UInt8) := (kwValues ++ 32 :: Lib.itoa p.v) :: (p.ts.take k).flatMap (thLs p)
theorem textLs_succ {p : Prg} {k : Nat} (hk : k < p.ts.length) : textLs p (k + 1) = textLs p k ++ thLs p p.ts[k] := by
  unfold textLs
  rw [List.take_succ_eq_append_getElem hk, List.flatMap_append]
  simp
theorem textP_lines (p : Prg) : textP p = ((textLs p p.ts.length).map (· ++ [10])).flatten := by
  unfold textP textLs
  rw [List.take_length, flat_lines, List.map_cons, List.flatten_cons]
theorem join_lines : ∀ (xs : List (List UInt8)), xs ≠ [] → Lib.join xs [10] ++ [10] = (xs.map (· ++ [10])).flatten := by
  intro xs
  cases xs with
  | nil => intro h; exact absurd rfl h
  | cons x r =>
    intro _
    rw [Lib.join_cons]
    have : ∀ (r : List (List UInt8)) (x : List UInt8), x ++ Lib.joinTail [10] r ++ [10] = ((x :: r).map (· ++ [10])).flatten := by
      intro r
      induction r with
      | nil => intro x; simp [Lib.joinTail]
      | cons y r ih =>
        intro x
        rw [List.map_cons, List.flatten_cons, ← ih y]
        simp [Lib.joinTail]
    exact this r x
theorem decD_len {a : Int} (h0 : 0 ≤ a) (h1 : a ≤ 9999999) : (Lib.itoa a).length ≤ 7 := by
  have := (itoa_ok h0 h1).1
  simp only [numL, Bool.and_eq_true, decide_eq_true_eq] at this
  omega
theorem lineT_len {p : Prg} {n : Nat} {l : Ln} (h : LnOk p n l) : (lineT p l).length ≤ 18 := by
  have hk : (kwOf l.k.toNat).length ≤ 5 := by
    have h1 := h.k1
    have h7 := h.k7
    rcases (show l.k.toNat = 1 ∨ l.k.toNat = 2 ∨ l.k.toNat = 3 ∨ l.k.toNat = 4 ∨ l.k.toNat = 5 ∨ l.k.toNat = 6 ∨ l.k.toNat = 7 by omega) with e | e | e | e | e | e | e <;> rw [e] <;> decide
  unfold lineT
  split
  · omega
  split
  · rename_i h3
    obtain ⟨t, ht, hn⟩ := h.at3 h3
    rw [ht]
    simp only [Option.map_some, Option.getD_some, List.length_append, List.length_cons]
    have : t.nm.data.toList.length ≤ 12 := by
      simp only [namedL, wordL, Bool.and_eq_true, decide_eq_true_eq] at hn
      omega
    omega
  · have := decD_len h.a0 (by have := h.a9; omega)
    simp only [List.length_append, List.length_cons]
    omega
theorem thLs_len {p : Prg} {m : Nat} {t : Th} (h : ThOk p m t) (h6 : t.ls.length ≤ 6) : (thLs p t).length ≤ 8 ∧ ∀ x ∈ thLs p t, x.length ≤ 19 := by
  refine ⟨by simp [thLs]; omega, fun x hx => ?_⟩
  unfold thLs at hx
  rcases List.mem_cons.1 hx with rfl | hx
  · have : t.nm.data.toList.length ≤ 12 := by
      have hn := h.nm
      simp only [namedL, wordL, Bool.and_eq_true, decide_eq_true_eq] at hn
      omega
    simp only [List.length_append, List.length_cons]
    show 6 + _ ≤ _
    omega
  rcases List.mem_append.1 hx with hx | hx
  · obtain ⟨l, hl, rfl⟩ := List.mem_map.1 hx
    obtain ⟨i, hi, rfl⟩ := List.getElem_of_mem hl
    obtain ⟨k, hk⟩ := lnsOk_at _ _ h.ls i hi
    have := lineT_len hk
    omega
  · obtain rfl : x = kwEnd := by simpa using hx
    decide
theorem textLs_len {p : Prg} (h : checkP p = true) : ∀ k, k ≤ p.ts.length → (textLs p k).length ≤ 1 + 8 * k ∧ ∀ x ∈ textLs p k, x.length ≤ 19 := by
  have hv := valid_of h
  have h6 := valid_l6 h
  intro k
  induction k with
  | zero =>
    intro _
    refine ⟨by simp [textLs], fun x hx => ?_⟩
    obtain rfl : x = kwValues ++ 32 :: Lib.itoa p.v := by simpa [textLs] using hx
    have := decD_len (a := p.v) (by have := hv.v1; omega) (by have := hv.v8; omega)
    simp only [List.length_append, List.length_cons]
    show 6 + _ ≤ _
    omega
  | succ k ih =>
    intro hk
    obtain ⟨h1, h2⟩ := ih (by omega)
    obtain ⟨m, hm⟩ := thsOk_at _ _ hv.ths k (by omega)
    obtain ⟨h3, h4⟩ := thLs_len hm (h6 _ (List.getElem_mem _))
    rw [textLs_succ (by omega)]
    refine ⟨by rw [List.length_append]; omega, fun x hx => ?_⟩
    rcases List.mem_append.1 hx with hx | hx
    · exact h2 x hx
    · exact h4 x hx
theorem flat_len : ∀ (xs : List (List UInt8)), (∀ x ∈ xs, x.length ≤ 19) → ((xs.map (· ++ [10])).flatten).length ≤ 20 * xs.length := by
  intro xs
  induction xs with
  | nil => intro _; simp
  | cons x r ih =>
    intro h
    have := ih fun y hy => h y (by simp [hy])
    have := h x (by simp)
    simp only [List.map_cons, List.flatten_cons, List.length_append, List.length_cons, List.length_nil] at *
    omega
theorem textP_len {p : Prg} (h : checkP p = true) : (textP p).length ≤ 980 ∧ textP p ≠ [] := by
  obtain ⟨h1, h2⟩ := textLs_len h p.ts.length (Nat.le_refl _)
  have h6 := (valid_of h).t6
  have := flat_len _ h2
  rw [textP_lines]
  refine ⟨by omega, fun e => ?_⟩
  simp [textLs] at e
end Go.Proofs.YtpkefohcccpncaaGreatDoor
namespace Go.Proofs.YtpkefohcccpncaaGreatDoor
open Go.RowKit
set_option linter.unusedSimpArgs false
set_option linter.unusedVariables false

theorem infoString : (Tryz.prog.info? 9).map (fun i => (i.zero, i.size, i.bytes)) = some (some (.string ⟨#[]⟩), 1, 16) := by kernel_rfl
theorem own_kept_below {w w' : World} {base : Nat} {e size : Nat} {v : Value} {n : Nat} {xs : List Value} (h : w.ownsRow base e size v n xs) (hb : Below w.heap.size w w') : w'.ownsRow base e size v n xs :=
  h.kept (grownBy_of_below hb none) (by cases v.ownBlock <;> simp)
def strVs (L : List ByteArray) : List Value := L.map Value.string
theorem strVs_snoc (L : List ByteArray) (x : ByteArray) : strVs L ++ [.string x] = strVs (L ++ [x]) := by simp [strVs]
def bytesL (L : List ByteArray) : List (List UInt8) := L.map (·.data.toList)
theorem below_ownGrown {B : Nat} {w w1 w2 : World} {e size : Nat} {v : Value} {n : Nat} {xs : List Value} (h : Below B w w1) (hown : w1.ownsRow B e size v n xs) (hg : w1.grownBy w2 v.ownBlock) (hB : B ≤ w1.heap.size) : Below B w w2 :=
  h.grown hg hB (fun j hj => (hown.lt j hj).1)
theorem strcell1 (w : World) (o : Obj) (x : ByteArray) : ∀ j u, [Value.string x][j]? = some u → ((w.alloc o).alloc (.cells #[.string x] 9)).cell? ((⟨w.heap.size + 1, 0, none⟩ : Addr).add j) = some u := fun j u h => by
  simpa using cells_new_list (w.alloc o) 9 [.string x] j u h
def TextPost (w : World) (p : Prg) (b : Bool) (e : Ending) (w' : World) : Prop := Below w.heap.size w w' ∧ ∃ s : ByteArray, e = .returned (.tuple #[.string s, .int .i64 (chkR b)]) ∧ (b = true → s.data.toList = textP p)
set_option maxRecDepth 100000 in
set_option maxHeartbeats 4000000 in
theorem text_any (p : Prg) (A : Option Addr) (n c : Nat) (w : World) (hT : ThsAt w w.heap.size A p.ts) (hn : p.ts.length = n) (hg : GlobP w) (hok : PrgOk p) (b : Bool) (hb : checkP p = b) :
    Calls Tryz.prog 16 #[.agg #[.int .i64 p.v, .slice A n c]] w (TextPost w p b) := by
  have CK : Hid (∀ o, Calls Tryz.prog 18 #[.agg #[.int .i64 p.v, .slice A n c]] (w.alloc o) fun e w' => e = .returned (.int .i64 (chkR b)) ∧ Below (w.alloc o).heap.size (w.alloc o) w') := Lib.hid (fun o =>
    check_any p A n c (w.alloc o) (hT.up ((Below.refl _ _).alloc (Nat.le_refl _) o)) hn (hg.below ((Below.refl _ _).alloc (Nat.le_refl _) o)) hok b hb)
  rcases b with _ | _
  · generalize p.v = v at *
    clear hT hn hg hok hb
    go_enter Tryz.func16, Tryz.ntmps16
    go_wp2_with (go_at_call 18; go_must (refine (CK.out _).mono ?_; rintro e w1 ⟨rfl, hb1⟩; unfold chkR))
    go_ret2
    exact ⟨((Below.refl _ _).alloc (Nat.le_refl _) _).trans (hb1.mono (by simp)), _, rfl, fun h => by cases h⟩
  · have hv := valid_of hb
    have h6 := valid_l6 hb
    obtain ⟨i0, hi, hz0, hz1, hz2⟩ := info_parts infoString
    obtain ⟨u, hu⟩ := Int.eq_ofNat_of_zero_le (show 0 ≤ p.v by have := hv.v1; omega)
    have hu8 : u ≤ 8 := by have := hv.v8; omega
    have IT : ∀ W : World, Calls Tryz.prog 40 #[.int .i64 p.v] W fun e w' => e = .returned (.string ⟨(Lib.itoa p.v).toArray⟩) ∧ W = w' := fun W => by
      have := Tryz.strconv_Itoa_small u (by omega) W
      rw [hu, Lib.itoa_nonneg]; exact this.mono fun e w' h => ⟨h.1, h.2.symm⟩
    obtain ⟨du, hdu⟩ : ∃ du : ByteArray, du = ⟨(Lib.itoa p.v).toArray⟩ := ⟨_, rfl⟩
    rw [← hdu] at IT
    have hdl : du.size ≤ 7 := by rw [hdu]; exact decD_len (by have := hv.v1; omega) (by have := hv.v8; omega)
    have HDU : Hid (kwValues ++ 32 :: Lib.itoa p.v = [118, 97, 108, 117, 101, 115, 32] ++ du.data.toList) := Lib.hid (by rw [hdu]; rfl)
    have HIT := Lib.hid IT
    have hn6 : n ≤ 6 := by rw [← hn]; exact hv.t6
    have TO : Hid (∀ (W : World), Below w.heap.size w W → ∀ m l, LnOk p m l → Calls Tryz.prog 41 #[.agg #[.int .i64 p.v, .slice A n c], .agg #[.int .i64 l.k, .int .i64 l.a, .int .i64 l.n]] W (StrPost W (lineT p l))) := Lib.hid (fun W hW m l hl =>
      textOf_any p A n c W ((hT.below hW).more hW.size) hn (by omega) (hg.below hW) m l hl)
    have HT := Lib.hid hT
    have HV := Lib.hid hv
    have H6 := Lib.hid h6
    have HN := Lib.hid hn
    have HBC := Lib.hid hb
    clear hT hn hg hok hb hv h6 hu IT hdu
    generalize hpv : p.v = v at *
    have HPV := Lib.hid hpv
    clear hpv
    go_enter Tryz.func16, Tryz.ntmps16
    go_wp2_with (first
      | (go_at_call 18; go_must (refine (CK.out _).mono ?_; rintro e w1 ⟨rfl, hb1⟩; unfold chkR; (have hpb : Blk w1 w.heap.size 28 #[.int .i64 v, .slice A n c] := (Blk.new w _ _).below hb1 (by simp)); (have p0 := hpb.cell 0); (have p1 := hpb.cell 1); (have HPB := Lib.hid hpb); (have z1 : w.heap.size < w1.heap.size := by have := hb1.size; simp at this; omega); clear hpb))
      | (go_at_call 40; go_must (refine (HIT.out _).mono ?_; rintro e w' ⟨rfl, rfl⟩)))
    have HB1 := Lib.hid (((Below.refl w.heap.size w).alloc (Nat.le_refl _) _).trans (hb1.mono (by simp)))
    clear hb1 CK
    go_loopw [5, 23] (fun s5 i wr => ∃ (k : Nat) (L : List ByteArray), k ≤ n ∧ i = .int .i64 k ∧ Hid (bytesL L = textLs p k ∧ wr.ownsRow w.heap.size 9 1 s5 L.length (strVs L) ∧ Below w.heap.size w wr ∧ Blk wr w.heap.size 28 #[.int .i64 v, .slice A n c])) (fun _ i _ => n - (intOf i).toNat)
    case atStart =>
      refine ⟨0, [⟨#[118, 97, 108, 117, 101, 115, 32]⟩ ++ du], by omega, rfl, Lib.hid ⟨?_, ?_, HB1.out.alloc (by omega) _, HPB.out.alloc _⟩⟩
      · simp only [bytesL, List.map_cons, List.map_nil, textLs, append_data, List.take_zero, List.flatMap_nil]
        rw [HPV.out, HDU.out]
      · exact World.ownsRow_lit w1 _ 1 (by omega) (by unfold maxLen; omega) rfl
    case round =>
      obtain ⟨wo, rfl⟩ : ∃ wo : World, wo = wr := ⟨_, rfl⟩
      obtain ⟨k, L, hk, rfl, HR⟩ := hrel
      obtain ⟨hbl, hown, hbw, hpb⟩ := HR.out
      have hlen : L.length ≤ 49 := by
        have h1 := (textLs_len HBC.out k (by rw [HN.out]; exact hk)).1
        rw [← hbl] at h1
        simp only [bytesL, List.length_map] at h1
        omega
      have zwo : w.heap.size < wo.heap.size := hpb.lt
      by_cases hlt : k < n
      · have hkp : k < p.ts.length := by rw [HN.out]; exact hlt
        obtain ⟨ad, LA, lc, rfl, hab, h0, h1, hL⟩ := HT.out.at_ hkp
        replace h0 := (hbw.cell (p := ad.add (k * 2)) (by rw [add_block]; exact hab)).trans h0
        replace h1 := (hbw.cell (p := ⟨(ad.add (k * 2)).block, (ad.add (k * 2)).off + 1, none⟩) (by simp only [add_block]; exact hab)).trans h1
        obtain ⟨m, hm⟩ := thsOk_at _ _ HV.out.ths k hkp
        have hl6 := H6.out _ (List.getElem_mem hkp)
        have HSU := Lib.hid (textLs_succ hkp)
        generalize ht : p.ts[k]'hkp = t at *
        obtain ⟨nm, ls⟩ := t
        dsimp only at *
        obtain ⟨ln, hln⟩ : ∃ ln, ls.length = ln := ⟨_, rfl⟩
        rw [hln] at h1 hl6
        have hnm12 : nm.size ≤ 12 := named_len hm.nm
        have p0 := hpb.cell 0
        have p1 := hpb.cell 1
        have HM := Lib.hid hm
        have HL := Lib.hid hL
        have HLN := Lib.hid hln
        have HBW := Lib.hid hbw
        have HOWN := Lib.hid hown
        have HPB2 := Lib.hid hpb
        have HBL := Lib.hid hbl
        have HNE := Lib.hid (own_blk_ne hown hpb (by decide))
        have HNE2 : Hid (u5.ownBlock ≠ some wo.heap.size) := Lib.hid (fun e => absurd (hown.lt _ e).2 (Nat.lt_irrefl _))
        clear hm hL hln hbw hown hpb ht hbl
        go_wp2_with (at_builtin; go_must (refine wpList_append_own _ rfl _ _ 60 rfl w.heap.size 9 i0 _ 1 16 Tryz.underlying60 hi hz0 hz1 hz2 rfl (by decide) _ _ _ rfl ((HOWN.out.alloc _).alloc _) ⟨wo.heap.size + 1, 0, none⟩ 1 1 [.string (⟨#[116, 104, 114, 101, 97, 100, 32]⟩ ++ nm)] rfl rfl (strcell1 wo _ _) (by simp [Value.oneCell']) (by unfold maxLen; omega) (by omega) (by simp; omega) ?_; intro v2 w2 hown2 hgr2 _; obtain ⟨A2, c2, rfl⟩ := own_form hown2; (have q2 : Blk w2 wo.heap.size 45 #[.string nm, .slice LA ln lc] := ((Blk.new wo _ _).alloc _).grown hgr2 (by intro e; exact HNE2.out e.symm)); (have r2 : Blk w2 w.heap.size 28 #[.int .i64 v, .slice (some ad) n c] := ((HPB2.out.alloc _).alloc _).grown hgr2 (by intro e; exact HNE.out e.symm)); (have t0 := q2.cell 0); (have t1 := q2.cell 1); (have hb2 : Below w.heap.size w w2 := below_ownGrown ((HBW.out.alloc (by omega) _).alloc (by simp; omega) _) ((HOWN.out.alloc _).alloc _) hgr2 (by simp; omega)); (have z2 : wo.heap.size + 1 < w2.heap.size := by have := hgr2.size; simp at this; omega); (have HQ2 := Lib.hid q2); (have HR2 := Lib.hid r2); (have HO2 := Lib.hid hown2); (have HB2 := Lib.hid hb2); clear q2 r2 hown2 hgr2 hb2))
        have zw2 : w.heap.size < w2.heap.size := by omega
        go_loopw [5, 36] (fun s5 i wr => ∃ (j : Nat) (L2 : List ByteArray), j ≤ ln ∧ L2.length = L.length + 1 + j ∧ i = .int .i64 j ∧ Hid (bytesL L2 = textLs p k ++ (kwThread ++ 32 :: nm.data.toList) :: (ls.take j).map (lineT p) ∧ wr.ownsRow w.heap.size 9 1 s5 L2.length (strVs L2) ∧ Below w.heap.size w wr ∧ Blk wr w.heap.size 28 #[.int .i64 v, .slice (some ad) n c] ∧ Blk wr wo.heap.size 45 #[.string nm, .slice LA ln lc])) (fun _ i _ => ln - (intOf i).toNat)
        case atStart =>
          refine ⟨0, L ++ [⟨#[116, 104, 114, 101, 97, 100, 32]⟩ ++ nm], by omega, by simp, rfl, Lib.hid ⟨?_, ?_, HB2.out, HR2.out, HQ2.out⟩⟩
          · simp only [bytesL, List.map_append, List.map_cons, List.map_nil, List.take_zero, append_data]
            have := HBL.out
            unfold bytesL at this
            rw [this]; rfl
          · have := HO2.out
            rw [strVs_snoc] at this
            rw [List.length_append]; exact this
        case round =>
          clear p0 p1 t0 t1
          obtain ⟨j, L2, hj, hl2, rfl, HR3⟩ := hrel
          obtain ⟨hbl2, hown2, hbw2, hpb2, htb2⟩ := HR3.out
          have zr : w.heap.size < wr.heap.size := hpb2.lt
          have zr2 : wo.heap.size < wr.heap.size := htb2.lt
          have p0 := hpb2.cell 0
          have p1 := hpb2.cell 1
          by_cases hjl : j < ln
          · have hjp : j < ls.length := by rw [HLN.out]; exact hjl
            obtain ⟨ad2, rfl, hab2, g0, g1, g2⟩ := (HL.out.below hbw2).at_ hjp
            obtain ⟨m2, hm2⟩ := lnsOk_at _ _ HM.out.ls j hjp
            have HTK : Hid ((ls.take (j + 1)).map (lineT p) = (ls.take j).map (lineT p) ++ [lineT p (ls[j]'hjp)]) := Lib.hid (by rw [List.take_succ_eq_append_getElem hjp, List.map_append]; rfl)
            generalize hl : ls[j]'hjp = l at *
            obtain ⟨lk, la, lm⟩ := l
            dsimp only at *
            have TOL : Hid (∀ (W : World), Below w.heap.size w W → Calls Tryz.prog 41 #[.agg #[.int .i64 v, .slice (some ad) n c], .agg #[.int .i64 lk, .int .i64 la, .int .i64 lm]] W (StrPost W (lineT p ⟨lk, la, lm⟩))) := Lib.hid (fun W h => TO.out W h m2 ⟨lk, la, lm⟩ hm2)
            have HO3 := Lib.hid hown2
            have HBW3 := Lib.hid hbw2
            have HP3 := Lib.hid hpb2
            have HT3 := Lib.hid htb2
            have HBL3 := Lib.hid hbl2
            have HL2 := Lib.hid hl2
            have hl2' : L2.length ≤ 58 := by omega
            clear hl hm2 hown2 hbw2 hpb2 htb2 hbl2 hl2
            go_wp2_with (first
              | (go_at_call 41; go_must (refine (TOL.out _ (HBW3.out.alloc (by omega) _)).mono ?_; rintro e w6 ⟨s6, rfl, hs6, hb6⟩; (have z6 : wr.heap.size + 1 ≤ w6.heap.size := by have := hb6.size; simpa using this); (have HS6 := Lib.hid hs6); (have HB6 := Lib.hid hb6); (have HO6 := Lib.hid (own_kept_below (HO3.out.alloc _) hb6)); clear hs6 hb6))
              | (at_builtin; go_must (refine wpList_append_own _ rfl _ _ 60 rfl w.heap.size 9 i0 _ 1 16 Tryz.underlying60 hi hz0 hz1 hz2 rfl (by decide) _ _ _ rfl (HO6.out.alloc _) ⟨w6.heap.size, 0, none⟩ 1 1 [.string s6] rfl rfl (cells_new_list w6 _ _) (by simp [Value.oneCell']) (by unfold maxLen; omega) (by omega) (by simp; omega) ?_; intro v7 w7 hown7 hgr7 _; obtain ⟨A7, c7, rfl⟩ := own_form hown7; (have HO7 := Lib.hid hown7); (have HG7 := Lib.hid hgr7); clear hown7 hgr7)))
            have HB63 : Hid (Below w.heap.size w w6) := Lib.hid ((HBW3.out.alloc (by omega) _).trans (HB6.out.mono (by simp; omega)))
            have hP6 := (HP3.out.alloc _).below HB6.out (by simp; omega)
            have hT6 := (HT3.out.alloc _).below HB6.out (by simp; omega)
            have HN6 := Lib.hid (own_blk_ne HO6.out hP6 (by decide))
            have HN7 := Lib.hid (own_blk_ne HO6.out hT6 (by decide))
            have HREL : Hid (bytesL (L2 ++ [s6]) = textLs p k ++ (kwThread ++ 32 :: nm.data.toList) :: (ls.take (j + 1)).map (lineT p) ∧ w7.ownsRow w.heap.size 9 1 (.slice A7 (L2.length + 1) c7) (L2 ++ [s6]).length (strVs (L2 ++ [s6])) ∧ Below w.heap.size w w7 ∧ Blk w7 w.heap.size 28 #[.int .i64 v, .slice (some ad) n c] ∧ Blk w7 wo.heap.size 45 #[.string nm, .slice (some ad2) ln lc]) := Lib.hid (by
              refine ⟨?_, ?_, below_ownGrown (HB63.out.alloc (by omega) _) (HO6.out.alloc _) HG7.out (by simp; omega), (hP6.alloc _).grown HG7.out (by intro e; exact HN6.out e.symm), (hT6.alloc _).grown HG7.out (by intro e; exact HN7.out e.symm)⟩
              · have := HBL3.out
                unfold bytesL at this ⊢
                rw [List.map_append, this, HTK.out, List.map_cons, List.map_nil, HS6.out]
                simp
              · have := HO7.out
                rw [strVs_snoc] at this
                rw [List.length_append]; exact this)
            clear hP6 hT6
            go_wp2
            go_roundw
            case rel => exact ⟨j + 1, L2 ++ [s6], by omega, by rw [List.length_append, HL2.out]; simp; omega, by go_num, HREL.out⟩
            case measure => simp [intOf]; omega
          · obtain rfl : j = ln := by omega
            have HO3 := Lib.hid hown2
            have HBW3 := Lib.hid hbw2
            have HP3 := Lib.hid hpb2
            have HBL3 : Hid (bytesL L2 ++ [kwEnd] = textLs p (k + 1)) := Lib.hid (by
              rw [hbl2, HSU.out, List.take_of_length_le (by rw [HLN.out]; exact Nat.le_refl _)]
              unfold thLs
              simp)
            have HN3 := Lib.hid (own_blk_ne hown2 hpb2 (by decide))
            have hl2' : L2.length ≤ 58 := by omega
            have HL2 := Lib.hid hl2
            clear hown2 hbw2 hpb2 htb2 hbl2 hl2
            go_wp2_with (at_builtin; go_must (refine wpList_append_own _ rfl _ _ 60 rfl w.heap.size 9 i0 _ 1 16 Tryz.underlying60 hi hz0 hz1 hz2 rfl (by decide) _ _ _ rfl (HO3.out.alloc _) ⟨wr.heap.size, 0, none⟩ 1 1 [.string ⟨#[101, 110, 100]⟩] rfl rfl (cells_new_list wr _ _) (by simp [Value.oneCell']) (by unfold maxLen; omega) (by omega) (by simp; omega) ?_; intro v7 w7 hown7 hgr7 _; obtain ⟨A7, c7, rfl⟩ := own_form hown7; (have HO7 := Lib.hid hown7); (have HG7 := Lib.hid hgr7); clear hown7 hgr7))
            have HREL : Hid (bytesL (L2 ++ [(⟨#[101, 110, 100]⟩ : ByteArray)]) = textLs p (k + 1) ∧ w7.ownsRow w.heap.size 9 1 (.slice A7 (L2.length + 1) c7) (L2 ++ [(⟨#[101, 110, 100]⟩ : ByteArray)]).length (strVs (L2 ++ [(⟨#[101, 110, 100]⟩ : ByteArray)])) ∧ Below w.heap.size w w7 ∧ Blk w7 w.heap.size 28 #[.int .i64 v, .slice (some ad) n c]) := Lib.hid (by
              refine ⟨?_, ?_, below_ownGrown (HBW3.out.alloc (by omega) _) (HO3.out.alloc _) HG7.out (by simp; omega), (HP3.out.alloc _).grown HG7.out (by intro e; exact HN3.out e.symm)⟩
              · have := HBL3.out
                unfold bytesL at this ⊢
                rw [List.map_append, ← this]; rfl
              · have := HO7.out
                rw [strVs_snoc] at this
                rw [List.length_append]; exact this)
            go_wp2
            go_roundw
            case rel => exact ⟨k + 1, L2 ++ [⟨#[101, 110, 100]⟩], by omega, by go_num, HREL⟩
            case measure => simp [intOf]; omega
      · obtain rfl : k = n := by omega
        obtain ⟨g, cap, rfl, _, hgl⟩ := hown.form (by
          have := congrArg List.length hbl
          simp only [bytesL, List.length_map, textLs, List.length_cons] at this
          omega)
        have hcapn : L.length ≤ cap := by
          rcases hown.2 with ⟨h, _⟩ | ⟨g', cap', cur, h, _, _, hc, _⟩
          · cases h
          · injection h with _ _ h3; omega
        have HTP : Hid (textP p = (bytesL L |>.map (· ++ [10])).flatten) := Lib.hid (by rw [hbl, textP_lines, HN.out])
        have hne : bytesL L ≠ [] := by rw [hbl]; simp [textLs]
        have hjl := join_lines (bytesL L) hne
        have htl := (textP_len HBC.out).1
        obtain ⟨js, hjs⟩ : ∃ js : ByteArray, js = ⟨(Lib.join (bytesL L) [10]).toArray⟩ := ⟨_, rfl⟩
        have hjlen : (Lib.join (bytesL L) [10]).length + 1 ≤ 980 := by
          rw [HTP.out, ← hjl] at htl
          simpa using htl
        have hjsz : js.size ≤ 979 := by rw [hjs]; show (Lib.join (bytesL L) [10]).length ≤ 979; omega
        have JO : Hid (Calls Tryz.prog 42 #[.slice (some ⟨g, 0, none⟩) L.length cap, .string ⟨#[10]⟩] wo fun e w' => e = .returned (.string js) ∧ Below wo.heap.size wo w') := Lib.hid (by
          have := Tryz.strings_Join g 0 cap L ⟨#[10]⟩ wo (fun j x hx => by
            have := hown.cells (g := g) rfl j (.string x) (by unfold strVs; rw [List.getElem?_map, hx]; rfl)
            rw [Nat.zero_add]
            have e : (⟨g, 0, none⟩ : Addr).add j = ⟨g, j, none⟩ := by by_cases hi : j = 0 <;> simp [Addr.add, hi]
            rwa [e] at this) hgl (by omega) hcapn (by show (Lib.join (bytesL L) [10]).length ≤ _; omega)
          rw [hjs]; exact this)
        have HJD : Hid (js.data.toList ++ [10] = textP p) := Lib.hid (by rw [hjs, HTP.out, ← hjl])
        have HBW := Lib.hid hbw
        clear hbl hown hbw hpb hjs hjl hne htl hjlen
        go_wp2_with (go_at_call 42; go_must (refine JO.out.mono ?_; rintro e w8 ⟨rfl, hb8⟩))
        go_ret2
        exact ⟨HBW.out.trans (hb8.mono (by omega)), _, rfl, fun _ => by rw [append_data]; exact HJD.out⟩
end Go.Proofs.YtpkefohcccpncaaGreatDoor
namespace Go.Proofs.YtpkefohcccpncaaGreatDoor
open Go.RowKit
set_option linter.unusedSimpArgs false
set_option linter.unusedVariables false

/-- all blocks below B but block g are as they were -/
structure FrB (B g : Nat) (w w' : World) : Prop where
  os : w'.os = w.os
  tape : w'.tape = w.tape
  output : w'.output = w.output
  size : w.heap.size ≤ w'.heap.size
  block : ∀ b, b < B → b ≠ g → w'.heap[b]? = w.heap[b]?
  nc : ∀ (k : Nat) (o : Obj), w.heap[k]? = some o → (∀ c T fz, o ≠ Obj.cells c T fz) → w'.heap[k]? = some o
theorem setCell_nc {w : World} {p : Addr} {u : Value} {k : Nat} {o : Obj} (ho : w.heap[k]? = some o) (hc : ∀ c T fz, o ≠ .cells c T fz) : (w.setCell p u).heap[k]? = some o := by
  by_cases e : k = p.block
  · subst e
    unfold World.setCell
    rw [show ({ w with heap := w.heap.modify p.block _ } : World).heap = w.heap.modify p.block _ from rfl, Array.getElem?_modify, if_pos rfl, ho, Option.map_some]
    cases o <;> first | rfl | exact absurd rfl (hc _ _ _)
  · exact (Below.heap_setCell w p u k e).trans ho
theorem FrB.refl (B g : Nat) (w : World) : FrB B g w w := ⟨rfl, rfl, rfl, Nat.le_refl _, fun _ _ _ => rfl, fun _ _ h _ => h⟩
theorem FrB.trans {B g : Nat} {a b c : World} (h : FrB B g a b) (k : FrB B g b c) : FrB B g a c :=
  ⟨k.os.trans h.os, k.tape.trans h.tape, k.output.trans h.output, Nat.le_trans h.size k.size, fun i h1 h2 => (k.block i h1 h2).trans (h.block i h1 h2), fun i o h1 h2 => k.nc i o (h.nc i o h1 h2) h2⟩
theorem FrB.of_below {B g : Nat} {w w' : World} (h : Below w.heap.size w w') (hb : B ≤ w.heap.size) : FrB B g w w' := ⟨h.os, h.tape, h.output, h.size, fun i h1 _ => h.block i (by omega), fun k o ho _ => (h.block k (Array.getElem?_eq_some_iff.1 ho).1).trans ho⟩
theorem FrB.of_grown {B g : Nat} {row : Option Nat} {w w' : World} (h : w.grownBy w' row) (hB : B ≤ w.heap.size) (hr : ∀ r, row = some r → r = g ∨ B ≤ r) (hk : ∀ r, row = some r → ∃ c T fz, w.heap[r]? = some (.cells c T fz)) : FrB B g w w' :=
  ⟨h.os, h.tape, h.output, h.size, fun i h1 h2 => h.block i (by omega) (fun e => by rcases hr i e.symm with h | h <;> omega), fun k o ho hc => (h.block k (Array.getElem?_eq_some_iff.1 ho).1 (fun e => by
    obtain ⟨c, T, fz, h3⟩ := hk k e.symm
    rw [ho] at h3; injection h3 with h3; exact hc _ _ _ h3)).trans ho⟩
theorem FrB.setCell {B g : Nat} {w w' : World} (h : FrB B g w w') {p : Addr} (hp : p.block = g ∨ B ≤ p.block) (u : Value) : FrB B g w (w'.setCell p u) :=
  h.trans ⟨rfl, rfl, rfl, by simp [World.setCell], fun i h1 h2 => Below.heap_setCell _ _ _ _ (by rcases hp with h | h <;> omega), fun k o ho hc => setCell_nc ho hc⟩
theorem FrB.alloc {B g : Nat} {w w' : World} (h : FrB B g w w') (hB : B ≤ w'.heap.size) (o : Obj) : FrB B g w (w'.alloc o) :=
  h.trans (FrB.of_below ((Below.refl _ _).alloc (Nat.le_refl _) o) hB)
theorem FrB.drewN {B g : Nat} {w w' : World} (h : FrB B g w w') (n : Nat) : FrB B g w (w'.drewN n) := ⟨h.os, h.tape, h.output, h.size, h.block, h.nc⟩
theorem FrB.cell {B g : Nat} {w w' : World} (h : FrB B g w w') {p : Addr} (hp : p.block < B) (hg : p.block ≠ g) : w'.cell? p = w.cell? p := World.cell?_of_block (h.block _ hp hg)
/-- what the code reads lies below B and is not block g -/
def GlobF (B g : Nat) : Prop := ∀ w w', GlobP w → FrB B g w w' → GlobP w'
theorem strs_cons : True := trivial

structure PsI (w : World) (B g : Nat) (st : PS) (tv nv : Value) (vs : List Value) (lim : Nat) : Prop where
  blk : Blk w g 88 #[.int .i64 st.v, tv, .bool st.op, nv]
  gB : g < B
  Bw : B ≤ w.heap.size
  nm : w.ownsRow B 9 1 nv st.ns.length (st.ns.map fun x => Value.string ⟨x.toArray⟩)
  vl : vs.length = st.ts.length
  th : w.ownsRow B 45 2 tv st.ts.length (thCells st.ts vs)
  ln : ∀ k (h : k < vs.length) (h' : k < st.ts.length), w.ownsRow B 42 3 vs[k] st.ts[k].ls.length (lnCells st.ts[k].ls)
  limw : lim ≤ w.heap.size
  pre : ∀ k (h : k < vs.length), k + 1 < vs.length → ∀ g', vs[k].ownBlock = some g' → g' < lim
  last : ∀ k (h : k < vs.length), k + 1 = vs.length → ∀ g', vs[k].ownBlock = some g' → lim ≤ g'
  dis : ∀ j k (hj : j < vs.length) (hk : k < vs.length), j < k → ∀ g', vs[j].ownBlock = some g' → vs[k].ownBlock ≠ some g'
theorem PsI.g_ne {w : World} {B g : Nat} {e size n : Nat} {v : Value} {xs : List Value} (hown : w.ownsRow B e size v n xs) (hg : g < B) : v.ownBlock ≠ some g := fun e => by have := (hown.lt _ e).1; omega
theorem PsI.below {w w' : World} {B g : Nat} {st : PS} {tv nv : Value} {vs : List Value} {lim : Nat} (h : PsI w B g st tv nv vs lim) (hb : Below w.heap.size w w') : PsI w' B g st tv nv vs lim :=
  ⟨h.blk.below hb h.blk.lt, h.gB, Nat.le_trans h.Bw hb.size, own_kept_below h.nm hb, h.vl, own_kept_below h.th hb, fun k h1 h2 => own_kept_below (h.ln k h1 h2) hb, Nat.le_trans h.limw hb.size, h.pre, h.last, h.dis⟩
theorem PsI.alloc {w : World} {B g : Nat} {st : PS} {tv nv : Value} {vs : List Value} {lim : Nat} (h : PsI w B g st tv nv vs lim) (o : Obj) : PsI (w.alloc o) B g st tv nv vs lim :=
  h.below ((Below.refl _ _).alloc (Nat.le_refl _) o)
theorem PsI.drewN {w : World} {B g : Nat} {st : PS} {tv nv : Value} {vs : List Value} {lim : Nat} (h : PsI w B g st tv nv vs lim) (q : Nat) : PsI (w.drewN q) B g st tv nv vs lim :=
  h.below (below_drewN (Below.refl _ _) q)
theorem own_set {w : World} {B g i : Nat} {e size n : Nat} {v u : Value} {xs : List Value} (hown : w.ownsRow B e size v n xs) (hg : g < B) : (w.setCell ⟨g, i, none⟩ u).ownsRow B e size v n xs :=
  hown.kept (row := some g) (grownBy_setCell (p := ⟨g, i, none⟩) (World.grownBy.refl _ _) (.inl rfl) _) (.inr (PsI.g_ne hown hg))
/-- a field of the reader is written -/
theorem PsI.set_ {w : World} {B g : Nat} {st st' : PS} {tv nv u : Value} {vs : List Value} {lim i : Nat} (h : PsI w B g st tv nv vs lim) (hts : st'.ts = st.ts) (hns : st'.ns = st.ns)
    (hc : (#[.int .i64 st.v, tv, .bool st.op, nv] : Array Value).setIfInBounds i u = #[.int .i64 st'.v, tv, .bool st'.op, nv]) : PsI (w.setCell ⟨g, i, none⟩ u) B g st' tv nv vs lim := by
  have hs : (w.setCell ⟨g, i, none⟩ u).heap.size = w.heap.size := by simp [World.setCell]
  refine ⟨?_, h.gB, by rw [hs]; exact h.Bw, ?_, by rw [hts]; exact h.vl, ?_, ?_, by rw [hs]; exact h.limw, h.pre, h.last, h.dis⟩
  · rw [← hc]; exact h.blk.set_ i u
  · rw [hns]; exact own_set h.nm h.gB
  · rw [hts]; exact own_set h.th h.gB
  · intro k h1 h2
    have h2' : k < st.ts.length := by rw [← hts]; exact h2
    have := own_set (i := i) (u := u) (h.ln k h1 h2') h.gB
    simp only [hts]; exact this
theorem PsI.cells {w : World} {B g : Nat} {st : PS} {tv nv : Value} {vs : List Value} {lim : Nat} (h : PsI w B g st tv nv vs lim) :
    w.cell? ⟨g, 0, none⟩ = some (.int .i64 st.v) ∧ w.cell? ⟨g, 1, none⟩ = some tv ∧ w.cell? ⟨g, 2, none⟩ = some (.bool st.op) ∧ w.cell? ⟨g, 3, none⟩ = some nv ∧ w.frozen? ⟨g, 0, none⟩ = false ∧ w.frozen? ⟨g, 1, none⟩ = false ∧ w.frozen? ⟨g, 2, none⟩ = false ∧ w.frozen? ⟨g, 3, none⟩ = false :=
  ⟨h.blk.cell 0, h.blk.cell 1, h.blk.cell 2, h.blk.cell 3, h.blk.frozen 0, h.blk.frozen 1, h.blk.frozen 2, h.blk.frozen 3⟩

def FirstPost (w : World) (B g : Nat) (st : PS) (tv nv : Value) (vs : List Value) (lim : Nat) (rest : List UInt8) (b : Bool) (e : Ending) (w' : World) : Prop :=
  e = .returned (.bool b) ∧ FrB B g w w' ∧ (b = true → PsI w' B g { st with v := valD rest } tv nv vs lim)
set_option maxHeartbeats 1000000 in
theorem first_any (B g : Nat) (st : PS) (tv nv : Value) (vs : List Value) (lim : Nat) (key rest : ByteArray) (w : World) (hs : rest.size ≤ 100000000) (hg : GlobP w) (h : PsI w B g st tv nv vs lim) (b : Bool)
    (hb : (key.data.toList == kwValues && numL rest.data.toList) = b) :
    Calls Tryz.prog 73 #[.pointer (some ⟨g, 0, none⟩), .string key, .string rest] w (FirstPost w B g st tv nv vs lim rest.data.toList b) := by
  obtain ⟨b2, hb2⟩ : ∃ b2, numL rest.data.toList = b2 := ⟨_, rfl⟩
  have NM := Lib.hid (numberP_any rest w hs hg b2 hb2)
  have H := Lib.hid h
  have HB2 := Lib.hid hb2
  have hlt := h.blk.lt
  rcases hk : (key.data.toList == kwValues) with _ | _
  all_goals
    have HF := Lib.hid hb
    rw [hk] at HF
    rw [hb2] at HF
    have c1 : (key.toList == (⟨#[118, 97, 108, 117, 101, 115]⟩ : ByteArray).toList) = (key.data.toList == kwValues) := str_eq_dec _ _
    rw [hk] at c1
    have c2 := c1
    rw [toList_data (⟨#[118, 97, 108, 117, 101, 115]⟩ : ByteArray)] at c2
    clear hb h hk hb2 hg
  · have HBF : Hid (b = false) := Lib.hid (by rw [← HF.out]; rfl)
    go_enter Tryz.func73, Tryz.ntmps73
    go_wp2_with (go_at_call 89; go_must (refine NM.out.mono ?_; rintro e w1 ⟨n, rfl, hb1, hn⟩; (obtain ⟨q0, q1, q2, q3, f0, f1, f2, f3⟩ := (H.out.below hb1).cells); (have HN := Lib.hid hn); (have HB1 := Lib.hid hb1); clear hn hb1))
    go_ret
    exact ⟨ret_bool HBF.out.symm, (FrB.of_below HB1.out H.out.Bw).setCell (p := ⟨g, 0, none⟩) (.inl rfl) _, fun h => by rw [HBF.out] at h; cases h⟩
  · have HBF : Hid (b = b2) := Lib.hid (by rw [← HF.out]; rfl)
    go_enter Tryz.func73, Tryz.ntmps73
    go_wp2_with (go_at_call 89; go_must (refine NM.out.mono ?_; rintro e w1 ⟨n, rfl, hb1, hn⟩; (obtain ⟨q0, q1, q2, q3, f0, f1, f2, f3⟩ := (H.out.below hb1).cells); (have HN := Lib.hid hn); (have HB1 := Lib.hid hb1); clear hn hb1))
    go_ret
    refine ⟨ret_bool HBF.out.symm, (FrB.of_below HB1.out H.out.Bw).setCell (p := ⟨g, 0, none⟩) (.inl rfl) _, fun h => ?_⟩
    rw [HBF.out] at h
    rw [← HN.out h]
    exact (H.out.below HB1.out).set_ (i := 0) (st' := { st with v := n }) rfl rfl rfl
end Go.Proofs.YtpkefohcccpncaaGreatDoor
