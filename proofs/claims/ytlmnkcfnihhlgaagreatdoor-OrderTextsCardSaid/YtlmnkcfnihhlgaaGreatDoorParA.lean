/- order.Parse. -/
import Derived.Test.YtlmnkcfnihhlgaaGreatDoorRdrA
import Derived.Test.YtlmnkcfnihhlgaaGreatDoorBldA
import Derived.Test.YtlmnkcfnihhlgaaGreatDoorRefH
namespace Go.Proofs.YtlmnkcfnihhlgaaGreatDoor
open Go.RowKit
set_option linter.unusedSimpArgs false
set_option linter.unusedVariables false

theorem toList_data (s : ByteArray) : s.toList = s.data.toList := by
  have : ∀ (n i : Nat) (r : List UInt8), s.size - i ≤ n → ByteArray.toList.loop s i r = r.reverse ++ s.data.toList.drop i := by
    intro n
    induction n with
    | zero =>
      intro i r h
      rw [ByteArray.toList.loop, if_neg (by omega)]
      rw [List.drop_of_length_le (show s.data.toList.length ≤ i from by show s.size ≤ i; omega)]
      simp
    | succ n ih =>
      intro i r h
      rw [ByteArray.toList.loop]
      by_cases hi : i < s.size
      · rw [if_pos hi, ih (i + 1) _ (by omega), List.drop_eq_getElem_cons (show i < s.data.toList.length from hi)]
        simp [ByteArray.get!]
        rw [getElem!_pos s.data i hi]
      · rw [if_neg hi, List.drop_of_length_le (show s.data.toList.length ≤ i from by show s.size ≤ i; omega)]
        simp
  have h := this s.size 0 [] (by omega)
  rw [ByteArray.toList, h]; simp
theorem str_eq_dec (a b : ByteArray) : (a.toList == b.toList) = (a.data.toList == b.data.toList) := by rw [toList_data, toList_data]
theorem ps_end {w W : World} {x : Int} {sv u0 u1 : Value} {l : List V} (hg : Bw w W) (hB : Blk W w.heap.size 28 #[u0, u1]) (hk : KAt W (fun y => w.heap.size + 1 ≤ y ∧ y < W.heap.size) sv l) :
    KAt ((W.setCell ⟨w.heap.size, 0, none⟩ (.int .i64 x)).setCell ⟨w.heap.size, 1, none⟩ sv) (fun y => w.heap.size ≤ y ∧ y < ((W.setCell ⟨w.heap.size, 0, none⟩ (.int .i64 x)).setCell ⟨w.heap.size, 1, none⟩ sv).heap.size) sv l ∧
    Bw w ((W.setCell ⟨w.heap.size, 0, none⟩ (.int .i64 x)).setCell ⟨w.heap.size, 1, none⟩ sv) ∧
    ((W.setCell ⟨w.heap.size, 0, none⟩ (.int .i64 x)).setCell ⟨w.heap.size, 1, none⟩ sv).heap[w.heap.size]? = some (.cells #[.int .i64 x, sv] 28 (0, 0)) := by
  refine ⟨hk.keep (fun y hy => ⟨by have := hy.1; omega, by have := hy.2; simp [World.setCell]; exact this⟩) (fun p hp => ?_), ?_, blk_set (i := 1) sv (blk_set (i := 0) (.int .i64 x) hB)⟩
  · have hp1 := hp.1
    rw [World.cell?_setCell_other _ _ _ _ (by intro e; subst e; simp at hp1; omega), World.cell?_setCell_other _ _ _ _ (by intro e; subst e; simp at hp1; omega)]
  · exact (hg.setCell (p := ⟨w.heap.size, 0, none⟩) (Nat.le_refl _) _).setCell (p := ⟨w.heap.size, 1, none⟩) (Nat.le_refl _) _
def parseE (l : List UInt8) : V × Int := if 4096 < l.length then (zeroV, 1) else match parseP l with
  | some v => (v, 0)
  | none => (zeroV, 12)
set_option maxRecDepth 100000 in
set_option maxHeartbeats 8000000 in
theorem oParse_any (s : ByteArray) (w : World) (hg : GlobO w) (p : V × Int) (hp : parseE s.data.toList = p) : Calls Tryz.prog 36 #[.string s] w (SortedPost w p.1 p.2) := by
  subst hp
  have hk0 := fun W => KAt.nil (w := W) (S := fun y => w.heap.size + 1 ≤ y ∧ y < W.heap.size) 0 none (Nat.zero_le _)
  by_cases hs : 4096 < s.size
  · have e1 : parseE s.data.toList = (zeroV, 1) := by unfold parseE; rw [if_pos (by rw [size_data]; exact hs)]
    rw [e1]
    show Calls _ _ _ _ (SortedPost w zeroV 1)
    have HK0 := Lib.hid (hk0 (w.alloc (.cells #[.int .i64 0, .slice none 0 0] 28)))
    have HB := Lib.hid (Blk.new w 28 #[.int .i64 0, .slice none 0 0])
    have ds : (4096 : Int) < (s.size : Int) := by omega
    generalize hres : SortedPost w zeroV 1 = R
    clear hk0 hg e1
    go_enter Tryz.func36, Tryz.ntmps36
    go_wp2
    refine bodyPost_ret (results_row_tmp (p := 2) (q := 3) (ty := 28) rfl _ _ w.heap.size _ _ rfl (run_loadVar_row _ _ 28 28 _ (0, 0) _ HB.out Tryz.underlying28 rfl (by kernel_rfl)) rfl) rfl ?_
    subst hres
    exact ⟨_, rfl, KAt.nil 0 none (Nat.zero_le _), (Bw.refl w).alloc _⟩
  have hs' : s.size ≤ 4096 := by omega
  have HPE : Hid (parseE s.data.toList = match parseP s.data.toList with
    | some v => (v, 0)
    | none => (zeroV, 12)) := Lib.hid (by unfold parseE; rw [if_neg (by rw [size_data]; omega)])
  have HPP : Hid (parseP s.data.toList = match pv s.data.toList 129 0 0 with
    | some (v, a, _) => if a = s.data.toList.length ∧ okText s.data.toList v = true then some v else none
    | none => none) := Lib.hid rfl
  have HIR : Hid (∀ u a m, pv s.data.toList 129 0 0 = some (u, a, m) → i64V u = true) := Lib.hid (fun u a m h => pv_inR _ _ _ _ _ _ _ h)
  generalize parseE s.data.toList = pe at *
  have hr1 : RdAt ((w.alloc (.cells #[.int .i64 0, .slice none 0 0] 28)).alloc (.cells #[.string s, .int .i64 0, .int .i64 0, .bool false] 77)) (w.heap.size + 1) s 0 0 false := by
    have := Blk.new (w.alloc (.cells #[.int .i64 0, .slice none 0 0] 28)) 77 #[.string s, .int .i64 0, .int .i64 0, .bool false]
    rw [World.size_alloc] at this
    exact this
  have hb1 : Blk ((w.alloc (.cells #[.int .i64 0, .slice none 0 0] 28)).alloc (.cells #[.string s, .int .i64 0, .int .i64 0, .bool false] 77)) w.heap.size 28 #[.int .i64 0, .slice none 0 0] := (Blk.new _ _ _).alloc _
  have hw1 : Bw w ((w.alloc (.cells #[.int .i64 0, .slice none 0 0] 28)).alloc (.cells #[.string s, .int .i64 0, .int .i64 0, .bool false] 77)) := ((Bw.refl w).alloc _).alloc _
  have CV := Lib.hid (ovalue_any (w.heap.size + 1) s hs' 129 0 0 _ hr1 (Nat.zero_le _) (by omega) (by omega) (hg.bw hw1) (hg.gl.mono (by omega)))
  have HB1 := Lib.hid hb1
  have HW1 := Lib.hid hw1
  have HG := Lib.hid hg
  have HK0 := Lib.hid hk0
  have ds : ¬ (4096 : Int) < (s.size : Int) := by omega
  clear hr1 hb1 hw1 hg hk0 hs
  generalize pv s.data.toList 129 0 0 = r at *
  generalize hres : SortedPost w pe.1 pe.2 = R
  go_enter Tryz.func36, Tryz.ntmps36
  go_upto_region 5 with (go_at_call 60; go_must ((refine CV.out.mono ?_); rintro e w2 ⟨u, A2, n2, c2, rfl, hk2, hg2, hm2⟩; (have H2 : Hid (Blk w2 w.heap.size 28 #[.int .i64 0, .slice none 0 0] ∧ Bw w w2 ∧ KAt w2 (fun y => w.heap.size + 1 ≤ y ∧ y < w2.heap.size) (.slice A2 n2 c2) u.ks) := Lib.hid ⟨HB1.out.grown hg2 (by intro e; injection e; omega), Below.trans HW1.out (gb_below hg2 (by omega) (by simp; omega)), hk2.keep (fun y hy => ⟨by have := hy.1; simp at this; omega, hy.2⟩) (fun _ _ => rfl)⟩); (have HM2 := Lib.hid hm2); clear hk2 hg2 hm2))
  have H3 : Hid (Blk (w2.alloc (.cells #[.int .i64 u.n, .slice A2 n2 c2] 28)) w.heap.size 28 #[.int .i64 0, .slice none 0 0] ∧ Bw w (w2.alloc (.cells #[.int .i64 u.n, .slice A2 n2 c2] 28)) ∧ KAt (w2.alloc (.cells #[.int .i64 u.n, .slice A2 n2 c2] 28)) (fun y => w.heap.size + 1 ≤ y ∧ y < (w2.alloc (.cells #[.int .i64 u.n, .slice A2 n2 c2] 28)).heap.size) (.slice A2 n2 c2) u.ks ∧ Blk (w2.alloc (.cells #[.int .i64 u.n, .slice A2 n2 c2] 28)) w2.heap.size 28 #[.int .i64 u.n, .slice A2 n2 c2]) := Lib.hid ⟨H2.out.1.alloc _, H2.out.2.1.alloc _, H2.out.2.2.keep (fun y hy => ⟨hy.1, by have := hy.2; simp; omega⟩) (fun p hp => World.cell?_alloc_lt w2 _ p hp.2), Blk.new _ _ _⟩
  have hz2 := H2.out.2.1.size
  have hz2' := H2.out.1.lt
  rcases r with _ | ⟨u', a', m'⟩
  · obtain ⟨a', m', hr2⟩ := HM2.out
    have hr3 : RdAt (w2.alloc (.cells #[.int .i64 u.n, .slice A2 n2 c2] 28)) (w.heap.size + 1) s a' m' true := Blk.alloc hr2 _
    have HPZ : Hid (pe = (zeroV, 12)) := Lib.hid (by rw [HPE.out, HPP.out])
    generalize hW3 : w2.alloc (.cells #[.int .i64 u.n, .slice A2 n2 c2] 28) = W3 at *
    clear hW3
    have c3 := hr3.cell 3
    have y0 := H3.out.1.cell 0
    have y1 := H3.out.1.cell 1
    have y2 := H3.out.1.frozen 0
    have y3 := H3.out.1.frozen 1
    clear hr2 hr3 HM2 H2
    go_wp2
    obtain ⟨k1, k2, k3⟩ := ps_end (x := 0) H3.out.2.1 H3.out.1 (HK0.out W3)
    refine bodyPost_ret (results_row_tmp (p := 2) (q := 3) (ty := 28) rfl _ _ w.heap.size _ _ rfl (run_loadVar_row _ _ 28 28 _ (0, 0) _ k3 Tryz.underlying28 rfl (by kernel_rfl)) rfl) rfl ?_
    subst hres
    rw [HPZ.out]
    exact ⟨_, rfl, k1, k2⟩
  · obtain ⟨eu, hr2⟩ := HM2.out
    subst eu
    have hir := HIR.out _ _ _ rfl
    have HIN := Lib.hid hir
    have hr3 : RdAt (w2.alloc (.cells #[.int .i64 u.n, .slice A2 n2 c2] 28)) (w.heap.size + 1) s a' m' false := Blk.alloc hr2 _
    have TX : Hid (∀ W, Bw (w2.alloc (.cells #[.int .i64 u.n, .slice A2 n2 c2] 28)) W → Calls Tryz.prog 33 #[.agg #[.int .i64 u.n, .slice A2 n2 c2]] W (TxtPost W (txtP u))) := Lib.hid (fun W g => oText_any u hir _ W (HG.out.bw (H3.out.2.1.trans g)) (KAt.bw (H3.out.2.2.1.keep (fun y hy => hy.2) (fun _ _ => rfl)) g) _ rfl)
    have HV3 := Lib.hid (fun W (g : Bw (w2.alloc (.cells #[.int .i64 u.n, .slice A2 n2 c2] 28)) W) => (⟨H3.out.1.below g.b H3.out.1.lt, H3.out.2.1.trans g, H3.out.2.2.1.keep (fun y hy => ⟨hy.1, Nat.lt_of_lt_of_le hy.2 g.size⟩) (fun p hp => g.b.cell hp.2), H3.out.2.2.2.below g.b H3.out.2.2.2.lt⟩ : Blk W w.heap.size 28 #[.int .i64 0, .slice none 0 0] ∧ Bw w W ∧ KAt W (fun y => w.heap.size + 1 ≤ y ∧ y < W.heap.size) (.slice A2 n2 c2) u.ks ∧ Blk W w2.heap.size 28 #[.int .i64 u.n, .slice A2 n2 c2]))
    by_cases haz : a' = s.size
    rotate_left
    · have HPZ : Hid (pe = (zeroV, 12)) := Lib.hid (by rw [HPE.out, HPP.out]; simp only [size_data, haz, false_and, if_false])
      generalize hW3 : w2.alloc (.cells #[.int .i64 u.n, .slice A2 n2 c2] 28) = W3 at *
      clear hW3
      have c1 := hr3.cell 1
      have c3 := hr3.cell 3
      have y0 := H3.out.1.cell 0
      have y1 := H3.out.1.cell 1
      have y2 := H3.out.1.frozen 0
      have y3 := H3.out.1.frozen 1
      have da : ((a' : Int) == (s.size : Int)) = false := by simp; omega
      clear hr2 hr3 HM2 H2 TX HV3 hir
      go_wp2
      obtain ⟨k1, k2, k3⟩ := ps_end (x := 0) H3.out.2.1 H3.out.1 (HK0.out W3)
      refine bodyPost_ret (results_row_tmp (p := 2) (q := 3) (ty := 28) rfl _ _ w.heap.size _ _ rfl (run_loadVar_row _ _ 28 28 _ (0, 0) _ k3 Tryz.underlying28 rfl (by kernel_rfl)) rfl) rfl ?_
      subst hres
      rw [HPZ.out]
      exact ⟨_, rfl, k1, k2⟩
    · obtain rfl : a' = s.size := haz
      have HPQ : Hid (pe = if okText s.data.toList u = true then (u, 0) else (zeroV, 12)) := Lib.hid (by
        rw [HPE.out, HPP.out]
        simp only [size_data, true_and]
        by_cases ho : okText s.data.toList u = true
        · rw [if_pos ho, if_pos ho]
        · rw [if_neg ho, if_neg ho])
      generalize hW3 : w2.alloc (.cells #[.int .i64 u.n, .slice A2 n2 c2] 28) = W3 at *
      clear hW3
      have c1 := hr3.cell 1
      have c3 := hr3.cell 3
      have y0 := H3.out.2.2.2.cell 0
      have y1 := H3.out.2.2.2.cell 1
      clear hr2 hr3 HM2 H2 hir
      by_cases h8 : u.size ≤ 128
      rotate_left
      · have et : txtP u = (⟨#[]⟩, 1) := if_neg h8
        rw [et] at TX
        have HPZ : Hid (pe = (zeroV, 12)) := Lib.hid (by rw [HPQ.out, if_neg (by simp [okText, h8])])
        go_wp2_with (go_at_call 33; go_must ((refine (TX.out _ (Bw.refl _)).mono ?_); rintro e w5 ⟨rfl, hg5⟩; (have HV5 := Lib.hid (HV3.out _ hg5)); have z0 := HV5.out.1.cell 0; have z1 := HV5.out.1.cell 1; have z2 := HV5.out.1.frozen 0; have z3 := HV5.out.1.frozen 1; clear hg5))
        obtain ⟨k1, k2, k3⟩ := ps_end (x := 0) HV5.out.2.1 HV5.out.1 (HK0.out w5)
        refine bodyPost_ret (results_row_tmp (p := 2) (q := 3) (ty := 28) rfl _ _ w.heap.size _ _ rfl (run_loadVar_row _ _ 28 28 _ (0, 0) _ k3 Tryz.underlying28 rfl (by kernel_rfl)) rfl) rfl ?_
        subst hres
        rw [HPZ.out]
        exact ⟨_, rfl, k1, k2⟩
      · have et : txtP u = (⟨(textV u).toArray⟩, 0) := if_pos h8
        rw [et] at TX
        obtain ⟨tx, htx⟩ : ∃ tx : ByteArray, tx = ⟨(textV u).toArray⟩ := ⟨_, rfl⟩
        rw [← htx] at TX
        by_cases heq : textV u = s.data.toList
        · have HPZ : Hid (pe = (u, 0)) := Lib.hid (by rw [HPQ.out, if_pos (by simp [okText, h8, heq])])
          obtain rfl : tx = s := by rw [htx, heq]
          have de : (tx.toList == tx.toList) = true := by simp
          clear htx et heq
          go_wp2_with (go_at_call 33; go_must ((refine (TX.out _ (Bw.refl _)).mono ?_); rintro e w5 ⟨rfl, hg5⟩; (have HV5 := Lib.hid (HV3.out _ hg5)); have z0 := HV5.out.1.cell 0; have z1 := HV5.out.1.cell 1; have z2 := HV5.out.1.frozen 0; have z3 := HV5.out.1.frozen 1; have z4 := HV5.out.2.2.2.cell 0; have z5 := HV5.out.2.2.2.cell 1; have z6 := HV5.out.2.2.2.lt; clear hg5))
          obtain ⟨k1, k2, k3⟩ := ps_end (x := u.n) HV5.out.2.1 HV5.out.1 HV5.out.2.2.1
          refine bodyPost_ret (results_row_tmp (p := 2) (q := 3) (ty := 28) rfl _ _ w.heap.size _ _ rfl (run_loadVar_row _ _ 28 28 _ (0, 0) _ k3 Tryz.underlying28 rfl (by kernel_rfl)) rfl) rfl ?_
          subst hres
          rw [HPZ.out]
          exact ⟨_, rfl, k1, k2⟩
        · have HPZ : Hid (pe = (zeroV, 12)) := Lib.hid (by rw [HPQ.out, if_neg (by simp [okText, h8, heq])])
          have de : (tx.toList == s.toList) = false := by
            rw [str_eq_dec, htx]
            simpa using heq
          clear htx et heq
          go_wp2_with (go_at_call 33; go_must ((refine (TX.out _ (Bw.refl _)).mono ?_); rintro e w5 ⟨rfl, hg5⟩; (have HV5 := Lib.hid (HV3.out _ hg5)); have z0 := HV5.out.1.cell 0; have z1 := HV5.out.1.cell 1; have z2 := HV5.out.1.frozen 0; have z3 := HV5.out.1.frozen 1; clear hg5))
          obtain ⟨k1, k2, k3⟩ := ps_end (x := 0) HV5.out.2.1 HV5.out.1 (HK0.out w5)
          refine bodyPost_ret (results_row_tmp (p := 2) (q := 3) (ty := 28) rfl _ _ w.heap.size _ _ rfl (run_loadVar_row _ _ 28 28 _ (0, 0) _ k3 Tryz.underlying28 rfl (by kernel_rfl)) rfl) rfl ?_
          subst hres
          rw [HPZ.out]
          exact ⟨_, rfl, k1, k2⟩
end Go.Proofs.YtlmnkcfnihhlgaaGreatDoor
