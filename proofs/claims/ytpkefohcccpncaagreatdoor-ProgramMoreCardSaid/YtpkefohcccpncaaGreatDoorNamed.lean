/- The package's variables; which texts may name a thread. -/
import Derived.Test.YtpkefohcccpncaaGreatDoorTokLeaf
import Derived.Test.YtpkefohcccpncaaGreatDoorMem
import Derived.Test.YtpkefohcccpncaaGreatDoorShelf
import Derived.WalkSmall
import Derived.Lib.LaidTab
namespace Go.Proofs.YtpkefohcccpncaaGreatDoor
open Go.RowKit
set_option linter.unusedSimpArgs false
set_option linter.unusedVariables false

/-- the variables that the code reads -/
structure GlobP (w : World) : Prop where
  ml : ∃ m, w.cell? ⟨2, 0, none⟩ = some (.int .i64 m)
  tab : Lib.TabIs Tryz.prog w "internal/strconv.uint64pow10" .u64 Lib.pow10Tab
  wd : ∀ k, k < 8 → w.cell? ⟨0, k * 2, none⟩ = some (.string ⟨(kwOf k).toArray⟩) ∧ w.cell? ⟨0, k * 2 + 1, none⟩ = some (.int .i64 (argOf k))
  rs : ∃ (a : Addr) (c : Nat), w.cell? ⟨1, 0, none⟩ = some (.slice (some a) 3 c) ∧ Reads w w.heap.size 1 (some a) 3 [.string ⟨kwValues.toArray⟩, .string ⟨kwThread.toArray⟩, .string ⟨kwEnd.toArray⟩]
  es : ∃ tp p, w.var? Tryz.prog "strconv.ErrSyntax" = some #[.iface tp p]
  er : ∃ tp p, w.var? Tryz.prog "strconv.ErrRange" = some #[.iface tp p]
  lt : 3 < w.heap.size ∧ 2 < w.heap.size ∧ 0 < w.heap.size ∧ 1 < w.heap.size ∧ 6 < w.heap.size ∧ 7 < w.heap.size
theorem pow_named : Tryz.prog.globalNamed "internal/strconv.uint64pow10" = some 3 := by kernel_rfl
theorem es_named : Tryz.prog.globalNamed "strconv.ErrSyntax" = some 6 := by kernel_rfl
theorem er_named : Tryz.prog.globalNamed "strconv.ErrRange" = some 7 := by kernel_rfl
theorem GlobP.below {w w' : World} (h : GlobP w) (hb : Below w.heap.size w w') : GlobP w' := by
  obtain ⟨m, hm⟩ := h.ml
  obtain ⟨a, c, ha, hr⟩ := h.rs
  obtain ⟨tp, p, he⟩ := h.es
  obtain ⟨tp2, p2, he2⟩ := h.er
  obtain ⟨l1, l2, l3, l4, l5, l6⟩ := h.lt
  have hs := hb.size
  exact ⟨⟨m, (hb.cell (p := ⟨2, 0, none⟩) l2).trans hm⟩, var?_below hb pow_named l1 h.tab, fun k hk => ⟨(hb.cell (p := ⟨0, k * 2, none⟩) l3).trans (h.wd k hk).1, (hb.cell (p := ⟨0, k * 2 + 1, none⟩) l3).trans (h.wd k hk).2⟩,
    ⟨a, c, (hb.cell (p := ⟨1, 0, none⟩) l4).trans ha, (hr.below hb).more hs⟩, ⟨tp, p, var?_below hb es_named l5 he⟩, ⟨tp2, p2, var?_below hb er_named l6 he2⟩, by omega, by omega, by omega, by omega, by omega, by omega⟩
theorem GlobP.drewN {w : World} (h : GlobP w) (n : Nat) : GlobP (w.drewN n) := ⟨h.ml, h.tab, h.wd, h.rs, h.es, h.er, h.lt⟩

def IdxPost (w : World) (zs : List ByteArray) (x : ByteArray) (e : Ending) (w' : World) : Prop := ∃ r : Int, e = .returned (.int .i64 r) ∧ decide (0 ≤ r) = zs.any (fun z => z.data.toList == x.data.toList) ∧ r ≤ 100000 ∧ -1 ≤ r ∧ w = w'
theorem toList_data (s : ByteArray) : s.toList = s.data.toList := by
  have : ∀ (n i : Nat) (r : List UInt8), s.size - i ≤ n → ByteArray.toList.loop s i r = r.reverse ++ s.data.toList.drop i := by
    intro n
    induction n with
    | zero =>
      intro i r h
      rw [ByteArray.toList.loop, if_neg (by omega)]
      rw [List.drop_of_length_le (show s.data.toList.length ≤ i from by show s.size ≤ i; omega)]
      simp
    | succ n ih =>
      intro i r h
      rw [ByteArray.toList.loop]
      by_cases hi : i < s.size
      · rw [if_pos hi, ih (i + 1) _ (by omega), List.drop_eq_getElem_cons (show i < s.data.toList.length from hi)]
        simp [ByteArray.get!]
        rw [getElem!_pos s.data i hi]
      · rw [if_neg hi, List.drop_of_length_le (show s.data.toList.length ≤ i from by show s.size ≤ i; omega)]
        simp
  have h := this s.size 0 [] (by omega)
  rw [ByteArray.toList, h]; simp
theorem str_eq_dec (a b : ByteArray) : (a.toList == b.toList) = (a.data.toList == b.data.toList) := by rw [toList_data, toList_data]
set_option maxHeartbeats 400000 in
theorem idxStr_any (A : Option Addr) (n c : Nat) (zs : List ByteArray) (x : ByteArray) (w : World) (B : Nat) (hz : zs.length = n) (hn : n ≤ 100000) (h : Reads w B 1 A n (zs.map Value.string)) :
    Calls Tryz.prog 85 #[.slice A n c, .string x] w (IdxPost w zs x) := by
  have H := Lib.hid h
  have HZ := Lib.hid hz
  clear h hz
  go_enter Tryz.func85, Tryz.ntmps85
  go_wp2
  go_loop [8] (fun i => ∃ k : Nat, k ≤ n ∧ i = .int .i64 k ∧ (zs.take k).any (fun z => z.data.toList == x.data.toList) = false) (fun i => n - (intOf i).toNat)
  case atStart => exact ⟨0, by omega, rfl, rfl⟩
  case round =>
    obtain ⟨k, hk, rfl, hno⟩ := hrel
    have HNO := Lib.hid hno
    clear hno
    by_cases hlt : k < n
    · obtain ⟨ad, u, rfl, hb, hu, hc⟩ := H.out.at_ hlt
      have hkz : k < zs.length := by rw [HZ.out]; exact hlt
      obtain rfl : u = .string (zs[k]'hkz) := by
        rw [List.getElem?_map, List.getElem?_eq_getElem hkz] at hu
        injection hu with hu; exact hu.symm
      have HT : Hid (zs.take (k + 1) = zs.take k ++ [zs[k]'hkz]) := Lib.hid (List.take_succ_eq_append_getElem hkz)
      have HM : Hid (zs[k]'hkz ∈ zs) := Lib.hid (List.getElem_mem hkz)
      clear hu
      generalize zs[k]'hkz = z at *
      by_cases he : x.data.toList = z.data.toList
      · have c1 : (x.toList == z.toList) = true := by rw [str_eq_dec]; simpa using he
        have HE := Lib.hid he
        clear he
        go_wp2
        go_ret
        refine ⟨k, rfl, ?_, by omega, by omega, rfl⟩
        rw [decide_eq_true (by omega)]
        symm
        rw [List.any_eq_true]
        exact ⟨z, HM.out, by simp [HE.out]⟩
      · have c1 : (x.toList == z.toList) = false := by rw [str_eq_dec]; simpa using he
        have HE := Lib.hid he
        clear he
        go_wp2
        go_round
        case rel =>
          refine ⟨k + 1, by omega, by go_num, ?_⟩
          rw [HT.out, List.any_append, HNO.out]
          simp only [List.any_cons, List.any_nil, Bool.or_false, Bool.false_or, beq_eq_false_iff_ne, ne_eq]
          exact fun e => HE.out e.symm
        case measure => simp [intOf]; omega
    · obtain rfl : k = n := by omega
      go_wp2
      go_ret
      refine ⟨-1, rfl, ?_, by omega, by omega, rfl⟩
      have := HNO.out
      rw [List.take_of_length_le (by rw [HZ.out]; exact Nat.le_refl _)] at this
      rw [this]; decide
theorem contStr_any (A : Option Addr) (n c : Nat) (zs : List ByteArray) (x : ByteArray) (w : World) (B : Nat) (hz : zs.length = n) (hn : n ≤ 100000) (h : Reads w B 1 A n (zs.map Value.string)) (b : Bool) (hb : zs.any (fun z => z.data.toList == x.data.toList) = b) :
    Calls Tryz.prog 68 #[.slice A n c, .string x] w fun e w' => e = .returned (.bool b) ∧ w = w' := by
  have HI := Lib.hid (idxStr_any A n c zs x w B hz hn h)
  have HB := Lib.hid hb
  clear h hz hb
  go_enter Tryz.func68, Tryz.ntmps68
  go_wp2_with (go_at_call 85; go_must (refine HI.out.mono ?_; rintro e w' ⟨r, rfl, hr, _, _, rfl⟩; (have HR := Lib.hid hr); clear hr))
  go_ret
  exact ⟨ret_bool (by rw [← HB.out, ← HR.out]), rfl⟩

theorem named_any (s : ByteArray) (w : World) (hs : s.size ≤ 9223372036854775807) (hg : GlobP w) (b : Bool) (hb : namedL s.data.toList = b) :
    Calls Tryz.prog 44 #[.string s] w fun e w' => e = .returned (.bool b) ∧ w = w' := by
  obtain ⟨a, c, hc, hr⟩ := hg.rs
  have HW := Lib.hid (word_any s w hs)
  rcases hw : wordL s.data.toList with _ | _
  · rw [hw] at HW
    have HB : Hid (b = false) := Lib.hid (by rw [← hb, namedL, hw]; rfl)
    clear hw hb hr
    go_enter Tryz.func44, Tryz.ntmps44
    go_wp2_with (go_at_call 67; go_must (refine HW.out.mono ?_; rintro e w' ⟨rfl, rfl⟩))
    go_ret
    exact ⟨ret_bool HB.out.symm, rfl⟩
  · rw [hw] at HW
    obtain ⟨b2, hb2⟩ : ∃ b2, [(⟨kwValues.toArray⟩ : ByteArray), ⟨kwThread.toArray⟩, ⟨kwEnd.toArray⟩].any (fun z => z.data.toList == s.data.toList) = b2 := ⟨_, rfl⟩
    have HC := Lib.hid (contStr_any (some a) 3 c [⟨kwValues.toArray⟩, ⟨kwThread.toArray⟩, ⟨kwEnd.toArray⟩] s w w.heap.size rfl (by omega) hr b2 hb2)
    have HB : Hid (b = !b2) := Lib.hid (by
      rw [← hb, ← hb2, namedL, hw, Bool.true_and]
      simp only [List.any_cons, List.any_nil, Bool.or_false]
      have e : ∀ x y : List UInt8, (x == y) = (y == x) := fun x y => by rw [Bool.eq_iff_iff, beq_iff_eq, beq_iff_eq]; exact eq_comm
      rw [e s.data.toList, e s.data.toList, e s.data.toList, Bool.or_assoc])
    clear hw hb hr hb2
    go_enter Tryz.func44, Tryz.ntmps44
    go_wp2_with (first
      | (go_at_call 67; go_must (refine HW.out.mono ?_; rintro e w' ⟨rfl, rfl⟩))
      | (go_at_call 68; go_must (refine HC.out.mono ?_; rintro e w' ⟨rfl, rfl⟩)))
    go_ret
    exact ⟨ret_bool (by rw [HB.out]), rfl⟩
end Go.Proofs.YtpkefohcccpncaaGreatDoor
