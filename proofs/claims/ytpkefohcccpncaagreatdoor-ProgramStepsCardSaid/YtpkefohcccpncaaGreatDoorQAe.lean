/- Programs in memory: lines, threads, to read and of the call's own. The package's variables; which texts may name a thread. The reference's words and names of threads. A range over an iterator that keeps its state in a captured cell: the caller's law, turned from the library's for iterators without such a cell. -/
import Derived.Test.YtpkefohcccpncaaGreatDoorQAa
import Derived.Test.YtpkefohcccpncaaGreatDoorQAd
import Derived.Test.YtpkefohcccpncaaGreatDoorShelf
import Derived.WalkSmall
import Derived.Lib.LaidTab
import Derived.Lib.Strings
import Derived.RangeFuncNested
import Derived.RangeFuncBound
import Derived.RangeFuncCalls
import Derived.RangeFuncLeaves
import Derived.RangeFuncWrites
import Derived.Shelf.Abstract
import Derived.Shelf.RegionOpen
import Derived.OwnWalkIn
import Derived.TacticsInMore
import Derived.LoopNIn
import Derived.LoopIn
import Derived.StillTailTactics
import Derived.OrdersIn
import Derived.OrdersHeld
namespace Go.Proofs.YtpkefohcccpncaaGreatDoor
open Go.RowKit
set_option linter.unusedSimpArgs false
set_option linter.unusedVariables false

def lnCells (ls : List Ln) : List Value := ls.flatMap fun l => [.int .i64 l.k, .int .i64 l.a, .int .i64 l.n]
theorem lnCells_length (ls : List Ln) : (lnCells ls).length = ls.length * 3 := by
  induction ls with
  | nil => rfl
  | cons x xs ih => simp only [lnCells, List.flatMap_cons, List.length_append, List.length_cons] at *; rw [ih]; simp; omega
theorem lnCells_append (a b : List Ln) : lnCells (a ++ b) = lnCells a ++ lnCells b := by simp [lnCells]
theorem lnCells_get (xs : List Ln) (k : Nat) (hk : k < xs.length) : (lnCells xs)[k * 3]? = some (.int .i64 xs[k].k) ∧ (lnCells xs)[k * 3 + 1]? = some (.int .i64 xs[k].a) ∧ (lnCells xs)[k * 3 + 2]? = some (.int .i64 xs[k].n) := by
  induction xs generalizing k with
  | nil => simp at hk
  | cons x xs ih =>
    have e : lnCells (x :: xs) = [.int .i64 x.k, .int .i64 x.a, .int .i64 x.n] ++ lnCells xs := rfl
    cases k with
    | zero => simp [e]
    | succ k =>
      have h := ih k (by simpa using hk)
      rw [e]
      refine ⟨?_, ?_, ?_⟩
      · rw [List.getElem?_append_right (by simp; omega)]; simp only [List.length_cons, List.length_nil, List.getElem_cons_succ]; rw [show (k + 1) * 3 - (0 + 1 + 1 + 1) = k * 3 from by omega]; exact h.1
      · rw [List.getElem?_append_right (by simp; omega)]; simp only [List.length_cons, List.length_nil, List.getElem_cons_succ]; rw [show (k + 1) * 3 + 1 - (0 + 1 + 1 + 1) = k * 3 + 1 from by omega]; exact h.2.1
      · rw [List.getElem?_append_right (by simp; omega)]; simp only [List.length_cons, List.length_nil, List.getElem_cons_succ]; rw [show (k + 1) * 3 + 2 - (0 + 1 + 1 + 1) = k * 3 + 2 from by omega]; exact h.2.2
def LnsAt (w : World) (B : Nat) (A : Option Addr) (ls : List Ln) : Prop := Reads w B 3 A ls.length (lnCells ls)
theorem LnsAt.at_ {w : World} {B : Nat} {A : Option Addr} {xs : List Ln} (h : LnsAt w B A xs) {k : Nat} (hk : k < xs.length) :
    ∃ ad, A = some ad ∧ ad.block < B ∧ w.cell? (ad.add (k * 3)) = some (.int .i64 xs[k].k) ∧ w.cell? ⟨(ad.add (k * 3)).block, (ad.add (k * 3)).off + 1, none⟩ = some (.int .i64 xs[k].a) ∧ w.cell? ⟨(ad.add (k * 3)).block, (ad.add (k * 3)).off + 2, none⟩ = some (.int .i64 xs[k].n) := by
  obtain ⟨ad, e, hb, hc⟩ := h.2 (by omega)
  obtain ⟨h0, h1, h2⟩ := lnCells_get xs k hk
  refine ⟨ad, e, hb, hc _ _ h0, ?_, ?_⟩
  · rw [← add_off ad _ 0]; exact hc _ _ h1
  · rw [← add_off ad _ 1]; exact hc _ _ h2
theorem LnsAt.below {w w' : World} {B : Nat} {A : Option Addr} {xs : List Ln} (h : LnsAt w B A xs) (hb : Below B w w') : LnsAt w' B A xs := Reads.below h hb
theorem LnsAt.more {w : World} {B B' : Nat} {A : Option Addr} {xs : List Ln} (h : LnsAt w B A xs) (hb : B ≤ B') : LnsAt w B' A xs := Reads.more h hb

/-- the cells of a row of threads, whose lines lie in the slices vs -/
def thCells : List Th → List Value → List Value
  | t :: ts, v :: vs => .string t.nm :: v :: thCells ts vs
  | _, _ => []
theorem thCells_length : ∀ (ts : List Th) (vs : List Value), vs.length = ts.length → (thCells ts vs).length = ts.length * 2 := by
  intro ts
  induction ts with
  | nil => intro vs h; obtain rfl : vs = [] := by simpa using h
           rfl
  | cons t ts ih =>
    intro vs h
    cases vs with
    | nil => simp at h
    | cons v vs => simp only [thCells, List.length_cons]; rw [ih vs (by simpa using h)]; omega
theorem thCells_snoc : ∀ (ts : List Th) (vs : List Value) (t : Th) (v : Value), vs.length = ts.length → thCells (ts ++ [t]) (vs ++ [v]) = thCells ts vs ++ [.string t.nm, v] := by
  intro ts
  induction ts with
  | nil => intro vs t v h; obtain rfl : vs = [] := by simpa using h
           rfl
  | cons x ts ih =>
    intro vs t v h
    cases vs with
    | nil => simp at h
    | cons y vs => simp only [List.cons_append, thCells]; rw [ih vs t v (by simpa using h)]
theorem thCells_get : ∀ (ts : List Th) (vs : List Value) (hl : vs.length = ts.length) (k : Nat) (hk : k < ts.length), (thCells ts vs)[k * 2]? = some (.string ts[k].nm) ∧ (thCells ts vs)[k * 2 + 1]? = some (vs[k]'(by omega)) := by
  intro ts
  induction ts with
  | nil => intro vs hl k hk; simp at hk
  | cons t ts ih =>
    intro vs hl k hk
    cases vs with
    | nil => simp at hl
    | cons v vs =>
      cases k with
      | zero => exact ⟨rfl, rfl⟩
      | succ k =>
        obtain ⟨h1, h2⟩ := ih vs (by simpa using hl) k (by simpa using hk)
        refine ⟨?_, ?_⟩
        · rw [show (k + 1) * 2 = k * 2 + 1 + 1 from by omega]; simpa [thCells] using h1
        · rw [show (k + 1) * 2 + 1 = (k * 2 + 1) + 1 + 1 from by omega]; simpa [thCells] using h2
theorem thCells_set : ∀ (ts : List Th) (vs : List Value) (hl : vs.length = ts.length) (k : Nat) (v : Value) (hk : k < ts.length), (thCells ts vs).set (k * 2 + 1) v = thCells ts (vs.set k v) := by
  intro ts
  induction ts with
  | nil => intro vs hl k v hk; simp at hk
  | cons t ts ih =>
    intro vs hl k v hk
    cases vs with
    | nil => simp at hl
    | cons u vs =>
      cases k with
      | zero => rfl
      | succ k =>
        rw [show (k + 1) * 2 + 1 = (k * 2 + 1) + 1 + 1 from by omega]
        simp only [thCells, List.set_cons_succ]
        rw [ih vs (by simpa using hl) k v (by simpa using hk)]
/-- a slice that reads as a list of threads -/
def ThsAt (w : World) (B : Nat) (A : Option Addr) (ts : List Th) : Prop := ∃ vs : List Value, vs.length = ts.length ∧ Reads w B 2 A ts.length (thCells ts vs) ∧
  ∀ (k : Nat) (h : k < ts.length) (h' : k < vs.length), ∃ LA c, vs[k] = .slice LA ts[k].ls.length c ∧ LnsAt w B LA ts[k].ls
theorem ThsAt.at_ {w : World} {B : Nat} {A : Option Addr} {ts : List Th} (h : ThsAt w B A ts) {k : Nat} (hk : k < ts.length) :
    ∃ ad LA c, A = some ad ∧ ad.block < B ∧ w.cell? (ad.add (k * 2)) = some (.string ts[k].nm) ∧ w.cell? ⟨(ad.add (k * 2)).block, (ad.add (k * 2)).off + 1, none⟩ = some (.slice LA ts[k].ls.length c) ∧ LnsAt w B LA ts[k].ls := by
  obtain ⟨vs, hl, hr, hls⟩ := h
  obtain ⟨ad, e, hb, hc⟩ := hr.2 (by omega)
  obtain ⟨h0, h1⟩ := thCells_get ts vs hl k hk
  obtain ⟨LA, c, hv, hLA⟩ := hls k hk (by omega)
  refine ⟨ad, LA, c, e, hb, hc _ _ h0, ?_, hLA⟩
  rw [← add_off ad _ 0, ← hv]; exact hc _ _ h1
theorem ThsAt.below {w w' : World} {B : Nat} {A : Option Addr} {ts : List Th} (h : ThsAt w B A ts) (hb : Below B w w') : ThsAt w' B A ts := by
  obtain ⟨vs, hl, hr, hls⟩ := h
  refine ⟨vs, hl, hr.below hb, fun k h h' => ?_⟩
  obtain ⟨LA, c, hv, hLA⟩ := hls k h h'
  exact ⟨LA, c, hv, hLA.below hb⟩
theorem ThsAt.more {w : World} {B B' : Nat} {A : Option Addr} {ts : List Th} (h : ThsAt w B A ts) (hb : B ≤ B') : ThsAt w B' A ts := by
  obtain ⟨vs, hl, hr, hls⟩ := h
  refine ⟨vs, hl, hr.more hb, fun k h h' => ?_⟩
  obtain ⟨LA, c, hv, hLA⟩ := hls k h h'
  exact ⟨LA, c, hv, hLA.more hb⟩
theorem ThsAt.up {w w' : World} {A : Option Addr} {ts : List Th} (h : ThsAt w w.heap.size A ts) (hb : Below w.heap.size w w') : ThsAt w' w'.heap.size A ts := (h.below hb).more hb.size
theorem ThsAt.nil {w : World} {B : Nat} : ThsAt w B none [] := ⟨[], rfl, Reads.none_, fun k h => absurd h (by simp)⟩
end Go.Proofs.YtpkefohcccpncaaGreatDoor
namespace Go.Proofs.YtpkefohcccpncaaGreatDoor
open Go.RowKit
set_option linter.unusedSimpArgs false
set_option linter.unusedVariables false

/-- the variables that the code reads -/
structure GlobP (w : World) : Prop where
  ml : ∃ m, w.cell? ⟨2, 0, none⟩ = some (.int .i64 m)
  tab : Lib.TabIs Tryz.prog w "internal/strconv.uint64pow10" .u64 Lib.pow10Tab
  wd : ∀ k, k < 8 → w.cell? ⟨0, k * 2, none⟩ = some (.string ⟨(kwOf k).toArray⟩) ∧ w.cell? ⟨0, k * 2 + 1, none⟩ = some (.int .i64 (argOf k))
  rs : ∃ (a : Addr) (c : Nat), w.cell? ⟨1, 0, none⟩ = some (.slice (some a) 3 c) ∧ Reads w w.heap.size 1 (some a) 3 [.string ⟨kwValues.toArray⟩, .string ⟨kwThread.toArray⟩, .string ⟨kwEnd.toArray⟩]
  es : ∃ tp p, w.var? Tryz.prog "strconv.ErrSyntax" = some #[.iface tp p]
  er : ∃ tp p, w.var? Tryz.prog "strconv.ErrRange" = some #[.iface tp p]
  lt : 3 < w.heap.size ∧ 2 < w.heap.size ∧ 0 < w.heap.size ∧ 1 < w.heap.size ∧ 6 < w.heap.size ∧ 7 < w.heap.size
theorem pow_named : Tryz.prog.globalNamed "internal/strconv.uint64pow10" = some 3 := by kernel_rfl
theorem es_named : Tryz.prog.globalNamed "strconv.ErrSyntax" = some 6 := by kernel_rfl
theorem er_named : Tryz.prog.globalNamed "strconv.ErrRange" = some 7 := by kernel_rfl
theorem GlobP.below {w w' : World} (h : GlobP w) (hb : Below w.heap.size w w') : GlobP w' := by
  obtain ⟨m, hm⟩ := h.ml
  obtain ⟨a, c, ha, hr⟩ := h.rs
  obtain ⟨tp, p, he⟩ := h.es
  obtain ⟨tp2, p2, he2⟩ := h.er
  obtain ⟨l1, l2, l3, l4, l5, l6⟩ := h.lt
  have hs := hb.size
  exact ⟨⟨m, (hb.cell (p := ⟨2, 0, none⟩) l2).trans hm⟩, var?_below hb pow_named l1 h.tab, fun k hk => ⟨(hb.cell (p := ⟨0, k * 2, none⟩) l3).trans (h.wd k hk).1, (hb.cell (p := ⟨0, k * 2 + 1, none⟩) l3).trans (h.wd k hk).2⟩,
    ⟨a, c, (hb.cell (p := ⟨1, 0, none⟩) l4).trans ha, (hr.below hb).more hs⟩, ⟨tp, p, var?_below hb es_named l5 he⟩, ⟨tp2, p2, var?_below hb er_named l6 he2⟩, by omega, by omega, by omega, by omega, by omega, by omega⟩
theorem GlobP.drewN {w : World} (h : GlobP w) (n : Nat) : GlobP (w.drewN n) := ⟨h.ml, h.tab, h.wd, h.rs, h.es, h.er, h.lt⟩

def IdxPost (w : World) (zs : List ByteArray) (x : ByteArray) (e : Ending) (w' : World) : Prop := ∃ r : Int, e = .returned (.int .i64 r) ∧ decide (0 ≤ r) = zs.any (fun z => z.data.toList == x.data.toList) ∧ r ≤ 100000 ∧ -1 ≤ r ∧ w = w'
theorem toList_data (s : ByteArray) : s.toList = s.data.toList := by
  have : ∀ (n i : Nat) (r : List UInt8), s.size - i ≤ n → ByteArray.toList.loop s i r = r.reverse ++ s.data.toList.drop i := by
    intro n
    induction n with
    | zero =>
      intro i r h
      rw [ByteArray.toList.loop, if_neg (by omega)]
      rw [List.drop_of_length_le (show s.data.toList.length ≤ i from by show s.size ≤ i; omega)]
      simp
    | succ n ih =>
      intro i r h
      rw [ByteArray.toList.loop]
      by_cases hi : i < s.size
      · rw [if_pos hi, ih (i + 1) _ (by omega), List.drop_eq_getElem_cons (show i < s.data.toList.length from hi)]
        simp [ByteArray.get!]
        rw [getElem!_pos s.data i hi]
      · rw [if_neg hi, List.drop_of_length_le (show s.data.toList.length ≤ i from by show s.size ≤ i; omega)]
        simp
  have h := this s.size 0 [] (by omega)
  rw [ByteArray.toList, h]; simp
theorem str_eq_dec (a b : ByteArray) : (a.toList == b.toList) = (a.data.toList == b.data.toList) := by rw [toList_data, toList_data]
set_option maxHeartbeats 400000 in
theorem idxStr_any (A : Option Addr) (n c : Nat) (zs : List ByteArray) (x : ByteArray) (w : World) (B : Nat) (hz : zs.length = n) (hn : n ≤ 100000) (h : Reads w B 1 A n (zs.map Value.string)) :
    Calls Tryz.prog 85 #[.slice A n c, .string x] w (IdxPost w zs x) := by
  have H := Lib.hid h
  have HZ := Lib.hid hz
  clear h hz
  go_enter Tryz.func85, Tryz.ntmps85
  go_wp2
  go_loop [8] (fun i => ∃ k : Nat, k ≤ n ∧ i = .int .i64 k ∧ (zs.take k).any (fun z => z.data.toList == x.data.toList) = false) (fun i => n - (intOf i).toNat)
  case atStart => exact ⟨0, by omega, rfl, rfl⟩
  case round =>
    obtain ⟨k, hk, rfl, hno⟩ := hrel
    have HNO := Lib.hid hno
    clear hno
    by_cases hlt : k < n
    · obtain ⟨ad, u, rfl, hb, hu, hc⟩ := H.out.at_ hlt
      have hkz : k < zs.length := by rw [HZ.out]; exact hlt
      obtain rfl : u = .string (zs[k]'hkz) := by
        rw [List.getElem?_map, List.getElem?_eq_getElem hkz] at hu
        injection hu with hu; exact hu.symm
      have HT : Hid (zs.take (k + 1) = zs.take k ++ [zs[k]'hkz]) := Lib.hid (List.take_succ_eq_append_getElem hkz)
      have HM : Hid (zs[k]'hkz ∈ zs) := Lib.hid (List.getElem_mem hkz)
      clear hu
      generalize zs[k]'hkz = z at *
      by_cases he : x.data.toList = z.data.toList
      · have c1 : (x.toList == z.toList) = true := by rw [str_eq_dec]; simpa using he
        have HE := Lib.hid he
        clear he
        go_wp2
        go_ret
        refine ⟨k, rfl, ?_, by omega, by omega, rfl⟩
        rw [decide_eq_true (by omega)]
        symm
        rw [List.any_eq_true]
        exact ⟨z, HM.out, by simp [HE.out]⟩
      · have c1 : (x.toList == z.toList) = false := by rw [str_eq_dec]; simpa using he
        have HE := Lib.hid he
        clear he
        go_wp2
        go_round
        case rel =>
          refine ⟨k + 1, by omega, by go_num, ?_⟩
          rw [HT.out, List.any_append, HNO.out]
          simp only [List.any_cons, List.any_nil, Bool.or_false, Bool.false_or, beq_eq_false_iff_ne, ne_eq]
          exact fun e => HE.out e.symm
        case measure => simp [intOf]; omega
    · obtain rfl : k = n := by omega
      go_wp2
      go_ret
      refine ⟨-1, rfl, ?_, by omega, by omega, rfl⟩
      have := HNO.out
      rw [List.take_of_length_le (by rw [HZ.out]; exact Nat.le_refl _)] at this
      rw [this]; decide
theorem contStr_any (A : Option Addr) (n c : Nat) (zs : List ByteArray) (x : ByteArray) (w : World) (B : Nat) (hz : zs.length = n) (hn : n ≤ 100000) (h : Reads w B 1 A n (zs.map Value.string)) (b : Bool) (hb : zs.any (fun z => z.data.toList == x.data.toList) = b) :
    Calls Tryz.prog 68 #[.slice A n c, .string x] w fun e w' => e = .returned (.bool b) ∧ w = w' := by
  have HI := Lib.hid (idxStr_any A n c zs x w B hz hn h)
  have HB := Lib.hid hb
  clear h hz hb
  go_enter Tryz.func68, Tryz.ntmps68
  go_wp2_with (go_at_call 85; go_must (refine HI.out.mono ?_; rintro e w' ⟨r, rfl, hr, _, _, rfl⟩; (have HR := Lib.hid hr); clear hr))
  go_ret
  exact ⟨ret_bool (by rw [← HB.out, ← HR.out]), rfl⟩

theorem named_any (s : ByteArray) (w : World) (hs : s.size ≤ 9223372036854775807) (hg : GlobP w) (b : Bool) (hb : namedL s.data.toList = b) :
    Calls Tryz.prog 44 #[.string s] w fun e w' => e = .returned (.bool b) ∧ w = w' := by
  obtain ⟨a, c, hc, hr⟩ := hg.rs
  have HW := Lib.hid (word_any s w hs)
  rcases hw : wordL s.data.toList with _ | _
  · rw [hw] at HW
    have HB : Hid (b = false) := Lib.hid (by rw [← hb, namedL, hw]; rfl)
    clear hw hb hr
    go_enter Tryz.func44, Tryz.ntmps44
    go_wp2_with (go_at_call 67; go_must (refine HW.out.mono ?_; rintro e w' ⟨rfl, rfl⟩))
    go_ret
    exact ⟨ret_bool HB.out.symm, rfl⟩
  · rw [hw] at HW
    obtain ⟨b2, hb2⟩ : ∃ b2, [(⟨kwValues.toArray⟩ : ByteArray), ⟨kwThread.toArray⟩, ⟨kwEnd.toArray⟩].any (fun z => z.data.toList == s.data.toList) = b2 := ⟨_, rfl⟩
    have HC := Lib.hid (contStr_any (some a) 3 c [⟨kwValues.toArray⟩, ⟨kwThread.toArray⟩, ⟨kwEnd.toArray⟩] s w w.heap.size rfl (by omega) hr b2 hb2)
    have HB : Hid (b = !b2) := Lib.hid (by
      rw [← hb, ← hb2, namedL, hw, Bool.true_and]
      simp only [List.any_cons, List.any_nil, Bool.or_false]
      have e : ∀ x y : List UInt8, (x == y) = (y == x) := fun x y => by rw [Bool.eq_iff_iff, beq_iff_eq, beq_iff_eq]; exact eq_comm
      rw [e s.data.toList, e s.data.toList, e s.data.toList, Bool.or_assoc])
    clear hw hb hr hb2
    go_enter Tryz.func44, Tryz.ntmps44
    go_wp2_with (first
      | (go_at_call 67; go_must (refine HW.out.mono ?_; rintro e w' ⟨rfl, rfl⟩))
      | (go_at_call 68; go_must (refine HC.out.mono ?_; rintro e w' ⟨rfl, rfl⟩)))
    go_ret
    exact ⟨ret_bool (by rw [HB.out]), rfl⟩
end Go.Proofs.YtpkefohcccpncaaGreatDoor
namespace Go.Proofs.YtpkefohcccpncaaGreatDoor
open Go.RowKit
set_option linter.unusedSimpArgs false
set_option linter.unusedVariables false

theorem rletter_any (c : UInt8) (w : World) : Calls Tryz.prog 86 #[.int .u8 (c.toNat : Int)] w fun e w' => e = .returned (.bool (partB c)) ∧ w = w' := by
  go_enter Tryz.func86, Tryz.ntmps86
  go_wp2
  all_goals (go_ret; exact ⟨ret_bool (by rw [Bool.eq_iff_iff]; simp [partB, letterB, digitB]; omega), rfl⟩)

theorem runL_full {p : UInt8 → Bool} {l : List UInt8} (h : runL p l = l.length) : ∀ k, (hk : k < l.length) → p l[k] = true := by
  intro k hk
  rcases hp : p l[k] with _ | _
  · have := runL_eq (k := k) (by omega) hk hp; omega
  · rfl

theorem wordL_false {s : ByteArray} (h : runL partB s.data.toList ≠ s.size) : wordL s.data.toList = false := by
  rw [wordL_eq]; simp [h]

set_option maxHeartbeats 400000 in
theorem rword_any (s : ByteArray) (w : World) (hs : s.size ≤ 9223372036854775807) :
    Calls Tryz.prog 69 #[.string s] w fun e w' => e = .returned (.bool (wordL s.data.toList)) ∧ w = w' := by
  have hle := runL_le partB s.data.toList
  have hsz : s.data.toList.length = s.size := by simp
  go_enter Tryz.func69, Tryz.ntmps69
  go_wp2
  go_loop [3] (fun i => ∃ k : Nat, k ≤ runL partB s.data.toList ∧ i = .int .i64 k) (fun i => s.size - (intOf i).toNat)
  case atStart => exact ⟨0, Nat.zero_le _, rfl⟩
  case round =>
    obtain ⟨k, hk, rfl⟩ := hrel
    by_cases hlt : k < s.size
    · rcases hp : partB s.data.toList[k] with _ | _
      all_goals
        have HP := Lib.hid hp
        clear hp
      · go_wp2_with (go_at_call 86; go_must (refine (rletter_any s[k] _).mono ?_; rintro e w' ⟨rfl, rfl⟩; rw [show partB s[k] = false from HP.out]))
        go_ret
        exact ⟨ret_bool (wordL_false (by rw [runL_eq hk (by omega) HP.out]; omega)).symm, rfl⟩
      · go_wp2_with (go_at_call 86; refine (rletter_any s[k] _).mono ?_; rintro e w' ⟨rfl, rfl⟩; rw [show partB s[k] = true from HP.out])
        go_round
        case rel => exact ⟨k + 1, runL_lt hk (by omega) HP.out, by go_num⟩
        case measure => simp [intOf]; omega
    · have hr : runL partB s.data.toList = s.size := by omega
      have HR := Lib.hid hr
      clear hr
      by_cases h0 : 1 ≤ s.size
      · have hpos : 0 < s.size := by omega
        have hd : s.data.toList.headD 0 = s[0] := by
          rw [List.headD_eq_head?_getD, List.head?_eq_getElem?, List.getElem?_eq_getElem (by omega)]; rfl
        have HF : Hid (wordL s.data.toList = (decide (s.size ≤ 12) && letterB s[0])) := Lib.hid (by rw [wordL_eq, hd, HR.out, decide_eq_true (p := s.size ≠ 0) (by omega), decide_eq_true (p := s.size = s.size) rfl]; simp)
        clear hd
        go_wp2
        all_goals (go_ret; exact ⟨ret_bool (by rw [HF.out, Bool.eq_iff_iff]; simp [letterB]; omega), rfl⟩)
      · have HF : Hid (wordL s.data.toList = false) := Lib.hid (by rw [wordL_eq, show s.size = 0 from by omega]; simp)
        go_wp2
        go_ret
        exact ⟨ret_bool HF.out.symm, rfl⟩

theorem rname_any (s : ByteArray) (w : World) (hs : s.size ≤ 9223372036854775807) (b : Bool) (hb : namedL s.data.toList = b) :
    Calls Tryz.prog 46 #[.string s] w fun e w' => e = .returned (.bool b) ∧ w = w' := by
  have RW := Lib.hid (rword_any s w hs)
  rcases hw : wordL s.data.toList with _ | _
  · rw [hw] at RW
    have HB : Hid (b = false) := Lib.hid (by rw [← hb, namedL, hw]; rfl)
    clear hw hb
    go_enter Tryz.func46, Tryz.ntmps46
    go_wp2_with (go_at_call 69; go_must (refine RW.out.mono ?_; rintro e w' ⟨rfl, rfl⟩))
    go_ret
    exact ⟨ret_bool HB.out.symm, rfl⟩
  · rw [hw] at RW
    by_cases h1 : s.data.toList = kwValues
    · have c1 : (s.toList == [118, 97, 108, 117, 101, 115]) = true := by rw [toList_data, h1]; rfl
      have c1' : (s.toList != [118, 97, 108, 117, 101, 115]) = false := by rw [bne, c1]; rfl
      have HB : Hid (b = false) := Lib.hid (by rw [← hb, namedL, hw, h1]; rfl)
      clear hw hb h1
      go_enter Tryz.func46, Tryz.ntmps46
      go_wp2_with (go_at_call 69; go_must (refine RW.out.mono ?_; rintro e w' ⟨rfl, rfl⟩))
      go_ret
      exact ⟨ret_bool HB.out.symm, rfl⟩
    have c1 : (s.toList == [118, 97, 108, 117, 101, 115]) = false := by rw [toList_data, beq_eq_false_iff_ne]; exact h1
    have c1' : (s.toList != [118, 97, 108, 117, 101, 115]) = true := by rw [bne, c1]; rfl
    by_cases h2 : s.data.toList = kwThread
    · have c2 : (s.toList == [116, 104, 114, 101, 97, 100]) = true := by rw [toList_data, h2]; rfl
      have c2' : (s.toList != [116, 104, 114, 101, 97, 100]) = false := by rw [bne, c2]; rfl
      have HB : Hid (b = false) := Lib.hid (by rw [← hb, namedL, hw, h2]; rfl)
      clear hw hb h1 h2
      go_enter Tryz.func46, Tryz.ntmps46
      go_wp2_with (go_at_call 69; go_must (refine RW.out.mono ?_; rintro e w' ⟨rfl, rfl⟩))
      go_ret
      exact ⟨ret_bool HB.out.symm, rfl⟩
    have c2 : (s.toList == [116, 104, 114, 101, 97, 100]) = false := by rw [toList_data, beq_eq_false_iff_ne]; exact h2
    have c2' : (s.toList != [116, 104, 114, 101, 97, 100]) = true := by rw [bne, c2]; rfl
    by_cases h3 : s.data.toList = kwEnd
    · have c3 : (s.toList == [101, 110, 100]) = true := by rw [toList_data, h3]; rfl
      have c3' : (s.toList != [101, 110, 100]) = false := by rw [bne, c3]; rfl
      have HB : Hid (b = false) := Lib.hid (by rw [← hb, namedL, hw, h3]; rfl)
      clear hw hb h1 h2 h3
      go_enter Tryz.func46, Tryz.ntmps46
      go_wp2_with (go_at_call 69; go_must (refine RW.out.mono ?_; rintro e w' ⟨rfl, rfl⟩))
      go_ret
      exact ⟨ret_bool HB.out.symm, rfl⟩
    have c3 : (s.toList == [101, 110, 100]) = false := by rw [toList_data, beq_eq_false_iff_ne]; exact h3
    have c3' : (s.toList != [101, 110, 100]) = true := by rw [bne, c3]; rfl
    have HB : Hid (b = true) := Lib.hid (by
      rw [← hb, namedL, hw, Bool.true_and, beq_eq_false_iff_ne.2 h1, beq_eq_false_iff_ne.2 h2, beq_eq_false_iff_ne.2 h3]; rfl)
    clear hw hb h1 h2 h3
    go_enter Tryz.func46, Tryz.ntmps46
    go_wp2_with (go_at_call 69; go_must (refine RW.out.mono ?_; rintro e w' ⟨rfl, rfl⟩))
    go_ret
    exact ⟨ret_bool HB.out.symm, rfl⟩
end Go.Proofs.YtpkefohcccpncaaGreatDoor
namespace Go.Proofs.YtpkefohcccpncaaGreatDoor
open Go.RowKit
set_option linter.unusedSimpArgs false
set_option linter.unusedVariables false
section
variable {F : Fence} {n : Nat} {P : Program}

/-- J abides new blocks, draws, and new contents of block Bs, a row of type T -/
def AbB {β : Type} (Bs : Nat) (T : TypeId) (J : β → World → Prop) : Prop := ∀ s W W' row, J s W → W.grownBy W' row → (∀ r, row = some r → r = Bs ∧ (∃ c, W.heap[r]? = some (.cells c T (0, 0))) ∧ ∃ c, W'.heap[r]? = some (.cells c T (0, 0))) → J s W'

/-- the contract of an iterator that writes its captured cell in block Bs -/
def SeqBox {α : Type} (F : Fence) (n : Nat) (P : Program) (g : Nat) (lb : Array Value) (encs : α → Array Value) (Kp : World → World → Prop) (Bs : Nat) (T : TypeId) (S Sp : List α → Prop) (N : Nat) (w : World) : Prop :=
  ∀ (l : Nat) (J Jx : List α → World → Prop) (W : World), Below w.heap.size w W → AbB Bs T J → AbB Bs T Jx →
    (∀ pre x W1, J pre W1 → pre.length < N → YieldAt F (n - 1) P l (encs x) W1 fun e W' =>
      (e = .returned (.bool true) ∧ J (pre ++ [x]) W' ∧ Kp W1 W') ∨ (e = .returned (.bool false) ∧ Jx (pre ++ [x]) W')) →
    J [] W →
    CallsIn F n P g (#[.func (.yield l) #[] #[]] ++ lb) W fun e W' => (∃ v, e = .returned v) ∧ ((∃ xs, S xs ∧ J xs W') ∨ (∃ pre, Sp pre ∧ Jx pre W'))

theorem wpIn_rangeFunc_box {α : Type} {g : Operand} {ps : Array Tmp} {assign body : Code} {Q : Exit → Act → World → Prop} {a : Act} {w : World}
    (hro : F.round = none) (h1 : 1 ≤ n) {gf : Nat} {lb : Array Value} (hg : a.eval g = .func (.func gf) #[] lb) (hFg : F.fn gf) (eg : ∀ args w, (callFunc gf args).run P w = .ok (.enter gf args) w)
    {encs : α → Array Value} {Kp : World → World → Prop} {S Sp : List α → Prop} {N : Nat} {w0 : World} {Bs : Nat} {T : TypeId} (hBs : Bs < w.heap.size) (hseq : SeqBox F (n - 1) P gf lb encs Kp Bs T S Sp N w0)
    (hKt : ∀ {A B C : World}, Kp A B → Kp B C → Kp A C) (hKb : ∀ (W : World) (l : Nat) (o o' : Obj), w.heap.size ≤ l → W.heap[l]? = some o → o.isCells = false → o.isWalk = false → Kp W (W.putObj l o')) (hb0 : Below w0.heap.size w0 w) (hps : ∀ x, (encs x).size = ps.size)
    (I : List α → World → Prop) (Ix : Code → List α → World → Prop) (hI : OwnFrom w.heap.size I) (hIx : ∀ c, OwnFrom w.heap.size (Ix c)) (hIb : AbB Bs T I) (hIxb : ∀ c, AbB Bs T (Ix c)) (h0 : I [] w) (a₁ : α → Act)
    (hassign : ∀ (l : Nat) (x : α) (W : World) (K : Act → World → Prop), K (a₁ x) W →
      assign.wpIn (F.inRound l) (n - 1 - 1) P (Exit.then K (fun _ _ _ => False)) { tmps := (ps.zip (encs x)).foldl (fun t (p, v) => t.setIfInBounds p v) a.tmps, defers := [] } W)
    (hbody : ∀ (l : Nat) (pre : List α) (x : α) (W : World), I pre W → pre.length < N → body.wpIn (F.inRound l) (n - 1 - 1) P (ownPostG w.heap.size Kp I Ix (pre ++ [x]) W) (a₁ x) W)
    (hdone : ∀ (D : Nat) (xs : List α) (W : World), w.heap.size ≤ D → S xs → I xs W → W.heap[D]? = some (.deferred (some [])) → Q .normal { a with defers := { target := .collected D, args := #[] } :: a.defers } W)
    (hstop : ∀ (D : Nat) (c : Code) (pre : List α) (W : World), w.heap.size ≤ D → Sp pre → Ix c pre W → W.heap[D]? = some (.deferred (some [])) → c.wpIn F n P Q { a with defers := { target := .collected D, args := #[] } :: a.defers } W) :
    (Code.rangeFunc g ps assign body).wpIn F n P Q a w := by
  refine wpIn_rangeFunc ?_
  intro fn hfn
  rw [hro]
  obtain ⟨rec, hrec⟩ : ∃ rec : LoopState → Option Code → Loop, rec = fun st pe => { state := st, pending := pe, fn, tmps := a.tmps, params := ps, assign, body, defers := w.heap.size } := ⟨_, rfl⟩
  obtain ⟨W1, hW1⟩ : ∃ W1, (w.alloc (.deferred (some []))).alloc (.loop (rec .ready none)) = W1 := ⟨_, rfl⟩
  have hL1 : W1.heap[w.heap.size + 1]? = some (.loop (rec .ready none)) := by
    rw [← hW1]; have := World.alloc_heap_new (w.alloc (.deferred (some []))) (.loop (rec .ready none)); rwa [World.size_alloc] at this
  have hK1 : W1.heap[w.heap.size]? = some (.deferred (some [])) := by
    rw [← hW1]; exact (Below.heap_alloc _ _ _ (by simp)).trans (World.alloc_heap_new w _)
  have hI1 : I [] W1 := by rw [← hW1]; exact hI.alloc _ (hI.alloc _ h0)
  have hb1 : Below w0.heap.size w0 W1 := by
    rw [← hW1]; exact hb0.trans ((((Below.refl _ w).alloc (Nat.le_refl _) _).alloc (by simp) _).mono hb0.size)
  refine ⟨w.heap.size + 1, [{ target := .collected w.heap.size, args := #[] }], W1, { target := .fn (.func gf) lb, args := #[.func (.yield (w.heap.size + 1)) #[] #[]] }, W1, gf,
    #[.func (.yield (w.heap.size + 1)) #[] #[]] ++ lb, W1, ?_, ?_, ?_, ?_, fun _ => h1, ?_⟩
  · rw [← hW1, hrec]; exact run_enterLoop_outer _ _ _ _ _
  · simp only [resolve, hg]
    simp [go_sem]
  · intro f' hf'; simp [Target.leads] at hf'; subst hf'; exact hFg
  · simp [invoke, go_sem, eg]
  · -- THE ITERATOR's CONTRACT, AT THE CALLER's INVARIANT WITH THE TWO FACTS OF BOOK-KEEPING BESIDE IT
    have hkeep : ∀ {A B : World} {row : Option Nat} {k : Nat} {o : Obj}, A.grownBy B row → (∀ r, row = some r → r = Bs ∧ (∃ c, A.heap[r]? = some (.cells c T (0, 0))) ∧ ∃ c, B.heap[r]? = some (.cells c T (0, 0))) → w.heap.size ≤ k → A.heap[k]? = some o → B.heap[k]? = some o := by
      intro A B row k o hg' hr hk ho
      exact (hg'.block k (Array.getElem?_eq_some_iff.1 ho).1 (fun e => by have := (hr k e.symm).1; omega)).trans ho
    refine (hseq (w.heap.size + 1)
      (fun pre W => I pre W ∧ W.heap[w.heap.size + 1]? = some (.loop (rec .ready none)) ∧ W.heap[w.heap.size]? = some (.deferred (some [])))
      (fun pre W => ∃ c, Ix c pre W ∧ W.heap[w.heap.size + 1]? = some (.loop (rec .done (some c))) ∧ W.heap[w.heap.size]? = some (.deferred (some [])))
      W1 hb1
      (fun s A B row hs hg' hr => ⟨hIb s A B row hs.1 hg' hr, hkeep hg' hr (by omega) hs.2.1, hkeep hg' hr (Nat.le_refl _) hs.2.2⟩)
      (fun s A B row hs hg' hr => by
        obtain ⟨c, hc, hl, hk⟩ := hs
        exact ⟨c, hIxb c s A B row hc hg' hr, hkeep hg' hr (by omega) hl, hkeep hg' hr (Nat.le_refl _) hk⟩)
      ?_ ⟨hI1, hL1, hK1⟩).mono ?_
    · -- ONE ROUND
      rintro pre x W ⟨hi, hl, hk⟩ hlen
      have hlt : w.heap.size + 1 < W.heap.size := (Array.getElem?_eq_some_iff.1 hl).1
      have hy := run_yield (P := P) (args := encs x) hl (by rw [hrec]; exact hps x)
      rw [hrec] at hy
      refine ⟨fn, _, assign, body, hy, roundIn_of_wpIn hfn (hassign _ x W _ ⟨_, run_beginRound hl (by rw [hrec]), ?_⟩)⟩
      have hl2 : (W.putObj (w.heap.size + 1) (.loop { rec .ready none with state := .busy })).heap[w.heap.size + 1]? = some (.loop { rec .ready none with state := .busy }) := World.putObj_heap_same hlt
      have hk2 : (W.putObj (w.heap.size + 1) (.loop { rec .ready none with state := .busy })).heap[w.heap.size]? = some (.deferred (some [])) := (World.putObj_heap_other (by omega)).trans hk
      have hw2 : Kp W (W.putObj (w.heap.size + 1) (.loop { rec .ready none with state := .busy })) := hKb _ _ _ _ (by omega) hl rfl rfl
      refine wpIn_mono (hbody _ pre x _ (hI.putObj _ hi (by omega) hl rfl) hlen) ?_
      have fin : ∀ (jump : Option Code) (W3 : World), KeepsFrom w.heap.size (W.putObj (w.heap.size + 1) (.loop { rec .ready none with state := .busy })) W3 →
          (Instr.endRound (w.heap.size + 1) jump).run P W3 = .ok (.bool jump.isNone) (W3.putObj (w.heap.size + 1) (.loop (rec (if jump.isNone then .ready else .done) jump))) ∧
          W3.heap[w.heap.size + 1]? = some (.loop { rec .ready none with state := .busy }) ∧
          (W3.putObj (w.heap.size + 1) (.loop (rec (if jump.isNone then .ready else .done) jump))).heap[w.heap.size + 1]? = some (.loop (rec (if jump.isNone then .ready else .done) jump)) ∧
          (W3.putObj (w.heap.size + 1) (.loop (rec (if jump.isNone then .ready else .done) jump))).heap[w.heap.size]? = some (.deferred (some [])) := fun jump W3 hk3 => by
        have hl3 := hk3.same _ _ (by omega) hl2 rfl
        have := run_endRound (P := P) jump hl3
        rw [hrec] at this ⊢
        exact ⟨this, by rw [hrec] at hl3; exact hl3, World.putObj_heap_same (Array.getElem?_eq_some_iff.1 hl3).1, (World.putObj_heap_other (by omega)).trans (hk3.same _ _ (Nat.le_refl _) hk2 rfl)⟩
      rintro e a3 W3 hp
      cases e with
      | normal =>
        obtain ⟨hk3, hkp3, hi3⟩ := hp
        obtain ⟨hr, hl3, hl4, hk4⟩ := fin none W3 hk3
        exact ⟨_, _, hr, .inl ⟨rfl, ⟨hI.putObj _ hi3 (by omega) hl3 rfl, hl4, hk4⟩, hKt (hKt hw2 hkp3) (hKb _ _ _ _ (by omega) hl3 rfl rfl)⟩⟩
      | ret =>
        obtain ⟨hk3, hi3⟩ := hp
        obtain ⟨hr, hl3, hl4, hk4⟩ := fin (some .ret) W3 hk3
        exact ⟨_, _, hr, .inr ⟨rfl, .ret, (hIx _).putObj _ hi3 (by omega) hl3 rfl, hl4, hk4⟩⟩
      | exit id =>
        obtain ⟨hk3, hi3⟩ := hp
        obtain ⟨hr, hl3, hl4, hk4⟩ := fin (some (.exit id)) W3 hk3
        exact ⟨_, _, hr, .inr ⟨rfl, .exit id, (hIx _).putObj _ hi3 (by omega) hl3 rfl, hl4, hk4⟩⟩
      | goto t =>
        obtain ⟨hk3, hi3⟩ := hp
        obtain ⟨hr, hl3, hl4, hk4⟩ := fin (some (.goto t)) W3 hk3
        exact ⟨_, _, hr, .inr ⟨rfl, .goto t, (hIx _).putObj _ hi3 (by omega) hl3 rfl, hl4, hk4⟩⟩
      | panic ch => exact hp.elim
      | outgrown => exact hp.elim
    · -- BEHIND THE ITERATOR
      rintro e W2 ⟨⟨v, rfl⟩, (⟨xs, hS, hi, hl, hk⟩ | ⟨pre, hSp, c, hi, hl, hk⟩)⟩
      · exact ⟨none, _, by have := run_endLoop (P := P) hl (by rw [hrec]; simp); rw [hrec] at this; exact this, hdone _ xs _ (Nat.le_refl _) hS (hI.putObj _ hi (by omega) hl rfl) ((World.putObj_heap_other (by omega)).trans hk)⟩
      · exact ⟨some c, _, by have := run_endLoop (P := P) hl (by rw [hrec]; simp); rw [hrec] at this; exact this, hstop _ c pre _ (Nat.le_refl _) hSp ((hIx c).putObj _ hi (by omega) hl rfl) ((World.putObj_heap_other (by omega)).trans hk)⟩

end
section
variable {P : Program} {ops : Array Oper} {Q : Exit → Act → World → Prop} {md : Region.Mode} {n l0 : Nat}

/-- no defer statement among the operations -/
def noDefer (ops : Array Oper) : Bool := ops.all fun o => match o.op with
  | .defer _ => false
  | _ => true
theorem noDefer_at {ops : Array Oper} (h : noDefer ops = true) {i : Nat} {o : Oper} (ho : ops[i]? = some o) : ∀ c, o.op ≠ .defer c := by
  intro c hc
  obtain ⟨hi, rfl⟩ := Array.getElem?_eq_some_iff.1 ho
  have := (Array.all_eq_true.1 h) i hi
  rw [hc] at this; cases this

theorem wpOpIn_of_plain (hd : noDefer ops = true) (hQ : ¬ LetsOut Q) {i : Nat} {K : Act → World → Prop} {K' : Act → World → Prop} {a : Act} {w : World} (hK : ∀ a w, K a w → K' a w) (h : wpOp P ops Q i K a w) : wpOpIn (Fence.wide.inRound l0) n P ops Q i K' a w := by
  unfold wpOp at h
  unfold wpOpIn
  cases ho : ops[i]? with
  | none => simp only [ho] at h ⊢; exact hK _ _ h
  | some o =>
    simp only [ho] at h ⊢
    split at h
    · rename_i hw
      rw [if_pos hw]
      rcases h with h | ⟨_, h⟩
      · refine ⟨fun _ _ => trivial, ?_⟩
        rw [Fence.inRound_round, Oper.semAt_some l0 _ _ (noDefer_at hd ho)]
        unfold Oper.wp at h
        generalize (execOp a.eval o).run P w = r at *
        cases r with
        | ok x w' =>
          cases x <;> simp only [Oper.upon, Oper.uponIn] at h ⊢
          case value v => exact hK _ _ h
          case skip => exact hK _ _ h
          case defer d => exact hK _ _ h
          case enter f args =>
            refine ⟨fun hh => by simp [Fence.inRound, Fence.wide] at hh, CallsIn.inRound l0 (callsIn_wide.2 (Calls.mono h (fun e w'' he => ?_)))⟩
            cases e with
            | returned v => exact hK _ _ he
            | panicked c => exact he
            | outgrown => exact he
          case row row args =>
            refine ⟨fun hh => by simp [Fence.inRound, Fence.wide] at hh, fun c cs _ => ?_⟩
            obtain ⟨v, w'', hr, hs⟩ := h c cs
            exact ⟨v, w'', hK _ _ hr, (stepsIn_wide (P := P)).2 hs⟩
        | halt x w' => cases x <;> simp only [Oper.upon, Oper.uponIn] at h ⊢ <;> exact h
      · exact absurd h hQ
    · rename_i hw
      rw [if_neg hw]
      exact ⟨fun _ _ => trivial, hK _ _ h⟩

theorem wpAnyIn_of_plain (hd : noDefer ops = true) (hQ : ¬ LetsOut Q) : ∀ (fuel : Nat) (listed : Array Bool) (a : Act) (w : World), wpAny P md ops Q fuel listed a w → wpAnyIn (Fence.wide.inRound l0) n P md ops Q fuel listed a w
  | 0, _, _, _, h => h
  | fuel + 1, listed, a, w, h => ⟨h.1, fun i hi => wpOpIn_of_plain hd hQ (fun a' w' h' => wpAnyIn_of_plain hd hQ fuel _ a' w' h') (h.2 i hi)⟩

/-- a region that draws, in a round: quiet operations first, then a tail in one order -/
theorem wpIn_round_still_tail {id : Nat} {a : Act} {w : World} {l : List Oper} (k : Nat) (hm : P.follows .mixedOrders = true) (hB : Region.lexTailB .any l.toArray k = true) (hd : noDefer l.toArray = true) (hQ : ¬ LetsOut Q)
    (h : wpStill P l.toArray { w with drawn := w.drawn + 1 } (fun a' => wpList P l.toArray Q (l.drop k) a' { w with drawn := w.drawn + 1 }) (l.take k) a) : (Code.region id l.toArray true).wpIn (Fence.wide.inRound l0) n P Q a w := by
  simp only [Region.lexTailB, Bool.and_eq_true, decide_eq_true_eq] at hB
  obtain ⟨⟨⟨⟨hsel, hn⟩, hs⟩, hc⟩, hlex⟩ := hB
  have hn' : k < l.length := by simpa using hn
  have htl : (l.take k).length = k := by simp; omega
  have hdl : (l.drop k).length = l.toArray.size - k := by simp
  have inv0 : HeadInv .any l.toArray k (Array.replicate l.toArray.size false) :=
    ⟨by simp, fun j oj _ hl => (by rw [getD_replicate_false] at hl; cases hl), fun t _ ht => getD_in (by simpa using ht) (getD_replicate_false _ _)⟩
  have H := wpAnyL_lex (md := .any) (g := l.toArray.size - k) hsel hs hc hn (l.take k) 0 _ a (fun j hj => by
    have hj' : j < k := by rw [htl] at hj; exact hj
    simp [hj']) (by simpa using htl) inv0 (by rw [htl]; exact hlex) h
  refine wpIn_region_any hm (wpAnyIn_of_plain hd hQ _ _ _ _ ?_)
  have := wpAny_of_head (Q' := Q) (g := l.toArray.size - k) (fun listed a' hL => by
    have := wpAny_of_seq (md := .any) (Q' := Q) (l.drop k) k listed a' { w with drawn := w.drawn + 1 } (fun j => by simp [List.getElem?_drop]) (by rw [hdl]; exact hL.1) hL.2
    rwa [hdl] at this) _ _ _ H
  rw [htl, show k + (l.toArray.size - k) = l.toArray.size by omega] at this
  exact this

/-- a region that draws, in a round: S holds in every world on the way -/
theorem wpIn_round_held {id : Nat} {a : Act} {w : World} (S : World → Prop) (hm : P.follows .mixedOrders = true) (hd : noDefer ops = true) (hQ : ¬ LetsOut Q)
    (h : wpAnyH P .any ops Q S ops.size (Array.replicate ops.size false) a { w with drawn := w.drawn + 1 }) : (Code.region id ops true).wpIn (Fence.wide.inRound l0) n P Q a w :=
  wpIn_region_any hm (wpAnyIn_of_plain hd hQ _ _ _ _ (wpAny_of_held _ _ _ _ h))
end
end Go.Proofs.YtpkefohcccpncaaGreatDoor
