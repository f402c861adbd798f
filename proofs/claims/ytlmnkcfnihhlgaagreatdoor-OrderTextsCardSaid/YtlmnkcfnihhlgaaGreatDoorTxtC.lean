/- The reference's reader of values' texts. The reference's Parse: as the program's. -/
import Derived.Test.YtlmnkcfnihhlgaaGreatDoorPlnC
import Derived.Test.YtlmnkcfnihhlgaaGreatDoorAppA
import Derived.Test.YtlmnkcfnihhlgaaGreatDoorCpyA
import Derived.Test.YtlmnkcfnihhlgaaGreatDoorRdrA
import Derived.Test.YtlmnkcfnihhlgaaGreatDoorRefH
import Derived.Deep.RegionLaw
import Derived.Deep.CutRange
import Derived.Deep.DeepCutAuto
import Derived.Deep.CutBlock
import Derived.Test.YtlmnkcfnihhlgaaGreatDoorTxtB
import Derived.Test.YtlmnkcfnihhlgaaGreatDoorParA
namespace Go.Proofs.YtlmnkcfnihhlgaaGreatDoor
open Go.RowKit
set_option linter.unusedSimpArgs false
set_option linter.unusedVariables false

theorem k_world {K : Act → World → Prop} {a : Act} {W : World} (P : World → Prop) (h : P W) (k : ∀ W', P W' → K a W') : K a W := k W h
def rvO (o : Option (V × Nat)) : V × Int := match o with | none => (zeroV, -1) | some (v, k) => (v, (k : Int))
abbrev rvP (d : Nat) (l : List UInt8) : V × Int := rvO (rv d l)
def ReadSays (d : Nat) : Prop := ∀ (l : ByteArray) (w : World), d ≤ 1000 → l.size ≤ 5000 → Calls Tryz.prog 61 #[.string l, .int .i64 (d : Int)] w (SortedPost w (rvP d l.data.toList).1 (rvP d l.data.toList).2)
/-- while the Kids are read -/
structure RdI (W w : World) (G : Nat) (x : Int) (sv : Value) (l : List V) (ss : List Value) : Prop where
  r : Blk W w.heap.size 28 #[.int .i64 0, .slice none 0 0]
  g : Blk W G 28 #[.int .i64 x, sv]
  row : VRow W 28 (G + 1) (G + 1) sv l ss
  gb : Bw w W
  lt : w.heap.size < G
theorem RdI.bw {W W' w : World} {G : Nat} {x : Int} {sv : Value} {l : List V} {ss : List Value} (h : RdI W w G x sv l ss) (k : Bw W W') : RdI W' w G x sv l ss :=
  ⟨h.r.below k.b h.r.lt, h.g.below k.b h.g.lt, h.row.bw k, h.gb.trans k, h.lt⟩
theorem RdI.push {W w w7 : World} {G : Nat} {x : Int} {sv v7 : Value} {l : List V} {ss : List Value} (h : RdI W w G x sv l ss) {y : V} {s : Value}
    (hs : KAt W (fun b => G + 1 ≤ b ∧ b < W.heap.size ∧ sv.ownBlock ≠ some b) s y.ks) (hown : w7.ownsRow (G + 1) 28 2 v7 (l.length + 1) (vCells l ss ++ [.int .i64 y.n, s])) (hg : W.grownBy w7 sv.ownBlock) (hv : v7.ownBlock = sv.ownBlock ∨ v7.ownBlock = some W.heap.size) :
    RdI (w7.setCell ⟨G, 1, none⟩ v7) w G x v7 (l ++ [y]) (ss ++ [s]) := by
  have hr : ∀ r, sv.ownBlock = some r → G + 1 ≤ r := fun r e => (h.row.own.lt r e).1
  have ne : ∀ r, r < G + 1 → some r ≠ sv.ownBlock := fun r hr' e => by have := hr r e.symm; omega
  have hrow := h.row.push hs hown hg hv
  have e1 := grownBy_setCell (p := ⟨G, 1, none⟩) (World.grownBy.refl w7 (some G)) (.inl rfl) v7
  have l2 := h.lt
  have hgw : Bw w w7 := Below.grown h.gb hg h.gb.size (fun r e => by have := hr r e; omega)
  refine ⟨(h.r.grown hg (ne _ (by omega))).far (by dsimp only; omega) _, (h.g.grown hg (ne _ (by omega))).set_ 1 v7, hrow.keep e1 (fun r e => by
    injection e with e; subst e
    exact ⟨fun e => by have := (hown.lt _ e).1; omega, by omega⟩), hgw.setCell (p := ⟨G, 1, none⟩) (by dsimp only; omega) _, h.lt⟩
/-- the end: a value is stored into the result's block -/
theorem rd_end {w W : World} {x : Int} {sv u0 u1 : Value} {l : List V} (hg : Bw w W) (hB : Blk W w.heap.size 28 #[u0, u1]) (hk : KAt W (fun y => w.heap.size + 1 ≤ y ∧ y < W.heap.size) sv l) :
    KAt ((W.setCell ⟨w.heap.size, 0, none⟩ (.int .i64 x)).setCell ⟨w.heap.size, 1, none⟩ sv) (fun y => w.heap.size ≤ y ∧ y < ((W.setCell ⟨w.heap.size, 0, none⟩ (.int .i64 x)).setCell ⟨w.heap.size, 1, none⟩ sv).heap.size) sv l ∧
    Bw w ((W.setCell ⟨w.heap.size, 0, none⟩ (.int .i64 x)).setCell ⟨w.heap.size, 1, none⟩ sv) ∧
    Blk ((W.setCell ⟨w.heap.size, 0, none⟩ (.int .i64 x)).setCell ⟨w.heap.size, 1, none⟩ sv) w.heap.size 28 #[.int .i64 x, sv] := by
  refine ⟨hk.keep (fun y hy => ⟨by have := hy.1; omega, by have := hy.2; simp [World.setCell]; exact this⟩) (fun p hp => ?_), ?_, ?_⟩
  · have hp1 := hp.1
    rw [World.cell?_setCell_other _ _ _ _ (by intro e; subst e; simp at hp1; omega), World.cell?_setCell_other _ _ _ _ (by intro e; subst e; simp at hp1; omega)]
  · exact (hg.setCell (p := ⟨w.heap.size, 0, none⟩) (Nat.le_refl _) _).setCell (p := ⟨w.heap.size, 1, none⟩) (Nat.le_refl _) _
  · exact blk_set (i := 1) sv (blk_set (i := 0) (.int .i64 x) hB)
def rkS (g : List UInt8 → Option (V × Nat)) (l : List UInt8) (q : Nat) (acc : List V) (a : Nat) : Option (V × Nat) → Option (List V × Nat)
  | none => none
  | some (v, k) => if l.length ≤ a + 1 + k then none else if l[a + 1 + k]? = some 32 ∨ l[a + 1 + k]? = some 41 then rk g l q (acc ++ [v]) (a + 1 + k) else none
theorem rk_succ (g : List UInt8 → Option (V × Nat)) (l : List UInt8) (q : Nat) (acc : List V) (a : Nat) (h : ¬ l[a]? = some 41) : rk g l (q + 1) acc a = rkS g l q acc a (g (l.drop (a + 1))) := by
  rw [rk, if_neg h]
  rcases g (l.drop (a + 1)) with _ | ⟨_, _⟩ <;> rfl
def finV (num : Int) (o : Option (List V × Nat)) : Option (V × Nat) := o.map fun p => (.mk num p.1, p.2)
theorem foldU_take {l : List UInt8} {k : Nat} (h : k < l.length) : foldU 0 (l.take (k + 1)) = (10 * foldU 0 (l.take k) + (l[k].toNat - 48)) % 18446744073709551616 := by
  unfold foldU
  rw [List.take_succ_eq_append_getElem h, List.foldl_append]; rfl
theorem foldU_lt : ∀ (l : List UInt8), foldU 0 l < 18446744073709551616 := by
  have : ∀ (l : List UInt8) (b : Nat), b < 18446744073709551616 → foldU b l < 18446744073709551616 := by
    intro l
    induction l with
    | nil => intro b h; exact h
    | cons c r ih => intro b h; exact ih _ (Nat.mod_lt _ (by omega))
  exact fun l => this l 0 (by omega)
theorem refRun_spec (l : List UInt8) : refFrom l + refRun l ≤ l.length ∧ refRun l ≤ 20 ∧ (∀ k, k < refRun l → ∃ h : refFrom l + k < l.length, 48 ≤ l[refFrom l + k].toNat ∧ l[refFrom l + k].toNat ≤ 57) ∧
    (refRun l < 20 → ∀ h : refFrom l + refRun l < l.length, ¬ (48 ≤ l[refFrom l + refRun l].toNat ∧ l[refFrom l + refRun l].toNat ≤ 57)) := by
  have hp : refFrom l ≤ l.length := by
    unfold refFrom
    split
    · rename_i h
      cases l
      · simp at h
      · simp
    · omega
  have hr := runL_le digitB (l.drop (refFrom l))
  rw [List.length_drop] at hr
  have key : ∀ (m : List UInt8) (k : Nat), k < runL digitB m → ∃ h : k < m.length, digitB m[k] = true := by
    intro m
    induction m with
    | nil => intro k hk; simp [runL] at hk
    | cons a m ih =>
      intro k hk
      unfold runL at hk
      rw [List.takeWhile_cons] at hk
      by_cases ha : digitB a = true
      · rw [if_pos ha] at hk
        cases k with
        | zero => exact ⟨by simp, ha⟩
        | succ k =>
          obtain ⟨h1, h2⟩ := ih k (by simpa [runL] using hk)
          exact ⟨by simpa using h1, by simpa using h2⟩
      · rw [if_neg ha] at hk; simp at hk
  have stop : ∀ (m : List UInt8) (h : runL digitB m < m.length), digitB m[runL digitB m] = false := by
    intro m
    induction m with
    | nil => intro h; simp at h
    | cons a m ih =>
      intro h
      by_cases ha : digitB a = true
      · have e : runL digitB (a :: m) = runL digitB m + 1 := by unfold runL; rw [List.takeWhile_cons, if_pos ha]; rfl
        have := ih (by rw [e] at h; simpa using h)
        simp only [e, List.getElem_cons_succ]; exact this
      · have e : runL digitB (a :: m) = 0 := by unfold runL; rw [List.takeWhile_cons, if_neg ha]; rfl
        simp only [e, List.getElem_cons_zero]; simpa using ha
  unfold refRun
  refine ⟨by omega, by omega, fun k hk => ?_, fun h20 h hd => ?_⟩
  · obtain ⟨h1, h2⟩ := key (l.drop (refFrom l)) k (by omega)
    rw [List.length_drop] at h1
    rw [List.getElem_drop] at h2
    simp only [digitB, Bool.and_eq_true, decide_eq_true_eq] at h2
    exact ⟨by omega, h2⟩
  · have e : min (runL digitB (l.drop (refFrom l))) 20 = runL digitB (l.drop (refFrom l)) := by omega
    have h2 := stop (l.drop (refFrom l)) (by rw [List.length_drop]; omega)
    rw [List.getElem_drop] at h2
    simp only [e] at hd
    simp [digitB] at h2
    have := h2 hd.1
    omega
theorem rk_le {g : List UInt8 → Option (V × Nat)} {l : List UInt8} : ∀ {f : Nat} {acc : List V} {a : Nat} {p : List V × Nat}, rk g l f acc a = some p → p.2 ≤ l.length := by
  intro f
  induction f with
  | zero => intro acc a p h; simp [rk] at h
  | succ f ih =>
    intro acc a p h
    rw [rk] at h
    split at h
    · rename_i h0
      obtain rfl := Option.some.inj h
      exact some_lt h0
    · split at h
      · cases h
      · split at h
        · cases h
        · split at h
          · exact ih h
          · cases h
theorem rv_le {d : Nat} {l : List UInt8} {p : V × Nat} (h : rv d l = some p) : p.2 ≤ l.length := by
  have h0 := (refRun_spec l).1
  rw [rv.eq_def] at h
  simp only at h
  split at h
  · cases h
  · split at h
    · cases d with
      | zero => cases h
      | succ d =>
        simp only [Option.map_eq_some_iff] at h
        obtain ⟨q, hq, rfl⟩ := h
        exact rk_le hq
    · obtain rfl := Option.some.inj h
      exact h0
set_option maxRecDepth 100000 in
set_option maxHeartbeats 8000000 in
theorem read_step (d : Nat) (ih : ∀ d', d = d' + 1 → ReadSays d') : ReadSays d := by
  intro l w hd9 hl
  obtain ⟨e1, e2, e3, e4⟩ := refRun_spec l.data.toList
  rw [size_data] at e1
  have hp1 : refFrom l.data.toList ≤ 1 := by unfold refFrom; split <;> omega
  have HSP := Lib.hid (And.intro e3 e4)
  have HIH := Lib.hid ih
  have HRV : Hid (rv d l.data.toList = if refRun l.data.toList = 0 then none else
    if l.data.toList[refFrom l.data.toList + refRun l.data.toList]? = some 40 then
      match d with
      | 0 => none
      | d + 1 => (rk (rv d) l.data.toList (l.data.toList.length + 1) [] (refFrom l.data.toList + refRun l.data.toList)).map fun p => (.mk (refNum l.data.toList) p.1, p.2)
    else some (.mk (refNum l.data.toList) [], refFrom l.data.toList + refRun l.data.toList)) := Lib.hid (by cases d <;> rw [rv])
  obtain ⟨ng, hng⟩ : ∃ ng : Bool, ng = decide (l.data.toList.head? = some 45) := ⟨_, rfl⟩
  have HP0 : Hid (refFrom l.data.toList = if ng = true then 1 else 0) := Lib.hid (by rw [hng]; unfold refFrom; simp)
  have HNUM : Hid (refNum l.data.toList = (let u := foldU 0 ((l.data.toList.drop (refFrom l.data.toList)).take (refRun l.data.toList)); let x := if ng = true then (18446744073709551616 - u) % 18446744073709551616 else u; if x < 9223372036854775808 then (x : Int) else (x : Int) - 18446744073709551616)) := Lib.hid (by rw [hng]; unfold refNum; simp)
  have HNG := Lib.hid hng
  show Calls _ _ _ _ (SortedPost w (rvO (rv d l.data.toList)).1 (rvO (rv d l.data.toList)).2)
  generalize rv d l.data.toList = res at *
  generalize refNum l.data.toList = num at *
  generalize refFrom l.data.toList = p0 at *
  generalize refRun l.data.toList = R at *
  clear ih hng e3 e4
  generalize hpost : SortedPost w (rvO res).1 (rvO res).2 = POST
  go_enter Tryz.func61, Tryz.ntmps61
  go_upto_region 2 with fail
  go_cut [7] (fun s7 wx => s7 = .bool ng ∧ wx = w.alloc (.cells #[.int .i64 0, .slice none 0 0] 28))
  case first =>
    by_cases h0 : 0 < l.size
    · by_cases h1 : l[0] = 45
      · have h2 : ((l[0].toNat : Int) == 45) = true := by rw [h1]; rfl
        have HN : Hid (ng = true) := Lib.hid (by rw [HNG.out, List.head?_eq_getElem?, byte_at h0, h1]; rfl)
        go_wp2_with fail
        go_meet
        exact ⟨by rw [HN.out], rfl⟩
      · have h2 : ((l[0].toNat : Int) == 45) = false := by
          simp only [beq_eq_false_iff_ne, ne_eq]
          intro e
          exact h1 (UInt8.toNat_inj.1 (show l[0].toNat = 45 by omega))
        have HN : Hid (ng = false) := Lib.hid (by rw [HNG.out, List.head?_eq_getElem?, byte_at h0]; simp [h1])
        go_wp2_with fail
        go_meet
        exact ⟨by rw [HN.out], rfl⟩
    · have HN : Hid (ng = false) := Lib.hid (by rw [HNG.out, List.head?_eq_getElem?, List.getElem?_eq_none (by rw [size_data]; omega)]; rfl)
      go_wp2_with fail
      go_meet
      exact ⟨by rw [HN.out], rfl⟩
  case rest =>
    obtain ⟨rfl, rfl⟩ := hcut
    go_upto_if 23 with fail
    go_cut [6] (fun s6 wx => s6 = .int .i64 (p0 : Int) ∧ wx = w.alloc (.cells #[.int .i64 0, .slice none 0 0] 28))
    case first =>
      rcases ng with _ | _
      · have HZ : Hid (p0 = 0) := Lib.hid (by have := HP0.out; simpa using this)
        go_wp2_with fail
        go_meet
        exact ⟨by rw [HZ.out]; rfl, rfl⟩
      · have HZ : Hid (p0 = 1) := Lib.hid (by have := HP0.out; simpa using this)
        go_wp2_with fail
        go_meet
        exact ⟨by rw [HZ.out]; rfl, rfl⟩
    case rest =>
    obtain ⟨rfl, rfl⟩ := hcut
    go_upto_block 0 with fail
    go_cut [6, 8] from 27 to 58 (fun s6 s8 wx => s6 = .int .i64 ((p0 : Int) + (R : Int)) ∧ s8 = .int .u64 (foldU 0 ((l.data.toList.drop p0).take R) : Nat) ∧ wx = w.alloc (.cells #[.int .i64 0, .slice none 0 0] 28))
    case first =>
      go_wp2_with fail
      go_loopw [6, 8] (fun s6 s8 wr => ∃ k : Nat, k ≤ R ∧ s6 = .int .i64 ((p0 + k : Nat) : Int) ∧ s8 = .int .u64 (foldU 0 ((l.data.toList.drop p0).take k) : Nat) ∧ wr = w.alloc (.cells #[.int .i64 0, .slice none 0 0] 28)) (fun s6 _ _ => l.size - (intOf s6).toNat)
      case atStart => exact ⟨0, Nat.zero_le _, rfl, rfl, rfl⟩
      case round =>
        obtain ⟨k, hk, rfl, rfl, rfl⟩ := hrel
        have HU : Hid (∀ (h : k < (l.data.toList.drop p0).length), foldU 0 ((l.data.toList.drop p0).take (k + 1)) = (10 * foldU 0 ((l.data.toList.drop p0).take k) + ((l.data.toList.drop p0)[k].toNat - 48)) % 18446744073709551616) := Lib.hid (fun h => foldU_take h)
        have HUL := Lib.hid (foldU_lt ((l.data.toList.drop p0).take k))
        generalize hU : foldU 0 ((l.data.toList.drop p0).take k) = U at *
        obtain ⟨p, hp⟩ : ∃ p, p = p0 + k := ⟨_, rfl⟩
        rw [← hp]
        by_cases hkR : k < R
        · obtain ⟨h1, h2, h3⟩ := HSP.out.1 k hkR
          rw [size_data] at h1
          have hlt : p < l.size := by omega
          have hx : l.data.toList[p0 + k]'(by rw [size_data]; omega) = l[p] := by subst hp; rfl
          rw [hx] at h2 h3
          have HX2 := Lib.hid (HU.out (by rw [List.length_drop, size_data]; omega))
          have hx2 : (l.data.toList.drop p0)[k]'(by rw [List.length_drop, size_data]; omega) = l[p] := by rw [List.getElem_drop, hx]
          rw [hx2] at HX2
          have b1 : (48 : Int) ≤ (l[p].toNat : Int) := by omega
          have b2 : (l[p].toNat : Int) ≤ 57 := by omega
          have b3 : (p : Int) - (p0 : Int) < 20 := by omega
          have w8 : IntKind.u8.wrap ((l[p].toNat : Int) - 48) = (l[p].toNat : Int) - 48 := by simp [IntKind.wrap, IntKind.bits, IntKind.signed]; omega
          have hU' := Lib.hid hU
          have HP := Lib.hid hp
          have hpk : k + 1 ≤ R := hkR
          clear hx hx2 HU hU h1 hp h2 h3
          go_wp2
          go_roundw
          case rel =>
            refine ⟨k + 1, hpk, by rw [HP.out]; go_num, ?_, trivial⟩
            rw [HX2.out]
            congr 1
            simp [IntKind.wrap, IntKind.bits, IntKind.signed]; omega
          case measure => simp [intOf]; omega
        · obtain rfl : k = R := by omega
          have hend := HSP.out.2
          by_cases hlt : p < l.size
          · have hx : ∀ h, l.data.toList[p0 + k]'h = l[p] := by subst hp; intro h; rfl
            by_cases d1 : 48 ≤ l[p].toNat
            · by_cases d2 : l[p].toNat ≤ 57
              · have h20 : ¬ ((p : Int) - (p0 : Int) < 20) := by
                  intro h
                  refine hend (by omega) (by rw [size_data]; omega) ?_
                  rw [hx]; exact ⟨d1, d2⟩
                have b1 : (48 : Int) ≤ (l[p].toNat : Int) := by omega
                have b2 : (l[p].toNat : Int) ≤ 57 := by omega
                clear hx hend d1 d2
                have hU' := Lib.hid hU
                have HP := Lib.hid hp
                clear HU hU hp hkR hk
                go_wp2_with fail
                go_meet
                exact ⟨by rw [HP.out]; push_cast; rfl, by rw [← hU'.out], rfl⟩
              · have b1 : (48 : Int) ≤ (l[p].toNat : Int) := by omega
                have b2 : ¬ ((l[p].toNat : Int) ≤ 57) := by omega
                clear hx hend d1 d2
                have hU' := Lib.hid hU
                have HP := Lib.hid hp
                clear HU hU hp hkR hk
                go_wp2_with fail
                go_meet
                exact ⟨by rw [HP.out]; push_cast; rfl, by rw [← hU'.out], rfl⟩
            · have b1 : ¬ ((48 : Int) ≤ (l[p].toNat : Int)) := by omega
              clear hx hend d1
              have hU' := Lib.hid hU
              have HP := Lib.hid hp
              clear HU hU hp hkR hk
              go_wp2_with fail
              go_meet
              exact ⟨by rw [HP.out]; push_cast; rfl, by rw [← hU'.out], rfl⟩
          · have hlt2 : ¬ ((p : Int) < (l.size : Int)) := by omega
            clear hend
            have hU' := Lib.hid hU
            have HP := Lib.hid hp
            clear HU hU hp hkR hk
            go_wp2_with fail
            go_meet
            exact ⟨by rw [HP.out]; push_cast; rfl, by rw [← hU'.out], rfl⟩
    case rest =>
    obtain ⟨rfl, rfl, rfl⟩ := hcut
    have HUL := Lib.hid (foldU_lt ((l.data.toList.drop p0).take R))
    generalize foldU 0 ((l.data.toList.drop p0).take R) = U at *
    obtain ⟨E, hE⟩ : ∃ E, E = p0 + R := ⟨_, rfl⟩
    rw [← hE] at HRV
    rw [show (p0 : Int) + (R : Int) = (E : Int) by omega]
    have HE := Lib.hid hE
    clear HSP HNG
    by_cases hR : R = 0
    · have HRES : Hid (res = none) := Lib.hid (by rw [HRV.out, if_pos hR])
      have hq : ((E : Int) == (p0 : Int)) = true := by simp; omega
      have HB := Lib.hid (Blk.new w 28 #[.int .i64 0, .slice none 0 0])
      clear hE
      go_wp2
      refine bodyPost_ret (results_row_tmp (p := 4) (q := 5) (ty := 28) rfl _ _ w.heap.size _ _ rfl (run_loadVar_row _ _ 28 28 _ (0, 0) _ HB.out Tryz.underlying28 rfl (by kernel_rfl)) rfl) rfl ?_
      subst hpost
      rw [HRES.out]
      exact ⟨_, rfl, KAt.nil 0 none (Nat.zero_le _), (Bw.refl w).alloc _⟩
    have HRES : Hid (res = if l.data.toList[E]? = some 40 then
      match d with
      | 0 => none
      | d + 1 => (rk (rv d) l.data.toList (l.data.toList.length + 1) [] E).map fun p => (.mk num p.1, p.2)
    else some (.mk num [], E)) := Lib.hid (by rw [HRV.out, if_neg hR])
    have hq : ((E : Int) == (p0 : Int)) = false := by simp; omega
    have hEl : E ≤ l.size := by omega
    clear HRV hE
    go_upto_if 66 with fail
    go_cut [] (fun wx => wx = (w.alloc (.cells #[.int .i64 0, .slice none 0 0] 28)).alloc (.cells #[.int .i64 num, .slice none 0 0] 28))
    case first =>
      rcases ng with _ | _
      · have HN : Hid (wrap64 (U : Int) = num) := Lib.hid (by
          unfold wrap64
          have h1 := HUL.out
          rw [HNUM.out]
          simp only [Bool.false_eq_true, if_false]
          split <;> omega)
        go_wp2_with fail
        go_meet
        rw [HN.out]
      · have HN : Hid (wrap64 (IntKind.u64.wrap (-(U : Int))) = num) := Lib.hid (by
          unfold wrap64
          have h1 := HUL.out
          rw [HNUM.out]
          simp only [if_true]
          simp [IntKind.wrap, IntKind.bits, IntKind.signed]
          split <;> omega)
        go_wp2_with fail
        go_meet
        rw [HN.out]
    case rest =>
    obtain rfl := hcut
    have HB1 := Lib.hid ((Blk.new w 28 #[.int .i64 0, .slice none 0 0]).alloc (.cells #[.int .i64 num, .slice none 0 0] 28))
    have H1 : Hid (RdI ((w.alloc (.cells #[.int .i64 0, .slice none 0 0] 28)).alloc (.cells #[.int .i64 num, .slice none 0 0] 28)) w (w.heap.size + 1) num (.slice none 0 0) [] []) := Lib.hid ⟨HB1.out, by
      have := Blk.new (w.alloc (.cells #[.int .i64 0, .slice none 0 0] 28)) 28 #[.int .i64 num, .slice none 0 0]
      simpa using this, VRow.nil _ _ _ _, ((Bw.refl w).alloc _).alloc _, Nat.lt_succ_self _⟩
    refine k_world (fun W => Hid (RdI W w (w.heap.size + 1) num (.slice none 0 0) [] [])) H1 ?_
    intro W1 HW1
    clear H1 HB1 HUL HNUM HP0 hq hp1 e1 e2
    obtain ⟨G, hG⟩ : ∃ G, G = w.heap.size + 1 := ⟨_, rfl⟩
    rw [← hG] at HW1 ⊢
    have hwG : w.heap.size < G := by omega
    have HGG := Lib.hid hG
    clear hG
    have r0 := HW1.out.r.cell 0
    have r1 := HW1.out.r.cell 1
    have r2 := HW1.out.r.frozen 0
    have r3 := HW1.out.r.frozen 1
    have r4 := HW1.out.r.lt
    have g0 := HW1.out.g.cell 0
    have g1 := HW1.out.g.cell 1
    have g2 := HW1.out.g.lt
    have HEND := fun (x : Int) => Lib.hid (rd_end (x := x) (sv := .slice none 0 0) (l := []) HW1.out.gb HW1.out.r (KAt.nil 0 none (Nat.zero_le _)))
    by_cases h40 : l.data.toList[E]? = some 40
    rotate_left
    · have HRES2 : Hid (res = some (.mk num [], E)) := Lib.hid (by rw [HRES.out, if_neg h40])
      have HE2 := HEND num
      clear HRES HIH HEND
      by_cases hlt : E < l.size
      · have hne : ((l[E].toNat : Int) == 40) = false := by
          rw [byte_at hlt] at h40
          simp only [beq_eq_false_iff_ne, ne_eq]
          intro e
          exact h40 (by rw [show l[E] = 40 from UInt8.toNat_inj.1 (show l[E].toNat = 40 by omega)])
        have hq2 : ((E : Int) == (l.size : Int)) = false := by simp; omega
        clear h40
        go_wp2
        obtain ⟨k1, k2, k3⟩ := HE2.out
        refine bodyPost_ret (results_row_tmp (p := 4) (q := 5) (ty := 28) rfl _ _ w.heap.size _ _ rfl (run_loadVar_row _ _ 28 28 _ (0, 0) _ k3 Tryz.underlying28 rfl (by kernel_rfl)) rfl) rfl ?_
        subst hpost
        rw [HRES2.out]
        exact ⟨_, rfl, k1, k2⟩
      · have hq2 : ((E : Int) == (l.size : Int)) = true := by simp; omega
        clear h40
        go_wp2
        obtain ⟨k1, k2, k3⟩ := HE2.out
        refine bodyPost_ret (results_row_tmp (p := 4) (q := 5) (ty := 28) rfl _ _ w.heap.size _ _ rfl (run_loadVar_row _ _ 28 28 _ (0, 0) _ k3 Tryz.underlying28 rfl (by kernel_rfl)) rfl) rfl ?_
        subst hpost
        rw [HRES2.out]
        exact ⟨_, rfl, k1, k2⟩
    obtain ⟨hlt, h40'⟩ : ∃ h : E < l.size, l[E] = 40 := by
      have hlt := some_lt h40
      rw [size_data] at hlt
      refine ⟨hlt, ?_⟩
      rw [byte_at hlt] at h40
      exact Option.some.inj h40
    have hne : ((l[E].toNat : Int) == 40) = true := by rw [h40']; rfl
    have hne' : ((l[E].toNat : Int) != 40) = false := by rw [bne, hne]; rfl
    have hq2 : ((E : Int) == (l.size : Int)) = false := by simp; omega
    have HE0 := HEND 0
    clear HEND
    obtain ⟨dz, hdz⟩ : ∃ dz : Int, dz = (d : Int) := ⟨_, rfl⟩
    rw [← hdz]
    cases d with
    | zero =>
      have HRES2 : Hid (res = none) := Lib.hid (by rw [HRES.out, if_pos h40])
      have hz0 : (dz == 0) = true := by rw [hdz]; rfl
      clear HRES h40 h40' hdz HIH
      go_wp2
      obtain ⟨k1, k2, k3⟩ := HE0.out
      refine bodyPost_ret (results_row_tmp (p := 4) (q := 5) (ty := 28) rfl _ _ w.heap.size _ _ rfl (run_loadVar_row _ _ 28 28 _ (0, 0) _ k3 Tryz.underlying28 rfl (by kernel_rfl)) rfl) rfl ?_
      subst hpost
      rw [HRES2.out]
      exact ⟨_, rfl, k1, k2⟩
    | succ d =>
      have hz0 : (dz == 0) = false := by rw [hdz]; simp; omega
      have hdz1 : dz - 1 = (d : Int) := by rw [hdz]; omega
      have HDZ := Lib.hid hdz1
      have hb1 : 1 ≤ dz := by rw [hdz]; omega
      have hb2 : dz ≤ 1000 := by rw [hdz]; omega
      have HRES2 : Hid (res = finV num (rk (rv d) l.data.toList (l.data.toList.length + 1) [] E)) := Lib.hid (by rw [HRES.out, if_pos h40]; rfl)
      clear HRES h40 h40' hdz hdz1
      obtain ⟨i0, hi, hzi0, hzi1, hzi2⟩ := info_parts infoVal
      go_wp2_with fail
      go_loopw [6] (fun s6 wr => ∃ (a q : Nat) (acc : List V) (ss : List Value) (sv : Value), s6 = .int .i64 (a : Int) ∧ a < l.size ∧ l.size + 1 ≤ q + a ∧ acc.length ≤ a ∧ Hid (RdI wr w G num sv acc ss ∧ res = finV num (rk (rv d) l.data.toList q acc a))) (fun s6 _ => l.size - (intOf s6).toNat)
      case atStart => exact ⟨E, l.data.toList.length + 1, [], [], _, rfl, hlt, by rw [size_data]; omega, by simp, Lib.hid ⟨HW1.out, HRES2.out⟩⟩
      case round =>
        obtain ⟨a, q, acc, ss, sv, rfl, ha, hq3, hal, HR⟩ := hrel
        cases q with
        | zero => omega
        | succ q =>
        obtain ⟨hI, hrk⟩ := HR.out
        obtain ⟨VA, vc, rfl, vb1, vb2⟩ := hI.row.form
        have HI := Lib.hid hI
        clear r0 r1 r2 r3 r4 g0 g1 g2 HE0 HR
        have r0 := hI.r.cell 0
        have r1 := hI.r.cell 1
        have r2 := hI.r.frozen 0
        have r3 := hI.r.frozen 1
        have r4 := hI.r.lt
        have g0 := hI.g.cell 0
        have g1 := hI.g.cell 1
        have g2 := hI.g.lt
        have dlt : decide ((a : Int) < (l.size : Int)) = true := decide_eq_true (by omega)
        by_cases h41 : l[a] = 41
        · have hne2 : ((l[a].toNat : Int) == 41) = true := by rw [h41]; rfl
          have HRS : Hid (res = some (.mk num acc, a + 1)) := Lib.hid (by rw [hrk, rk, if_pos (by rw [byte_at ha, h41])]; rfl)
          have HE := Lib.hid (rd_end (x := num) hI.gb hI.r ((hI.row.kat (Nat.le_refl _)).keep (S' := fun y => w.heap.size + 1 ≤ y ∧ y < wr.heap.size) (fun y hy => ⟨by omega, hy.2⟩) (fun _ _ => rfl)))
          clear hI hrk h41
          go_wp2
          obtain ⟨k1, k2, k3⟩ := HE.out
          refine bodyPost_ret (results_row_tmp (p := 4) (q := 5) (ty := 28) rfl _ _ w.heap.size _ _ rfl (run_loadVar_row _ _ 28 28 _ (0, 0) _ k3 Tryz.underlying28 rfl (by kernel_rfl)) rfl) rfl ?_
          subst hpost
          rw [HRS.out]
          exact ⟨_, rfl, k1, k2⟩
        · have hne2 : ((l[a].toNat : Int) == 41) = false := by
            simp only [beq_eq_false_iff_ne, ne_eq]
            intro e
            exact h41 (UInt8.toNat_inj.1 (show l[a].toNat = 41 by omega))
          have hsz : (l.extract (a + 1) l.size).size ≤ 5000 := by simp; omega
          have hdl : (l.extract (a + 1) l.size).data.toList = l.data.toList.drop (a + 1) := by
            rw [ByteArray.data_extract]
            simp
            exact List.take_of_length_le (by simp)
          have CH : Hid (∀ W, Calls Tryz.prog 61 #[.string (l.extract (a + 1) l.size), .int .i64 (dz - 1)] W (SortedPost W (rvO (rv d (l.data.toList.drop (a + 1)))).1 (rvO (rv d (l.data.toList.drop (a + 1)))).2)) := Lib.hid (fun W => by
            have := HIH.out d rfl (l.extract (a + 1) l.size) W (by have := HDZ.out; omega) hsz
            rw [hdl, ← HDZ.out] at this
            exact this)
          have HPK : Hid (res = finV num (rkS (rv d) l.data.toList q acc a (rv d (l.data.toList.drop (a + 1))))) := Lib.hid (by rw [hrk, rk_succ _ _ _ _ _ (by rw [byte_at ha]; intro e; exact h41 (Option.some.inj e))])
          have HLE : Hid (∀ p, rv d (l.data.toList.drop (a + 1)) = some p → p.2 ≤ 5000) := Lib.hid (fun p h => by have := rv_le h; rw [List.length_drop, size_data] at this; omega)
          clear hI hrk h41 hdl hsz
          generalize rv d (l.data.toList.drop (a + 1)) = r at *
          unfold SortedPost at CH
          rcases r with _ | ⟨u, k⟩
          · have HRS : Hid (res = none) := Lib.hid HPK.out
            simp only [rvO, zeroV, V.n_mk, V.ks_mk] at CH
            clear HPK HLE
            go_wp2_with (go_at_call 61; go_must (refine (CH.out _).mono ?_; rintro e w5 ⟨s5, rfl, hk5, hg5⟩; obtain ⟨A5, n5, c5, rfl, -, -, -⟩ := hk5.form; (have HI5 := Lib.hid (HI.out.bw (hg5.alloc (.cells #[.int .i64 0, .slice A5 n5 c5] 28)))); have p0 := HI5.out.r.cell 0; have p1 := HI5.out.r.cell 1; have p2 := HI5.out.r.frozen 0; have p3 := HI5.out.r.frozen 1; have p4 := HI5.out.r.lt; clear hk5 hg5))
            obtain ⟨k1, k2, k3⟩ := rd_end (x := 0) (sv := .slice none 0 0) (l := []) HI5.out.gb HI5.out.r (KAt.nil 0 none (Nat.zero_le _))
            refine bodyPost_ret (results_row_tmp (p := 4) (q := 5) (ty := 28) rfl _ _ w.heap.size _ _ rfl (run_loadVar_row _ _ 28 28 _ (0, 0) _ k3 Tryz.underlying28 rfl (by kernel_rfl)) rfl) rfl ?_
            subst hpost
            rw [HRS.out]
            exact ⟨_, rfl, k1, k2⟩
          · have hk9 : k ≤ 5000 := HLE.out (u, k) rfl
            simp only [rvO] at CH
            have hkneg : decide ((k : Int) < 0) = false := decide_eq_false (by omega)
            clear HLE
            by_cases hle : l.size ≤ a + 1 + k
            · have HRS : Hid (res = none) := Lib.hid (by rw [HPK.out, rkS, if_pos (by rw [size_data]; exact hle)]; rfl)
              have dle : decide ((l.size : Int) ≤ (a : Int) + 1 + (k : Int)) = true := decide_eq_true (by omega)
              clear HPK
              go_wp2_with (go_at_call 61; go_must (refine (CH.out _).mono ?_; rintro e w5 ⟨s5, rfl, hk5, hg5⟩; obtain ⟨A5, n5, c5, rfl, -, -, -⟩ := hk5.form; (have HI5 := Lib.hid (HI.out.bw (hg5.alloc (.cells #[.int .i64 u.n, .slice A5 n5 c5] 28)))); have p0 := HI5.out.r.cell 0; have p1 := HI5.out.r.cell 1; have p2 := HI5.out.r.frozen 0; have p3 := HI5.out.r.frozen 1; have p4 := HI5.out.r.lt; clear hk5 hg5))
              obtain ⟨k1, k2, k3⟩ := rd_end (x := 0) (sv := .slice none 0 0) (l := []) HI5.out.gb HI5.out.r (KAt.nil 0 none (Nat.zero_le _))
              refine bodyPost_ret (results_row_tmp (p := 4) (q := 5) (ty := 28) rfl _ _ w.heap.size _ _ rfl (run_loadVar_row _ _ 28 28 _ (0, 0) _ k3 Tryz.underlying28 rfl (by kernel_rfl)) rfl) rfl ?_
              subst hpost
              rw [HRS.out]
              exact ⟨_, rfl, k1, k2⟩
            · have hlt2 : a + 1 + k < l.size := by omega
              have dle : decide ((l.size : Int) ≤ (a : Int) + 1 + (k : Int)) = false := decide_eq_false (by omega)
              obtain ⟨kk, hkk⟩ : ∃ kk, acc.length = kk := ⟨_, rfl⟩
              rw [hkk] at HI vb1 hal g1
              have HKL := Lib.hid hkk
              clear hkk
              obtain ⟨p, hp⟩ : ∃ p, p = a + 1 + k := ⟨_, rfl⟩
              have hpl : p < l.size := by omega
              have HP := Lib.hid hp
              have HPK2 : Hid (res = if l[p] = 32 ∨ l[p] = 41 then finV num (rk (rv d) l.data.toList q (acc ++ [u]) p) else none) := Lib.hid (by
                rw [HPK.out, rkS, if_neg (by rw [size_data]; exact hle), ← hp, byte_at hpl]
                simp only [Option.some.injEq]
                split <;> rfl)
              clear HPK hp hle
              go_upto_region 22 with (go_at_call 61; go_must (refine (CH.out _).mono ?_; rintro e w5 ⟨s5, rfl, hk5, hg5⟩; obtain ⟨A5, n5, c5, rfl, -, -, -⟩ := hk5.form; have hs5 := hg5.size; (have HK5 := Lib.hid hk5); (have HI5 := Lib.hid (HI.out.bw (hg5.alloc (.cells #[.int .i64 u.n, .slice A5 n5 c5] 28)))); have p0 := HI5.out.g.cell 0; have p1 := HI5.out.g.cell 1; have p4 := HI5.out.g.lt; clear hk5 hg5))
              have HK6 : Hid (KAt ((w5.alloc (.cells #[.int .i64 u.n, .slice A5 n5 c5] 28)).alloc (.cells #[.int .i64 u.n, .slice A5 n5 c5] 28)) (fun y => G + 1 ≤ y ∧ y < ((w5.alloc (.cells #[.int .i64 u.n, .slice A5 n5 c5] 28)).alloc (.cells #[.int .i64 u.n, .slice A5 n5 c5] 28)).heap.size ∧ (Value.slice VA kk vc).ownBlock ≠ some y) (.slice A5 n5 c5) u.ks) := Lib.hid (by
                refine KAt.keep (S := fun y => wr.heap.size ≤ y ∧ y < w5.heap.size) HK5.out (fun y hy => ⟨by omega, by simp; omega, fun e => ?_⟩) (fun p hp => ?_)
                · have := (HI.out.row.own.lt y e).2; omega
                · rw [World.cell?_alloc_lt _ _ p (by simp; have := hp.2; omega), World.cell?_alloc_lt _ _ p hp.2])
              go_upto_region 24 with (at_builtin; go_must (refine wpList_append_any _ rfl _ _ 26 rfl (G + 1) 28 i0 _ 2 32 Tryz.underlying26 hi hzi0 hzi1 hzi2 rfl (by decide) (.slice VA kk vc) kk (vCells acc ss) rfl (by have := HI5.out.row.own.alloc (.cells #[.int .i64 u.n, .slice A5 n5 c5] 28); rwa [HKL.out] at this) (w5.heap.size + 1 + 1) (some ⟨w5.heap.size + 1, 0, none⟩) 1 1 [.int .i64 u.n, .slice A5 n5 c5] rfl (by have := reads_new2 (w5.alloc (.cells #[.int .i64 u.n, .slice A5 n5 c5] 28)) 28 u.n (.slice A5 n5 c5); rwa [World.size_alloc] at this) (one2 _ _ _ _) (by unfold maxLen; omega) (by omega) (by simp; omega) ?_; intro v8 w8 hown8 hgr8 hl8; obtain ⟨A8, c8, rfl⟩ := own_form hown8; have hne8 : some G ≠ (Value.slice VA kk vc).ownBlock := (fun e => by have := (HI5.out.row.own.lt _ e.symm).1; omega); have k8 := (HI5.out.g.alloc (.cells #[.int .i64 u.n, .slice A5 n5 c5] 28)).grown hgr8 hne8; have y8 := k8.cell 1; have z8 := k8.frozen 1; have l8 := k8.lt; (have HO8 := Lib.hid hown8); (have HG8 := Lib.hid hgr8); (have HL8 := Lib.hid hl8); clear hown8 hgr8 hl8 k8 hne8))
              have HIn := Lib.hid ((HI5.out.bw ((Bw.refl (w5.alloc (.cells #[.int .i64 u.n, .slice A5 n5 c5] 28))).alloc (.cells #[.int .i64 u.n, .slice A5 n5 c5] 28))).push (y := u) (s := .slice A5 n5 c5) HK6.out (by rw [HKL.out]; exact HO8.out) HG8.out HL8.out)
              rw [show (a : Int) + (1 + (k : Int)) = (p : Int) by have := HP.out; omega]
              have t0 := HIn.out.r.cell 0
              have t1 := HIn.out.r.cell 1
              have t2 := HIn.out.r.frozen 0
              have t3 := HIn.out.r.frozen 1
              have t4 := HIn.out.r.lt
              clear HK6 HO8 HG8 HL8 HK5 HI5 y8 z8 l8 p0 p1 p4 CH
              by_cases h32 : l[p] = 32
              · have b1 : ((l[p].toNat : Int) == 32) = true := by rw [h32]; rfl
                have c1 : ((l[p].toNat : Int) != 32) = false := by rw [bne, b1]; rfl
                have HRS : Hid (res = finV num (rk (rv d) l.data.toList q (acc ++ [u]) p)) := Lib.hid (by rw [HPK2.out, if_pos (.inl h32)])
                clear h32 HPK2
                go_wp2
                go_roundw
                case rel => exact ⟨p, q, acc ++ [u], _, _, rfl, hpl, by have := HP.out; omega, by rw [List.length_append, HKL.out]; have := HP.out; simp; omega, Lib.hid ⟨HIn.out, HRS.out⟩⟩
                case measure => have := HP.out; simp [intOf]; omega
              have b1 : ((l[p].toNat : Int) == 32) = false := by
                simp only [beq_eq_false_iff_ne, ne_eq]
                intro e
                exact h32 (UInt8.toNat_inj.1 (show l[p].toNat = 32 by omega))
              have c1 : ((l[p].toNat : Int) != 32) = true := by rw [bne, b1]; rfl
              by_cases h41' : l[p] = 41
              · have b2 : ((l[p].toNat : Int) == 41) = true := by rw [h41']; rfl
                have c2 : ((l[p].toNat : Int) != 41) = false := by rw [bne, b2]; rfl
                have HRS : Hid (res = finV num (rk (rv d) l.data.toList q (acc ++ [u]) p)) := Lib.hid (by rw [HPK2.out, if_pos (.inr h41')])
                clear h32 h41' HPK2
                go_wp2
                go_roundw
                case rel => exact ⟨p, q, acc ++ [u], _, _, rfl, hpl, by have := HP.out; omega, by rw [List.length_append, HKL.out]; have := HP.out; simp; omega, Lib.hid ⟨HIn.out, HRS.out⟩⟩
                case measure => have := HP.out; simp [intOf]; omega
              · have b2 : ((l[p].toNat : Int) == 41) = false := by
                  simp only [beq_eq_false_iff_ne, ne_eq]
                  intro e
                  exact h41' (UInt8.toNat_inj.1 (show l[p].toNat = 41 by omega))
                have c2 : ((l[p].toNat : Int) != 41) = true := by rw [bne, b2]; rfl
                have HRS : Hid (res = none) := Lib.hid (by rw [HPK2.out, if_neg (by simp [h32, h41'])])
                clear h32 h41' HPK2
                go_wp2
                obtain ⟨k1, k2, k3⟩ := rd_end (x := 0) (sv := .slice none 0 0) (l := []) HIn.out.gb HIn.out.r (KAt.nil 0 none (Nat.zero_le _))
                refine bodyPost_ret (results_row_tmp (p := 4) (q := 5) (ty := 28) rfl _ _ w.heap.size _ _ rfl (run_loadVar_row _ _ 28 28 _ (0, 0) _ k3 Tryz.underlying28 rfl (by kernel_rfl)) rfl) rfl ?_
                subst hpost
                rw [HRS.out]
                exact ⟨_, rfl, k1, k2⟩
theorem read_any : ∀ d, ReadSays d := by
  intro d
  induction d with
  | zero => exact read_step 0 (fun d' h => by omega)
  | succ d ih =>
    refine read_step (d + 1) fun d' h => ?_
    have e : d = d' := by omega
    subst e
    exact ih
end Go.Proofs.YtlmnkcfnihhlgaaGreatDoor
namespace Go.Proofs.YtlmnkcfnihhlgaaGreatDoor
open Go.RowKit
set_option linter.unusedSimpArgs false
set_option linter.unusedVariables false

set_option maxRecDepth 100000 in
set_option maxHeartbeats 8000000 in
theorem r6Parse_any (s : ByteArray) (w : World) (p : V × Int) (hp : parseE s.data.toList = p) : Calls Tryz.prog 37 #[.string s] w (SortedPost w p.1 p.2) := by
  subst hp
  have hk0 := fun W => KAt.nil (w := W) (S := fun y => w.heap.size + 1 ≤ y ∧ y < W.heap.size) 0 none (Nat.zero_le _)
  by_cases hs : 4096 < s.size
  · have e1 : parseE s.data.toList = (zeroV, 1) := by unfold parseE; rw [if_pos (by rw [size_data]; exact hs)]
    rw [e1]
    show Calls _ _ _ _ (SortedPost w zeroV 1)
    have HB := Lib.hid (Blk.new w 28 #[.int .i64 0, .slice none 0 0])
    have ds : (4096 : Int) < (s.size : Int) := by omega
    generalize hres : SortedPost w zeroV 1 = R
    clear hk0 e1
    go_enter Tryz.func37, Tryz.ntmps37
    go_wp2
    refine bodyPost_ret (results_row_tmp (p := 2) (q := 3) (ty := 28) rfl _ _ w.heap.size _ _ rfl (run_loadVar_row _ _ 28 28 _ (0, 0) _ HB.out Tryz.underlying28 rfl (by kernel_rfl)) rfl) rfl ?_
    subst hres
    exact ⟨_, rfl, KAt.nil 0 none (Nat.zero_le _), (Bw.refl w).alloc _⟩
  have hs' : s.size ≤ 4096 := by omega
  have HPE : Hid (parseE s.data.toList = match rv 128 s.data.toList with
    | some (v, k) => if k = s.data.toList.length ∧ okText s.data.toList v = true then (v, 0) else (zeroV, 12)
    | none => (zeroV, 12)) := Lib.hid (by
      unfold parseE
      rw [if_neg (by rw [size_data]; omega), parse_same]
      unfold parseR
      rcases rv 128 s.data.toList with _ | ⟨v, k⟩
      · rfl
      · simp only
        by_cases h : k = s.data.toList.length ∧ okText s.data.toList v = true
        · rw [if_pos h, if_pos h]
        · rw [if_neg h, if_neg h])
  have HIR : Hid (∀ u k, rv 128 s.data.toList = some (u, k) → i64V u = true ∧ k ≤ 4096) := Lib.hid (fun u k h => ⟨rv_inR _ _ _ _ h, by have := rv_le h; rw [size_data] at this; simp only at this; omega⟩)
  have CR : Hid (∀ W, Calls Tryz.prog 61 #[.string s, .int .i64 128] W (SortedPost W (rvO (rv 128 s.data.toList)).1 (rvO (rv 128 s.data.toList)).2)) := Lib.hid (fun W => read_any 128 s W (by omega) (by omega))
  generalize parseE s.data.toList = pe at *
  have H1 : Hid (Blk (w.alloc (.cells #[.int .i64 0, .slice none 0 0] 28)) w.heap.size 28 #[.int .i64 0, .slice none 0 0] ∧ Bw w (w.alloc (.cells #[.int .i64 0, .slice none 0 0] 28))) := Lib.hid ⟨Blk.new _ _ _, (Bw.refl w).alloc _⟩
  have ds : ¬ (4096 : Int) < (s.size : Int) := by omega
  have HK0 := Lib.hid hk0
  clear hk0 hs
  generalize rv 128 s.data.toList = r at *
  generalize hres : SortedPost w pe.1 pe.2 = R
  unfold SortedPost at CR
  go_enter Tryz.func37, Tryz.ntmps37
  go_upto_region 4 with (go_at_call 61; go_must ((refine (CR.out _).mono ?_); rintro e w2 ⟨s2, rfl, hk2, hg2⟩; obtain ⟨A2, n2, c2, rfl, -, -, -⟩ := hk2.form; (have H2 : Hid (Blk w2 w.heap.size 28 #[.int .i64 0, .slice none 0 0] ∧ Bw w w2 ∧ KAt w2 (fun y => w.heap.size + 1 ≤ y ∧ y < w2.heap.size) (.slice A2 n2 c2) (rvO r).1.ks) := Lib.hid ⟨H1.out.1.below hg2.b H1.out.1.lt, H1.out.2.trans hg2, hk2.keep (fun y hy => ⟨by have := hy.1; simp at this; omega, hy.2⟩) (fun _ _ => rfl)⟩); clear hk2 hg2))
  have H3 : Hid (Blk (w2.alloc (.cells #[.int .i64 (rvO r).1.n, .slice A2 n2 c2] 28)) w.heap.size 28 #[.int .i64 0, .slice none 0 0] ∧ Bw w (w2.alloc (.cells #[.int .i64 (rvO r).1.n, .slice A2 n2 c2] 28)) ∧ KAt (w2.alloc (.cells #[.int .i64 (rvO r).1.n, .slice A2 n2 c2] 28)) (fun y => w.heap.size + 1 ≤ y ∧ y < (w2.alloc (.cells #[.int .i64 (rvO r).1.n, .slice A2 n2 c2] 28)).heap.size) (.slice A2 n2 c2) (rvO r).1.ks ∧ Blk (w2.alloc (.cells #[.int .i64 (rvO r).1.n, .slice A2 n2 c2] 28)) w2.heap.size 28 #[.int .i64 (rvO r).1.n, .slice A2 n2 c2]) := Lib.hid ⟨H2.out.1.alloc _, H2.out.2.1.alloc _, H2.out.2.2.keep (fun y hy => ⟨hy.1, by have := hy.2; simp; omega⟩) (fun p hp => World.cell?_alloc_lt w2 _ p hp.2), Blk.new _ _ _⟩
  have hz2 := H2.out.2.1.size
  have hz2' := H2.out.1.lt
  rcases r with _ | ⟨u, k⟩
  · simp only [rvO, zeroV, V.n_mk, V.ks_mk] at H3 ⊢
    have HPZ : Hid (pe = (zeroV, 12)) := Lib.hid HPE.out
    generalize hW3 : w2.alloc (.cells #[.int .i64 0, .slice A2 n2 c2] 28) = W3 at *
    clear hW3
    have y0 := H3.out.1.cell 0
    have y1 := H3.out.1.cell 1
    have y2 := H3.out.1.frozen 0
    have y3 := H3.out.1.frozen 1
    have da : ((-1 : Int) == (s.size : Int)) = false := by rw [beq_eq_false_iff_ne]; omega
    clear H2
    go_wp2
    obtain ⟨k1, k2, k3⟩ := ps_end (x := 0) H3.out.2.1 H3.out.1 (HK0.out W3)
    refine bodyPost_ret (results_row_tmp (p := 2) (q := 3) (ty := 28) rfl _ _ w.heap.size _ _ rfl (run_loadVar_row _ _ 28 28 _ (0, 0) _ k3 Tryz.underlying28 rfl (by kernel_rfl)) rfl) rfl ?_
    subst hres
    rw [HPZ.out]
    exact ⟨_, rfl, k1, k2⟩
  · simp only [rvO] at H3 ⊢
    obtain ⟨hir, hk9⟩ := HIR.out u k rfl
    have HIN := Lib.hid hir
    have TX : Hid (∀ W, Bw (w2.alloc (.cells #[.int .i64 u.n, .slice A2 n2 c2] 28)) W → Calls Tryz.prog 34 #[.agg #[.int .i64 u.n, .slice A2 n2 c2]] W (TxtPost W (txtP u))) := Lib.hid (fun W g => r6Text_any u hir _ W (KAt.bw (H3.out.2.2.1.keep (fun y hy => hy.2) (fun _ _ => rfl)) g) _ rfl)
    have HV3 := Lib.hid (fun W (g : Bw (w2.alloc (.cells #[.int .i64 u.n, .slice A2 n2 c2] 28)) W) => (⟨H3.out.1.below g.b H3.out.1.lt, H3.out.2.1.trans g, H3.out.2.2.1.keep (fun y hy => ⟨hy.1, Nat.lt_of_lt_of_le hy.2 g.size⟩) (fun p hp => g.b.cell hp.2), H3.out.2.2.2.below g.b H3.out.2.2.2.lt⟩ : Blk W w.heap.size 28 #[.int .i64 0, .slice none 0 0] ∧ Bw w W ∧ KAt W (fun y => w.heap.size + 1 ≤ y ∧ y < W.heap.size) (.slice A2 n2 c2) u.ks ∧ Blk W w2.heap.size 28 #[.int .i64 u.n, .slice A2 n2 c2]))
    by_cases haz : k = s.size
    rotate_left
    · have HPZ : Hid (pe = (zeroV, 12)) := Lib.hid (by rw [HPE.out]; simp only [size_data, haz, false_and, if_false])
      generalize hW3 : w2.alloc (.cells #[.int .i64 u.n, .slice A2 n2 c2] 28) = W3 at *
      clear hW3
      have y0 := H3.out.1.cell 0
      have y1 := H3.out.1.cell 1
      have y2 := H3.out.1.frozen 0
      have y3 := H3.out.1.frozen 1
      have da : ((k : Int) == (s.size : Int)) = false := by simp; omega
      clear H2 TX HV3 hir
      go_wp2
      obtain ⟨k1, k2, k3⟩ := ps_end (x := 0) H3.out.2.1 H3.out.1 (HK0.out W3)
      refine bodyPost_ret (results_row_tmp (p := 2) (q := 3) (ty := 28) rfl _ _ w.heap.size _ _ rfl (run_loadVar_row _ _ 28 28 _ (0, 0) _ k3 Tryz.underlying28 rfl (by kernel_rfl)) rfl) rfl ?_
      subst hres
      rw [HPZ.out]
      exact ⟨_, rfl, k1, k2⟩
    · obtain rfl : k = s.size := haz
      have HPQ : Hid (pe = if okText s.data.toList u = true then (u, 0) else (zeroV, 12)) := Lib.hid (by
        rw [HPE.out]
        simp only [size_data, true_and])
      generalize hW3 : w2.alloc (.cells #[.int .i64 u.n, .slice A2 n2 c2] 28) = W3 at *
      clear hW3
      have y0 := H3.out.2.2.2.cell 0
      have y1 := H3.out.2.2.2.cell 1
      clear H2 hir
      by_cases h8 : u.size ≤ 128
      rotate_left
      · have et : txtP u = (⟨#[]⟩, 1) := if_neg h8
        rw [et] at TX
        have HPZ : Hid (pe = (zeroV, 12)) := Lib.hid (by rw [HPQ.out, if_neg (by simp [okText, h8])])
        go_wp2_with (go_at_call 34; go_must ((refine (TX.out _ (Bw.refl _)).mono ?_); rintro e w5 ⟨rfl, hg5⟩; (have HV5 := Lib.hid (HV3.out _ hg5)); have z0 := HV5.out.1.cell 0; have z1 := HV5.out.1.cell 1; have z2 := HV5.out.1.frozen 0; have z3 := HV5.out.1.frozen 1; clear hg5))
        obtain ⟨k1, k2, k3⟩ := ps_end (x := 0) HV5.out.2.1 HV5.out.1 (HK0.out w5)
        refine bodyPost_ret (results_row_tmp (p := 2) (q := 3) (ty := 28) rfl _ _ w.heap.size _ _ rfl (run_loadVar_row _ _ 28 28 _ (0, 0) _ k3 Tryz.underlying28 rfl (by kernel_rfl)) rfl) rfl ?_
        subst hres
        rw [HPZ.out]
        exact ⟨_, rfl, k1, k2⟩
      · have et : txtP u = (⟨(textV u).toArray⟩, 0) := if_pos h8
        rw [et] at TX
        obtain ⟨tx, htx⟩ : ∃ tx : ByteArray, tx = ⟨(textV u).toArray⟩ := ⟨_, rfl⟩
        rw [← htx] at TX
        by_cases heq : textV u = s.data.toList
        · have HPZ : Hid (pe = (u, 0)) := Lib.hid (by rw [HPQ.out, if_pos (by simp [okText, h8, heq])])
          obtain rfl : tx = s := by rw [htx, heq]
          have de : (tx.toList == tx.toList) = true := by simp
          clear htx et heq
          go_wp2_with (go_at_call 34; go_must ((refine (TX.out _ (Bw.refl _)).mono ?_); rintro e w5 ⟨rfl, hg5⟩; (have HV5 := Lib.hid (HV3.out _ hg5)); have z0 := HV5.out.1.cell 0; have z1 := HV5.out.1.cell 1; have z2 := HV5.out.1.frozen 0; have z3 := HV5.out.1.frozen 1; have z4 := HV5.out.2.2.2.cell 0; have z5 := HV5.out.2.2.2.cell 1; have z6 := HV5.out.2.2.2.lt; clear hg5))
          obtain ⟨k1, k2, k3⟩ := ps_end (x := u.n) HV5.out.2.1 HV5.out.1 HV5.out.2.2.1
          refine bodyPost_ret (results_row_tmp (p := 2) (q := 3) (ty := 28) rfl _ _ w.heap.size _ _ rfl (run_loadVar_row _ _ 28 28 _ (0, 0) _ k3 Tryz.underlying28 rfl (by kernel_rfl)) rfl) rfl ?_
          subst hres
          rw [HPZ.out]
          exact ⟨_, rfl, k1, k2⟩
        · have HPZ : Hid (pe = (zeroV, 12)) := Lib.hid (by rw [HPQ.out, if_neg (by simp [okText, h8, heq])])
          have de : (tx.toList == s.toList) = false := by
            rw [str_eq_dec, htx]
            simpa using heq
          clear htx et heq
          go_wp2_with (go_at_call 34; go_must ((refine (TX.out _ (Bw.refl _)).mono ?_); rintro e w5 ⟨rfl, hg5⟩; (have HV5 := Lib.hid (HV3.out _ hg5)); have z0 := HV5.out.1.cell 0; have z1 := HV5.out.1.cell 1; have z2 := HV5.out.1.frozen 0; have z3 := HV5.out.1.frozen 1; clear hg5))
          obtain ⟨k1, k2, k3⟩ := ps_end (x := 0) HV5.out.2.1 HV5.out.1 (HK0.out w5)
          refine bodyPost_ret (results_row_tmp (p := 2) (q := 3) (ty := 28) rfl _ _ w.heap.size _ _ rfl (run_loadVar_row _ _ 28 28 _ (0, 0) _ k3 Tryz.underlying28 rfl (by kernel_rfl)) rfl) rfl ?_
          subst hres
          rw [HPZ.out]
          exact ⟨_, rfl, k1, k2⟩
end Go.Proofs.YtlmnkcfnihhlgaaGreatDoor
