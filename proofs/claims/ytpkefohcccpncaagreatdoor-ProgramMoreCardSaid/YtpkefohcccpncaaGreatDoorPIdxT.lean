/- The place of a thread by its name: slices.IndexFunc over the threads. -/
import Derived.Test.YtpkefohcccpncaaGreatDoorPRead
namespace Go.Proofs.YtpkefohcccpncaaGreatDoor
open Go.RowKit
set_option linter.unusedSimpArgs false
set_option linter.unusedVariables false

/-- where a thread with a name stands; -1 if none -/
def thR (ts : List Th) (x : List UInt8) : Int := match findTh ts x with
  | none => -1
  | some k => (k : Int)
theorem res1_any (t key : ByteArray) (v : Value) (kb : Nat) (w : World) (hk : w.cell? ⟨kb, 0, none⟩ = some (.string key)) (hb : kb < w.heap.size) (b : Bool) (hbb : (t.data.toList == key.data.toList) = b) :
    Calls Tryz.prog 76 #[.agg #[.string t, v], .pointer (some ⟨kb, 0, none⟩)] w fun e w' => e = .returned (.bool b) ∧ Below w.heap.size w w' := by
  have c1 : (t.toList == key.toList) = b := by rw [str_eq_dec]; exact hbb
  clear hbb
  go_enter Tryz.func76, Tryz.ntmps76
  go_wp2
  go_ret
  exact ⟨rfl, (Below.refl _ _).alloc (Nat.le_refl _) _⟩
theorem findTh_at {ts : List Th} {x : List UInt8} {k : Nat} (hk : k < ts.length) (h : (ts[k].nm.data.toList == x) = true) (hno : ∀ j (hj : j < k) (h2 : j < ts.length), (ts[j].nm.data.toList == x) = false) : findTh ts x = some k := by
  unfold findTh
  rw [List.findIdx?_eq_some_iff_getElem]
  exact ⟨hk, h, fun j hj => by rw [hno j hj (by omega)]; decide⟩
theorem findTh_no {ts : List Th} {x : List UInt8} (hno : ∀ j (h2 : j < ts.length), (ts[j].nm.data.toList == x) = false) : findTh ts x = none := by
  unfold findTh
  rw [List.findIdx?_eq_none_iff]
  intro t ht
  obtain ⟨j, hj, rfl⟩ := List.getElem_of_mem ht
  exact hno j hj
set_option maxHeartbeats 1000000 in
theorem idxTh_any (ts : List Th) (vs : List Value) (gt c : Nat) (key : ByteArray) (kb : Nat) (w : World) (hn : ts.length ≤ 5000) (hgt : gt < w.heap.size)
    (hc : ∀ k (h : k < ts.length) (h' : k < vs.length), w.cell? ⟨gt, k * 2, none⟩ = some (.string ts[k].nm) ∧ w.cell? ⟨gt, k * 2 + 1, none⟩ = some vs[k]) (hl : vs.length = ts.length)
    (hk : w.cell? ⟨kb, 0, none⟩ = some (.string key)) (hb : kb < w.heap.size) :
    Calls Tryz.prog 75 #[.slice (some ⟨gt, 0, none⟩) ts.length c, .func (.func 76) #[] #[.pointer (some ⟨kb, 0, none⟩)]] w fun e w' => e = .returned (.int .i64 (thR ts key.data.toList)) ∧ Below w.heap.size w w' := by
  have HC := Lib.hid hc
  have HK := Lib.hid hk
  have HL := Lib.hid hl
  obtain ⟨n, hnn⟩ : ∃ n, ts.length = n := ⟨_, rfl⟩
  have HN := Lib.hid hnn
  rw [hnn] at hn ⊢
  clear hc hk hl hnn
  go_enter Tryz.func75, Tryz.ntmps75
  go_wp2
  go_loopw [8] (fun i wr => ∃ k : Nat, k ≤ n ∧ i = .int .i64 k ∧ Hid (Below w.heap.size w wr ∧ ∀ j (hj : j < k) (h2 : j < ts.length), (ts[j].nm.data.toList == key.data.toList) = false)) (fun i _ => n - (intOf i).toNat)
  case atStart => exact ⟨0, by omega, rfl, Lib.hid ⟨Below.refl _ _, fun j hj => absurd hj (by omega)⟩⟩
  case round =>
    obtain ⟨k, hkn, rfl, HR⟩ := hrel
    obtain ⟨hbw, hno⟩ := HR.out
    have hwl : w.heap.size ≤ wr.heap.size := hbw.size
    by_cases hlt : k < n
    · have hkt : k < ts.length := by rw [HN.out]; exact hlt
      have hkv : k < vs.length := by rw [HL.out]; exact hkt
      obtain ⟨q0', q1'⟩ := HC.out k hkt hkv
      have q0 := (hbw.cell (p := ⟨gt, k * 2, none⟩) hgt).trans q0'
      have q1 := (hbw.cell (p := ⟨gt, k * 2 + 1, none⟩) hgt).trans q1'
      clear q0' q1'
      obtain ⟨kw, hkw⟩ : ∃ kw, ts[k].nm = kw := ⟨_, rfl⟩
      obtain ⟨kv, hkv⟩ : ∃ kv, vs[k] = kv := ⟨_, rfl⟩
      rw [hkw] at q0
      rw [hkv] at q1
      obtain ⟨b, hbb⟩ : ∃ b, (kw.data.toList == key.data.toList) = b := ⟨_, rfl⟩
      have L1 : Hid (Calls Tryz.prog 76 #[.agg #[.string kw, kv], .pointer (some ⟨kb, 0, none⟩)] wr fun e w' => e = .returned (.bool b) ∧ Below wr.heap.size wr w') := Lib.hid (res1_any kw key kv kb wr ((hbw.cell (p := ⟨kb, 0, none⟩) hb).trans HK.out) (by omega) b hbb)
      have HBW := Lib.hid hbw
      have HNO := Lib.hid hno
      have HBB := Lib.hid hbb
      have HKT := Lib.hid hkt
      have HKW := Lib.hid hkw
      clear hbw hno hbb hkw hkv
      rcases b with _ | _
      · go_wp2_with (go_at_call 76; go_must (refine L1.out.mono ?_; rintro e w6 ⟨rfl, hb6⟩))
        go_roundw
        case rel =>
          refine ⟨k + 1, by omega, by go_num, Lib.hid ⟨HBW.out.trans (hb6.mono hwl), fun j hj h2 => ?_⟩⟩
          by_cases e : j = k
          · subst e; rw [HKW.out]; exact HBB.out
          · exact HNO.out j (by omega) h2
        case measure => simp [intOf]; omega
      · have HF : Hid (thR ts key.data.toList = k) := Lib.hid (by
          unfold thR
          rw [findTh_at HKT.out (by rw [HKW.out]; exact HBB.out) HNO.out])
        go_wp2_with (go_at_call 76; go_must (refine L1.out.mono ?_; rintro e w6 ⟨rfl, hb6⟩))
        go_ret
        exact ⟨ret_int HF.out.symm, HBW.out.trans (hb6.mono hwl)⟩
    · obtain rfl : k = n := by omega
      have HF : Hid (thR ts key.data.toList = -1) := Lib.hid (by
        unfold thR; rw [findTh_no (fun j h2 => hno j (by rw [← HN.out]; exact h2) h2)])
      have HBW := Lib.hid hbw
      clear hno hbw
      go_wp2
      go_ret
      exact ⟨ret_int HF.out.symm, HBW.out⟩
end Go.Proofs.YtpkefohcccpncaaGreatDoor
