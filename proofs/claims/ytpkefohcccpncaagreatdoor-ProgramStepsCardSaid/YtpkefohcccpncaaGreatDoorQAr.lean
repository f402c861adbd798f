/- The places of a program, and the events of a place, as plain data. Places of a program; Begin; both. Begin, both, and whether all counts are in range. -/
import Derived.Test.YtpkefohcccpncaaGreatDoorQAf
namespace Go.Proofs.YtpkefohcccpncaaGreatDoor
open Go.RowKit
set_option linter.unusedSimpArgs false
set_option linter.unusedVariables false

structure Ev where
  th : Int
  ln : Int
  nu : Int
  va : Int
  nx : Int
def evCells (es : List Ev) : List Value := es.flatMap fun e => [.int .i64 e.th, .int .i64 e.ln, .int .i64 e.nu, .int .i64 e.va, .int .i64 e.nx]
theorem evCells_length (es : List Ev) : (evCells es).length = es.length * 5 := by
  induction es with
  | nil => rfl
  | cons x xs ih => simp only [evCells, List.flatMap_cons, List.length_append, List.length_cons] at *; rw [ih]; simp; omega
theorem evCells_append (a b : List Ev) : evCells (a ++ b) = evCells a ++ evCells b := by simp [evCells]
def plCells (ps : List (Nat × Nat)) : List Value := ps.flatMap fun x => [.int .i64 (x.1 : Int), .int .i64 (x.2 : Int)]
theorem plCells_length (ps : List (Nat × Nat)) : (plCells ps).length = ps.length * 2 := by
  induction ps with
  | nil => rfl
  | cons x xs ih => simp only [plCells, List.flatMap_cons, List.length_append, List.length_cons] at *; rw [ih]; simp; omega
theorem plCells_append (a b : List (Nat × Nat)) : plCells (a ++ b) = plCells a ++ plCells b := by simp [plCells]
theorem plCells_get : ∀ (xs : List (Nat × Nat)) (k : Nat) (hk : k < xs.length), (plCells xs)[k * 2]? = some (.int .i64 (xs[k].1 : Int)) ∧ (plCells xs)[k * 2 + 1]? = some (.int .i64 (xs[k].2 : Int)) := by
  intro xs
  induction xs with
  | nil => intro k hk; simp at hk
  | cons x xs ih =>
    intro k hk
    have e : plCells (x :: xs) = .int .i64 (x.1 : Int) :: .int .i64 (x.2 : Int) :: plCells xs := rfl
    cases k with
    | zero => simp [e]
    | succ k =>
      have h := ih k (by simpa using hk)
      rw [e, show (k + 1) * 2 = k * 2 + 1 + 1 from by omega, show k * 2 + 1 + 1 + 1 = (k * 2 + 1) + 1 + 1 from by omega]
      simpa using h
theorem evCells_get : ∀ (xs : List Ev) (k : Nat) (hk : k < xs.length), (evCells xs)[k * 5]? = some (.int .i64 xs[k].th) ∧ (evCells xs)[k * 5 + 1]? = some (.int .i64 xs[k].ln) ∧ (evCells xs)[k * 5 + 2]? = some (.int .i64 xs[k].nu) ∧ (evCells xs)[k * 5 + 3]? = some (.int .i64 xs[k].va) ∧ (evCells xs)[k * 5 + 4]? = some (.int .i64 xs[k].nx) := by
  intro xs
  induction xs with
  | nil => intro k hk; simp at hk
  | cons x xs ih =>
    intro k hk
    have e : evCells (x :: xs) = .int .i64 x.th :: .int .i64 x.ln :: .int .i64 x.nu :: .int .i64 x.va :: .int .i64 x.nx :: evCells xs := rfl
    cases k with
    | zero => simp [e]
    | succ k =>
      have h := ih k (by simpa using hk)
      rw [e, show (k + 1) * 5 = k * 5 + 1 + 1 + 1 + 1 + 1 from by omega, show k * 5 + 1 + 1 + 1 + 1 + 1 + 1 = (k * 5 + 1) + 1 + 1 + 1 + 1 + 1 from by omega, show k * 5 + 1 + 1 + 1 + 1 + 1 + 2 = (k * 5 + 2) + 1 + 1 + 1 + 1 + 1 from by omega, show k * 5 + 1 + 1 + 1 + 1 + 1 + 3 = (k * 5 + 3) + 1 + 1 + 1 + 1 + 1 from by omega, show k * 5 + 1 + 1 + 1 + 1 + 1 + 4 = (k * 5 + 4) + 1 + 1 + 1 + 1 + 1 from by omega]
      simpa using h
/-- how many lines thread k has -/
def lsLen (ts : List Th) (k : Nat) : Nat := (ts[k]?.map fun t => t.ls.length).getD 0
theorem lsLen_at {ts : List Th} {k : Nat} (h : k < ts.length) : lsLen ts k = ts[k].ls.length := by simp [lsLen, h]
def lenTo (ts : List Th) : Nat → Nat
  | 0 => 0
  | k + 1 => lenTo ts k + lsLen ts k
theorem lenTo_cons (t : Th) (ts : List Th) : ∀ k, lenTo (t :: ts) (k + 1) = t.ls.length + lenTo ts k := by
  intro k
  induction k with
  | zero => simp [lenTo, lsLen]
  | succ k ih => rw [lenTo, ih, lenTo]; simp only [lsLen, List.getElem?_cons_succ]; omega
theorem okThs_lenTo (p : Prg) : ∀ (ts : List Th) (c num : Nat) (ns : List (List UInt8)), c ≤ 6 → okThs p c num ns ts = true → ∀ k, c + lenTo ts k ≤ 6 := by
  intro ts
  induction ts with
  | nil =>
    intro c num ns hc _ k
    induction k with
    | zero => simpa [lenTo] using hc
    | succ k ih => simpa [lenTo, lsLen] using ih
  | cons t ts ih =>
    intro c num ns hc h k
    rw [okThs, Bool.and_eq_true] at h
    have h1 := h.1
    simp only [okTh, Bool.and_eq_true, decide_eq_true_eq] at h1
    have hle : c + t.ls.length ≤ 6 := h1.1.1.1.2
    cases k with
    | zero => simpa [lenTo] using hc
    | succ k =>
      rw [lenTo_cons]
      have := ih _ _ _ hle h.2 k
      omega
theorem check_len {p : Prg} (h : checkP p = true) (k : Nat) : lenTo p.ts k ≤ 6 := by
  have h2 : okThs p 0 1 [] p.ts = true := by
    unfold checkP at h
    simp only [Bool.and_eq_true] at h
    exact h.2
  have := okThs_lenTo p p.ts 0 1 [] (by omega) h2 k
  omega
/-- what a checked program's lines are -/
theorem okThs_line (p : Prg) : ∀ (ts : List Th) (c num : Nat) (ns : List (List UInt8)), okThs p c num ns ts = true → ∀ t ∈ ts, t.ls.length ≠ 0 ∧ ∃ num, okLines p t num t.ls = true := by
  intro ts
  induction ts with
  | nil => intro c num ns _ t ht; cases ht
  | cons x ts ih =>
    intro c num ns h t ht
    rw [okThs, Bool.and_eq_true] at h
    rcases List.mem_cons.1 ht with rfl | ht
    · have h1 := h.1
      simp only [okTh, Bool.and_eq_true, decide_eq_true_eq] at h1
      exact ⟨h1.1.1.1.1, _, h1.2⟩
    · exact ih _ _ _ h.2 t ht
theorem okLines_at {p : Prg} {t : Th} : ∀ {ls : List Ln} {num : Nat}, okLines p t num ls = true → ∀ l ∈ ls, 1 ≤ l.k ∧ l.k ≤ 7 ∧ 0 ≤ l.a ∧ l.a < mostP p t l.k.toNat ∧ 0 ≤ l.n := by
  intro ls
  induction ls with
  | nil => intro num _ l hl; cases hl
  | cons x ls ih =>
    intro num h l hl
    rw [okLines, Bool.and_eq_true] at h
    rcases List.mem_cons.1 hl with rfl | hl
    · have h1 := h.1
      simp only [okLine, Bool.and_eq_true, decide_eq_true_eq] at h1
      exact ⟨h1.1.1.1.1, h1.1.1.1.2, h1.1.1.2, h1.1.2, by omega⟩
    · exact ih h.2 l hl
theorem check_th {p : Prg} (h : checkP p = true) {t : Th} (ht : t ∈ p.ts) : t.ls.length ≠ 0 ∧ ∀ l ∈ t.ls, 1 ≤ l.k ∧ l.k ≤ 7 ∧ 0 ≤ l.a ∧ l.a < mostP p t l.k.toNat ∧ 0 ≤ l.n := by
  have h2 : okThs p 0 1 [] p.ts = true := by
    unfold checkP at h
    simp only [Bool.and_eq_true] at h
    exact h.2
  obtain ⟨h3, num, h4⟩ := okThs_line p p.ts 0 1 [] h2 t ht
  exact ⟨h3, okLines_at h4⟩
theorem check_v {p : Prg} (h : checkP p = true) : 1 ≤ p.v ∧ p.v ≤ 8 ∧ p.ts.length ≠ 0 := by
  unfold checkP at h
  simp only [Bool.and_eq_true, decide_eq_true_eq] at h
  exact ⟨h.1.1.1, h.1.1.2, h.1.2⟩

def plsOf (i n : Nat) : List (Nat × Nat) := (List.range n).map fun j => (i, j)
theorem plsOf_succ (i n : Nat) : plsOf i (n + 1) = plsOf i n ++ [(i, n)] := by simp [plsOf, List.range_succ]
theorem plsOf_length (i n : Nat) : (plsOf i n).length = n := by simp [plsOf]
/-- the places of the first k threads -/
def plsTo (ts : List Th) : Nat → List (Nat × Nat)
  | 0 => []
  | k + 1 => plsTo ts k ++ plsOf k (lsLen ts k)
theorem plsTo_length (ts : List Th) (k : Nat) : (plsTo ts k).length = lenTo ts k := by
  induction k with
  | zero => rfl
  | succ k ih => rw [plsTo, lenTo, List.length_append, ih, plsOf_length]
def placesP (p : Prg) : List (Nat × Nat) := if checkP p then plsTo p.ts p.ts.length else []
theorem plsTo_mem {ts : List Th} : ∀ {k : Nat}, ∀ x ∈ plsTo ts k, x.1 < k ∧ x.2 < lsLen ts x.1 := by
  intro k
  induction k with
  | zero => intro x hx; cases hx
  | succ k ih =>
    intro x hx
    rw [plsTo, List.mem_append] at hx
    rcases hx with hx | hx
    · have := ih x hx; exact ⟨by omega, this.2⟩
    · simp only [plsOf, List.mem_map, List.mem_range] at hx
      obtain ⟨j, hj, rfl⟩ := hx
      exact ⟨by simp, hj⟩
theorem lsLen_some {ts : List Th} {i : Nat} (h : 0 < lsLen ts i) : i < ts.length := by
  by_cases hi : i < ts.length
  · exact hi
  · simp [lsLen, List.getElem?_eq_none (Nat.le_of_not_lt hi)] at h
/-- a place has a thread and a line -/
theorem place_at {p : Prg} {x : Nat × Nat} (hx : x ∈ placesP p) : ∃ (h1 : x.1 < p.ts.length), x.2 < (p.ts[x.1]'h1).ls.length := by
  unfold placesP at hx
  split at hx
  · obtain ⟨h1, h2⟩ := plsTo_mem x hx
    refine ⟨h1, ?_⟩
    rw [← lsLen_at h1]; exact h2
  · cases hx
theorem placesP_length (p : Prg) (h : checkP p = true) : (placesP p).length = lenTo p.ts p.ts.length := by
  rw [placesP, if_pos h, plsTo_length]
theorem placesP_le (p : Prg) : (placesP p).length ≤ 6 := by
  by_cases h : checkP p = true
  · rw [placesP_length p h]; exact check_len h _
  · simp [placesP, h]
theorem lenTo_le (ts : List Th) {k m : Nat} (h : k ≤ m) : lenTo ts k ≤ lenTo ts m := by
  induction m with
  | zero => have : k = 0 := by omega
            subst this; exact Nat.le_refl _
  | succ m ih =>
    by_cases e : k = m + 1
    · rw [e]; exact Nat.le_refl _
    · have := ih (by omega); rw [lenTo]; omega
theorem placesP_pos (p : Prg) (h : checkP p = true) : 0 < (placesP p).length := by
  rw [placesP_length p h]
  obtain ⟨_, _, h0⟩ := check_v h
  have h1 : 0 < p.ts.length := by omega
  have h2 := (check_th h (List.getElem_mem h1)).1
  have h3 : lenTo p.ts 1 ≤ lenTo p.ts p.ts.length := lenTo_le _ (by omega)
  have h4 : lenTo p.ts 1 = p.ts[0].ls.length := by rw [lenTo, lenTo, lsLen_at h1]; omega
  omega

def behindL (n k : Nat) : Int := if k + 1 = n then -1 else (k : Int) + 1
def bothL (a b : Int) : List Int := if a = b then [a] else if 0 ≤ b ∧ b < a then [b, a] else [a, b]
def nextsL (l : Ln) (n k : Nat) : List Int := if l.k = 3 then [l.a] else if l.k = 4 then bothL l.a (behindL n k) else if l.k = 6 then [-1] else [behindL n k]
def valueL (l : Ln) (v : Int) : Int := if l.k = 1 then l.a else v
/-- the events of a line, of a thread of n lines -/
def evsL (l : Ln) (n i k : Nat) (v : Int) : List Ev := if l.k = 7 ∨ (l.k = 2 ∧ v ≠ l.a) then [] else (nextsL l n k).map fun x => ⟨i, k, l.n, valueL l v, x⟩
def evsAt (p : Prg) (v : Int) (x : Nat × Nat) : List Ev := match p.ts[x.1]? with
  | none => []
  | some t => match t.ls[x.2]? with
    | none => []
    | some l => evsL l t.ls.length x.1 x.2 v
theorem evsAt_at {p : Prg} {i k : Nat} (v : Int) (hi : i < p.ts.length) (hk : k < p.ts[i].ls.length) : evsAt p v (i, k) = evsL p.ts[i].ls[k] p.ts[i].ls.length i k v := by
  simp [evsAt, hi, hk]
theorem evsL_le (l : Ln) (n i k : Nat) (v : Int) : (evsL l n i k v).length ≤ 2 := by
  unfold evsL
  split
  · simp
  · rw [List.length_map]
    unfold nextsL bothL
    repeat (first | split | simp)
theorem evsAt_le (p : Prg) (v : Int) (x : Nat × Nat) : (evsAt p v x).length ≤ 2 := by
  unfold evsAt
  split
  · simp
  · split
    · simp
    · exact evsL_le _ _ _ _ _
/-- the events of the first i places -/
def stepsTo (p : Prg) (v : Int) (cs : List Int) (ps : List (Nat × Nat)) : Nat → List Ev
  | 0 => []
  | i + 1 => stepsTo p v cs ps i ++ (if 0 < cs.getD i 0 then evsAt p v (ps.getD i (0, 0)) else [])
theorem stepsTo_le (p : Prg) (v : Int) (cs : List Int) (ps : List (Nat × Nat)) (i : Nat) : (stepsTo p v cs ps i).length ≤ 2 * i := by
  induction i with
  | zero => simp [stepsTo]
  | succ i ih =>
    rw [stepsTo, List.length_append]
    split
    · have := evsAt_le p v (ps.getD i (0, 0)); omega
    · simp; omega
def badC (n : Int) : Bool := decide (n < 0) || decide (1048576 < n)
def stepsP (p : Prg) (v : Int) (cs : List Int) : Int × List Ev :=
  if checkP p = false then (47, [])
  else if v < 0 ∨ p.v ≤ v ∨ cs.any badC = true then (2, [])
  else if cs.length ≠ (placesP p).length then (3, [])
  else (0, stepsTo p v cs (placesP p) (placesP p).length)
end Go.Proofs.YtpkefohcccpncaaGreatDoor
namespace Go.Proofs.YtpkefohcccpncaaGreatDoor
open Go.RowKit
set_option linter.unusedSimpArgs false
set_option linter.unusedVariables false

theorem infoArr2 : (Tryz.prog.info? 56).map (fun i => (i.zero, i.size, i.bytes)) = some (some (.agg #[.int .i64 0, .int .i64 0]), 2, 16) := by kernel_rfl
def PlsAt (w : World) (B : Nat) (A : Option Addr) (ps : List (Nat × Nat)) : Prop := Reads w B 2 A ps.length (plCells ps)
theorem PlsAt.at_ {w : World} {B : Nat} {A : Option Addr} {xs : List (Nat × Nat)} (h : PlsAt w B A xs) {k : Nat} (hk : k < xs.length) :
    ∃ ad, A = some ad ∧ ad.block < B ∧ w.cell? (ad.add (k * 2)) = some (.int .i64 (xs[k].1 : Int)) ∧ w.cell? ⟨(ad.add (k * 2)).block, (ad.add (k * 2)).off + 1, none⟩ = some (.int .i64 (xs[k].2 : Int)) := by
  obtain ⟨ad, e, hb, hc⟩ := h.2 (by omega)
  obtain ⟨h0, h1⟩ := plCells_get xs k hk
  refine ⟨ad, e, hb, hc _ _ h0, ?_⟩
  rw [← add_off ad _ 0]; exact hc _ _ h1
def PlacesPost (w : World) (ps : List (Nat × Nat)) (e : Ending) (w' : World) : Prop := ∃ A c, e = .returned (.slice A ps.length c) ∧ PlsAt w' w'.heap.size A ps ∧ Below w.heap.size w w'
set_option maxRecDepth 100000 in
set_option maxHeartbeats 4000000 in
theorem places_any (p : Prg) (A : Option Addr) (n c : Nat) (w : World) (hT : ThsAt w w.heap.size A p.ts) (hn : p.ts.length = n) (hg : GlobP w) (hok : PrgOk p) :
    Calls Tryz.prog 13 #[.agg #[.int .i64 p.v, .slice A n c]] w (PlacesPost w (placesP p)) := by
  have hn9 := hok.n
  rw [hn] at hn9
  have HOK := Lib.hid hok
  have HT := Lib.hid hT
  have HG := Lib.hid hg
  have HN := Lib.hid hn
  have CK : Hid (∀ o b, checkP p = b → Calls Tryz.prog 18 #[.agg #[.int .i64 p.v, .slice A n c]] (w.alloc o) fun e w' => e = .returned (.int .i64 (chkR b)) ∧ Below (w.alloc o).heap.size (w.alloc o) w') :=
    Lib.hid (fun o b hb => check_any p A n c (w.alloc o) (hT.up ((Below.refl _ _).alloc (Nat.le_refl _) o)) hn (hg.below ((Below.refl _ _).alloc (Nat.le_refl _) o)) hok b hb)
  clear hok hT hg hn
  rcases hb : checkP p with _ | _
  · have CK2 : Hid (∀ o, Calls Tryz.prog 18 #[.agg #[.int .i64 p.v, .slice A n c]] (w.alloc o) fun e w' => e = .returned (.int .i64 47) ∧ Below (w.alloc o).heap.size (w.alloc o) w') := Lib.hid (fun o => CK.out o false hb)
    have HF : Hid (placesP p = []) := Lib.hid (by unfold placesP; rw [hb]; rfl)
    clear hb CK
    generalize p.v = v at *
    go_enter Tryz.func13, Tryz.ntmps13
    go_wp2_with (go_at_call 18; go_must (refine (CK2.out _).mono ?_; rintro e w1 ⟨rfl, hb1⟩; (have HB1 := Lib.hid hb1); clear hb1))
    go_ret
    rw [HF.out]
    refine ⟨none, 0, rfl, Reads.none_, ((Below.refl _ _).alloc (Nat.le_refl _) _).trans (HB1.out.mono (by simp))⟩
  · have CK2 : Hid (∀ o, Calls Tryz.prog 18 #[.agg #[.int .i64 p.v, .slice A n c]] (w.alloc o) fun e w' => e = .returned (.int .i64 0) ∧ Below (w.alloc o).heap.size (w.alloc o) w') := Lib.hid (fun o => CK.out o true hb)
    have HF : Hid (placesP p = plsTo p.ts n) := Lib.hid (by unfold placesP; rw [if_pos hb, HN.out])
    have HL : Hid (∀ k, lenTo p.ts k ≤ 6) := Lib.hid (check_len hb)
    clear hb CK
    generalize hpv : p.v = v at *
    clear hpv
    go_enter Tryz.func13, Tryz.ntmps13
    go_wp2_with (go_at_call 18; go_must (refine (CK2.out _).mono ?_; rintro e w1 ⟨rfl, hb1⟩; (have hq1 : Blk w1 w.heap.size 28 #[.int .i64 v, .slice A n c] := (Blk.new w _ _).below hb1 (by simp)); (have q0 := hq1.cell 0); (have q1 := hq1.cell 1); (have z1 : w.heap.size < w1.heap.size := by have := hb1.size; simp at this; omega); (have HB1 := Lib.hid hb1); clear hb1))
    obtain ⟨i0, hi, hz0, hz1, hz2⟩ := info_parts infoArr2
    go_loopw [3, 14] (fun s3 i wr => ∃ k : Nat, k ≤ n ∧ i = .int .i64 k ∧ Hid (wr.ownsRow w1.heap.size 56 2 s3 (lenTo p.ts k) (plCells (plsTo p.ts k)) ∧ Below w1.heap.size w1 wr)) (fun _ i _ => n - (intOf i).toNat)
    case atStart => exact ⟨0, by omega, rfl, Lib.hid ⟨World.ownsRow_nil _ _ _ _, Below.refl _ _⟩⟩
    case round =>
      obtain ⟨wo, rfl⟩ : ∃ wo : World, wo = wr := ⟨_, rfl⟩
      obtain ⟨k, hk, rfl, HR⟩ := hrel
      obtain ⟨hown, hbw⟩ := HR.out
      have zwo : w1.heap.size ≤ wo.heap.size := hbw.size
      by_cases hlt : k < n
      · have hkp : k < p.ts.length := by rw [HN.out]; exact hlt
        obtain ⟨ad, LA, lc, rfl, hab, h0, h1, hL⟩ := (HT.out.below ((((Below.refl _ _).alloc (Nat.le_refl _) _).trans (HB1.out.mono (by simp))).trans (hbw.mono (by omega)))).at_ hkp
        have HLL := Lib.hid (lsLen_at hkp)
        have h6 := HL.out (k + 1)
        rw [lenTo] at h6
        have hl6 : lsLen p.ts k ≤ 6 := by omega
        generalize ht : p.ts[k]'hkp = t at *
        obtain ⟨nm, ls⟩ := t
        dsimp only at *
        obtain ⟨ln, hln⟩ : ∃ ln, lsLen p.ts k = ln := ⟨_, rfl⟩
        rw [← HLL.out] at h1
        rw [hln] at h1 hl6 h6
        have HLN := Lib.hid hln
        have HOWN := Lib.hid hown
        have HBW := Lib.hid hbw
        clear hln hown hbw ht hL
        go_wp2
        go_loopw [3, 22] (fun s3 i wr => ∃ j : Nat, j ≤ ln ∧ i = .int .i64 j ∧ Hid (wr.ownsRow w1.heap.size 56 2 s3 (lenTo p.ts k + j) (plCells (plsTo p.ts k ++ plsOf k j)) ∧ Below w1.heap.size w1 wr)) (fun _ i _ => ln - (intOf i).toNat)
        case atStart =>
          exact ⟨0, by omega, rfl, Lib.hid ⟨by simpa [plsOf] using HOWN.out.alloc _, HBW.out.alloc (by omega) _⟩⟩
        case round =>
          clear h0 h1 q0 q1
          obtain ⟨j, hj, rfl, HR2⟩ := hrel
          obtain ⟨hown, hbw⟩ := HR2.out
          have zwr : w1.heap.size ≤ wr.heap.size := hbw.size
          have HO2 := Lib.hid hown
          have HB2 := Lib.hid hbw
          clear hown hbw
          by_cases hjl : j < ln
          · go_wp2_with (at_builtin; go_must (refine wpList_append_own _ rfl _ _ 47 rfl w1.heap.size 56 i0 _ 2 16 Tryz.underlying47 hi hz0 hz1 hz2 rfl (by decide) _ _ _ rfl (HO2.out.alloc _) ⟨wr.heap.size, 0, none⟩ 1 1 [.int .i64 (k : Int), .int .i64 (j : Int)] rfl rfl (cells_new_list wr _ _) (by simp [Value.oneCell']) (by unfold maxLen; omega) (by omega) (by simp; omega) ?_; intro v7 w7 hown7 hgr7 _; obtain ⟨A7, c7, rfl⟩ := own_form hown7; (have HO7 := Lib.hid hown7); (have HG7 := Lib.hid hgr7); clear hown7 hgr7))
            have HREL : Hid (w7.ownsRow w1.heap.size 56 2 (.slice A7 (lenTo p.ts k + j + 1) c7) (lenTo p.ts k + (j + 1)) (plCells (plsTo p.ts k ++ plsOf k (j + 1))) ∧ Below w1.heap.size w1 w7) := Lib.hid (by
              refine ⟨?_, below_own (HB2.out.alloc (by omega) _) (HO2.out.alloc _) HG7.out (by simp; omega)⟩
              have := HO7.out
              rw [plsOf_succ, ← List.append_assoc, plCells_append]
              exact this)
            go_roundw
            case rel => exact ⟨j + 1, by omega, by go_num, HREL⟩
            case measure => simp [intOf]; omega
          · obtain rfl : j = ln := by omega
            have HREL : Hid (∀ s, wr.ownsRow w1.heap.size 56 2 s (lenTo p.ts k + j) (plCells (plsTo p.ts k ++ plsOf k j)) → wr.ownsRow w1.heap.size 56 2 s (lenTo p.ts (k + 1)) (plCells (plsTo p.ts (k + 1)))) := Lib.hid (fun s h => by
              rw [lenTo, plsTo, HLN.out]; exact h)
            go_wp2
            go_roundw
            case rel => exact ⟨k + 1, by omega, by go_num, Lib.hid ⟨HREL.out _ HO2.out, HB2.out⟩⟩
            case measure => simp [intOf]; omega
      · obtain rfl : k = n := by omega
        obtain ⟨A3, c3, rfl⟩ := own_form hown
        have HOWN := Lib.hid hown
        have HBW := Lib.hid hbw
        clear hown hbw
        go_wp2
        go_ret
        rw [HF.out]
        refine ⟨A3, c3, (by rw [plsTo_length]; rfl), ?_, (((Below.refl _ _).alloc (Nat.le_refl _) _).trans (HB1.out.mono (by simp))).trans (HBW.out.mono (by omega))⟩
        have := HOWN.out
        rw [← plsTo_length] at this
        exact Reads.of_own this
end Go.Proofs.YtpkefohcccpncaaGreatDoor
namespace Go.Proofs.YtpkefohcccpncaaGreatDoor
open Go.RowKit
set_option linter.unusedSimpArgs false
set_option linter.unusedVariables false

theorem own_down {w : World} {B B' e size n : Nat} {v : Value} {xs : List Value} (h : w.ownsRow B' e size v n xs) (hb : B ≤ B') : w.ownsRow B e size v n xs := by
  refine ⟨h.1, ?_⟩
  rcases h.2 with h2 | ⟨g, cap, cur, h1, h2, h3⟩
  · exact .inl h2
  · exact .inr ⟨g, cap, cur, h1, Nat.le_trans hb h2, h3⟩
theorem infoInt : (Tryz.prog.info? 3).map (fun i => (i.zero, i.size, i.bytes)) = some (some (.int .i64 0), 1, 8) := by kernel_rfl
def intVs (cs : List Int) : List Value := cs.map (Value.int .i64)
def IsAt (w : World) (B : Nat) (A : Option Addr) (cs : List Int) : Prop := Reads w B 1 A cs.length (intVs cs)
theorem IsAt.at_ {w : World} {B : Nat} {A : Option Addr} {cs : List Int} (h : IsAt w B A cs) {k : Nat} (hk : k < cs.length) : ∃ ad, A = some ad ∧ ad.block < B ∧ w.cell? (ad.add k) = some (.int .i64 cs[k]) := by
  obtain ⟨ad, u, e, hb, hu, hc⟩ := Reads.at_ h hk
  refine ⟨ad, e, hb, ?_⟩
  rw [intVs, List.getElem?_map, List.getElem?_eq_getElem hk] at hu
  rw [hc, ← hu]; rfl
def startC (n : Nat) : List Int := 1 :: List.replicate (n - 1) 0
theorem startC_length {n : Nat} (h : 0 < n) : (startC n).length = n := by simp [startC]; omega
theorem startC_set {n : Nat} (h : 0 < n) : (List.replicate n (Value.int .i64 0)).set 0 (.int .i64 1) = intVs (startC n) := by
  obtain ⟨m, rfl⟩ : ∃ m, n = m + 1 := ⟨n - 1, by omega⟩
  simp [intVs, startC, List.replicate_succ]
def IntsPost (w : World) (cs : List Int) (e : Ending) (w' : World) : Prop := ∃ A c, e = .returned (.slice A cs.length c) ∧ IsAt w' w'.heap.size A cs ∧ Below w.heap.size w w'
def BeginPost (w : World) (cs : List Int) (e : Ending) (w' : World) : Prop := ∃ A c, e = .returned (.tuple #[.int .i64 0, .slice A cs.length c, .int .i64 0]) ∧ IsAt w' w'.heap.size A cs ∧ Below w.heap.size w w'
/-- the counts lie in a row of the call's own -/
def BeginOwn (w : World) (cs : List Int) (e : Ending) (w' : World) : Prop := ∃ A c, e = .returned (.tuple #[.int .i64 0, .slice A cs.length c, .int .i64 0]) ∧ w'.ownsRow w.heap.size 3 1 (.slice A cs.length c) cs.length (intVs cs) ∧ Below w.heap.size w w'
theorem BeginOwn.post {w : World} {cs : List Int} {e : Ending} {w' : World} (h : BeginOwn w cs e w') : BeginPost w cs e w' := by
  obtain ⟨A, c, he, ho, hb⟩ := h
  exact ⟨A, c, he, Reads.of_own ho, hb⟩
set_option maxRecDepth 100000 in
set_option maxHeartbeats 4000000 in
theorem begin_own (p : Prg) (A : Option Addr) (n c : Nat) (w : World) (hT : ThsAt w w.heap.size A p.ts) (hn : p.ts.length = n) (hg : GlobP w) (hok : PrgOk p) (hb : checkP p = true) :
    Calls Tryz.prog 9 #[.agg #[.int .i64 p.v, .slice A n c]] w (BeginOwn w (startC (placesP p).length)) := by
  have CK : Hid (∀ o, Calls Tryz.prog 18 #[.agg #[.int .i64 p.v, .slice A n c]] (w.alloc o) fun e w' => e = .returned (.int .i64 0) ∧ Below (w.alloc o).heap.size (w.alloc o) w') :=
    Lib.hid (fun o => check_any p A n c (w.alloc o) (hT.up ((Below.refl _ _).alloc (Nat.le_refl _) o)) hn (hg.below ((Below.refl _ _).alloc (Nat.le_refl _) o)) hok true hb)
  have PL : Hid (∀ W, Below w.heap.size w W → Calls Tryz.prog 13 #[.agg #[.int .i64 p.v, .slice A n c]] W (PlacesPost W (placesP p))) :=
    Lib.hid (fun W h => places_any p A n c W (hT.up h) hn (hg.below h) hok)
  have h6 := placesP_le p
  have h0 := placesP_pos p hb
  clear hT hn hg hok hb
  obtain ⟨v, hv⟩ : ∃ v, p.v = v := ⟨_, rfl⟩
  rw [hv] at CK PL ⊢
  clear hv
  generalize placesP p = ps at *
  obtain ⟨m, hm⟩ : ∃ m, ps.length = m := ⟨_, rfl⟩
  rw [hm] at h6 h0 ⊢
  have HM := Lib.hid hm
  clear hm
  obtain ⟨i0, hi, hz0, hz1, hz2⟩ := info_parts infoInt
  have hz2' : i0.bytes * m ≤ 281474976710656 := by rw [hz2]; omega
  have HZ := Lib.hid hz2'
  have HZ1 := Lib.hid hz1
  have HZ0 := Lib.hid hz0
  have HI0 := Lib.hid hi
  clear hz2' hz2 hz1 hz0 hi
  have hm9 : m ≤ maxLen := by unfold maxLen; omega
  have HM9 := Lib.hid hm9
  clear hm9
  go_enter Tryz.func9, Tryz.ntmps9
  go_wp2_with (first
    | (go_at_call 18; go_must (refine (CK.out _).mono ?_; rintro e w1 ⟨rfl, hb1⟩; (have hq1 : Blk w1 w.heap.size 28 #[.int .i64 v, .slice A n c] := (Blk.new w _ _).below hb1 (by simp)); (have q0 := hq1.cell 0); (have q1 := hq1.cell 1); (have z1 : w.heap.size < w1.heap.size := by have := hb1.size; simp at this; omega); (have HB1 : Hid (Below w.heap.size w w1) := Lib.hid (((Below.refl _ _).alloc (Nat.le_refl _) _).trans (hb1.mono (by simp)))); clear hb1 hq1))
    | (go_at_call 13; go_must (refine (PL.out _ HB1.out).mono ?_; rintro e w2 ⟨PA, pc, rfl, _, hb2⟩; (rw [HM.out]); (have z2 : w1.heap.size ≤ w2.heap.size := hb2.size); (have HB2 := Lib.hid (HB1.out.trans (hb2.mono (by omega)))); clear hb2))
    | (at_make; go_must (refine wpList_make_full _ rfl _ _ 30 rfl w2.heap.size 3 i0 (.int .i64 0) 1 Tryz.underlying30 HI0.out HZ0.out HZ1.out .i64 .i64 m m m rfl rfl rfl rfl HZ.out HM9.out (Nat.le_refl _) ?_; intro w3 hown3 hgr3; (replace hown3 : w3.ownsRow w2.heap.size 3 1 (.slice (some ⟨w2.heap.size, 0, none⟩) m m) m (List.replicate m (.int .i64 0)) := by (rw [← toList_madeCells_one]; rw [Nat.mul_one] at hown3; exact hown3)); (have c0 : w3.cell? ⟨w2.heap.size, 0, none⟩ = some (.int .i64 0) := (hown3.cellAt 0 (by omega)).trans (by rw [List.getElem?_replicate, if_pos h0])); (have f0 := hown3.frozenAt 0); (have z3 : w2.heap.size < w3.heap.size := (hown3.lt _ rfl).2); (have HO3 := Lib.hid hown3); (have HG3 := Lib.hid hgr3); clear hown3 hgr3)))
  go_ret3
  have hl := startC_length h0
  have hs := (HO3.out.stored 0 (.int .i64 1)).1
  rw [startC_set h0] at hs
  refine ⟨some ⟨w2.heap.size, 0, none⟩, m, (by rw [hl]; rfl), ?_, (HB2.out.grown HG3.out HB2.out.size (fun k hk => by cases hk)).setCell (p := ⟨w2.heap.size, 0, none⟩) (by have := HB2.out.size; exact this) _⟩
  rw [hl]
  exact own_down hs HB2.out.size
theorem begin_ok (p : Prg) (A : Option Addr) (n c : Nat) (w : World) (hT : ThsAt w w.heap.size A p.ts) (hn : p.ts.length = n) (hg : GlobP w) (hok : PrgOk p) (hb : checkP p = true) :
    Calls Tryz.prog 9 #[.agg #[.int .i64 p.v, .slice A n c]] w (BeginPost w (startC (placesP p).length)) := (begin_own p A n c w hT hn hg hok hb).mono fun _ _ h => h.post

theorem steps1_any (n : Int) (w : World) (b : Bool) (hb : badC n = b) : Calls Tryz.prog 33 #[.int .i64 n] w fun e w' => e = .returned (.bool b) ∧ w = w' := by
  have HB := Lib.hid hb
  clear hb
  by_cases h1 : n < 0
  · have d1 : decide (n < 0) = true := decide_eq_true h1
    have HF : Hid (b = true) := Lib.hid (by rw [← HB.out, badC, d1]; rfl)
    go_enter Tryz.func33, Tryz.ntmps33
    go_wp2
    go_ret
    exact ⟨ret_bool HF.out.symm, rfl⟩
  · have d1 : decide (n < 0) = false := decide_eq_false h1
    by_cases h2 : 1048576 < n
    · have d2 : decide (1048576 < n) = true := decide_eq_true h2
      have HF : Hid (b = true) := Lib.hid (by rw [← HB.out, badC, d1, d2]; rfl)
      go_enter Tryz.func33, Tryz.ntmps33
      go_wp2
      go_ret
      exact ⟨ret_bool HF.out.symm, rfl⟩
    · have d2 : decide (1048576 < n) = false := decide_eq_false h2
      have HF : Hid (b = false) := Lib.hid (by rw [← HB.out, badC, d1, d2]; rfl)
      go_enter Tryz.func33, Tryz.ntmps33
      go_wp2
      go_ret
      exact ⟨ret_bool HF.out.symm, rfl⟩
def IdxIPost (w : World) (cs : List Int) (e : Ending) (w' : World) : Prop := ∃ r : Int, -1 ≤ r ∧ e = .returned (.int .i64 r) ∧ decide (0 ≤ r) = cs.any badC ∧ w = w'
set_option maxHeartbeats 1000000 in
theorem idxInt_any (A : Option Addr) (n c : Nat) (cs : List Int) (w : World) (B : Nat) (h : IsAt w B A cs) (hn : cs.length = n) (h9 : n ≤ 9223372036854775807) :
    Calls Tryz.prog 60 #[.slice A n c, .func (.func 33) #[] #[]] w (IdxIPost w cs) := by
  have H := Lib.hid h
  have HN := Lib.hid hn
  clear h hn
  go_enter Tryz.func60, Tryz.ntmps60
  go_wp2
  go_loop [8] (fun i => ∃ k : Nat, k ≤ n ∧ i = .int .i64 k ∧ Hid ((cs.take k).any badC = false)) (fun i => n - (intOf i).toNat)
  case atStart => exact ⟨0, by omega, rfl, Lib.hid rfl⟩
  case round =>
    obtain ⟨k, hk, rfl, HR⟩ := hrel
    by_cases hlt : k < n
    · have hkp : k < cs.length := by rw [HN.out]; exact hlt
      obtain ⟨ad, rfl, hab, h0⟩ := H.out.at_ hkp
      have HT := Lib.hid (List.take_succ_eq_append_getElem hkp)
      have HM := Lib.hid (List.getElem_mem hkp)
      generalize cs[k]'hkp = x at *
      obtain ⟨b, hb⟩ : ∃ b, badC x = b := ⟨_, rfl⟩
      have S1 : Hid (∀ W, Calls Tryz.prog 33 #[.int .i64 x] W fun e w' => e = .returned (.bool b) ∧ W = w') := Lib.hid (fun W => steps1_any x W b hb)
      have HB := Lib.hid hb
      clear hb
      cases b
      · go_wp2_with (go_at_call 33; go_must (refine (S1.out _).mono ?_; rintro e w' ⟨rfl, rfl⟩))
        go_round
        case rel => exact ⟨k + 1, by omega, by go_num, Lib.hid (by rw [HT.out, List.any_append, HR.out]; simp [HB.out])⟩
        case measure => simp [intOf]; omega
      · go_wp2_with (go_at_call 33; go_must (refine (S1.out _).mono ?_; rintro e w' ⟨rfl, rfl⟩))
        go_ret
        refine ⟨k, by omega, rfl, ?_, rfl⟩
        rw [decide_eq_true (by omega)]
        exact (List.any_eq_true.2 ⟨x, HM.out, HB.out⟩).symm
    · obtain rfl : k = n := by omega
      go_wp2
      go_ret
      refine ⟨-1, by omega, rfl, ?_, rfl⟩
      have := HR.out
      rw [List.take_of_length_le (by rw [HN.out]; exact Nat.le_refl _)] at this
      rw [this]; rfl
theorem contInt_any (A : Option Addr) (n c : Nat) (cs : List Int) (w : World) (B : Nat) (h : IsAt w B A cs) (hn : cs.length = n) (h9 : n ≤ 9223372036854775807) (b : Bool) (hb : cs.any badC = b) :
    Calls Tryz.prog 32 #[.slice A n c, .func (.func 33) #[] #[]] w fun e w' => e = .returned (.bool b) ∧ w = w' := by
  have IX := Lib.hid (idxInt_any A n c cs w B h hn h9)
  have HB := Lib.hid hb
  clear h hn hb
  go_enter Tryz.func32, Tryz.ntmps32
  go_wp2_with (go_at_call 60; go_must (refine (IX.out).mono ?_; rintro e w' ⟨r, hr1, rfl, hr, rfl⟩; (have HR := Lib.hid hr); clear hr))
  all_goals
    go_ret
    exact ⟨ret_bool (by rw [← HB.out, ← HR.out]), rfl⟩

def BothPost (w : World) (xs : List Int) (e : Ending) (w' : World) : Prop := ∃ A c, e = .returned (.slice A xs.length c) ∧ IsAt w' w'.heap.size A xs ∧ Below w.heap.size w w'
theorem isAt_new (w : World) (xs : List Int) (B : Nat) (hB : w.heap.size < B) : IsAt (w.alloc (.cells (intVs xs).toArray 3)) B (some ⟨w.heap.size, 0, none⟩) xs := by
  refine ⟨by simp [intVs], fun _ => ⟨_, rfl, hB, fun j u hu => ?_⟩⟩
  exact cells_new_list w 3 (intVs xs) j u hu
theorem both_any (a b : Int) (w : World) : Calls Tryz.prog 61 #[.int .i64 a, .int .i64 b] w (BothPost w (bothL a b)) := by
  by_cases h1 : a = b
  · subst h1
    have HF : Hid (bothL a a = [a]) := Lib.hid (by simp [bothL])
    have c1 : (a == a) = true := by simp
    go_enter Tryz.func61, Tryz.ntmps61
    go_wp2
    go_ret
    rw [HF.out]
    exact ⟨some ⟨w.heap.size, 0, none⟩, 1, rfl, isAt_new w [a] _ (by simp), (Below.refl _ _).alloc (Nat.le_refl _) _⟩
  · have c1 : (a == b) = false := by simpa using h1
    by_cases h2 : 0 ≤ b
    · have d1 : decide (0 ≤ b) = true := decide_eq_true h2
      by_cases h3 : b < a
      · have d2 : decide (b < a) = true := decide_eq_true h3
        have HF : Hid (bothL a b = [b, a]) := Lib.hid (by simp [bothL, h1, h2, h3])
        clear h1
        go_enter Tryz.func61, Tryz.ntmps61
        go_wp2
        go_ret
        rw [HF.out]
        exact ⟨some ⟨w.heap.size, 0, none⟩, 2, rfl, isAt_new w [b, a] _ (by simp), (Below.refl _ _).alloc (Nat.le_refl _) _⟩
      · have d2 : decide (b < a) = false := decide_eq_false h3
        have HF : Hid (bothL a b = [a, b]) := Lib.hid (by simp [bothL, h1, h2, h3])
        clear h1
        go_enter Tryz.func61, Tryz.ntmps61
        go_wp2
        go_ret
        rw [HF.out]
        exact ⟨some ⟨w.heap.size, 0, none⟩, 2, rfl, isAt_new w [a, b] _ (by simp), (Below.refl _ _).alloc (Nat.le_refl _) _⟩
    · have d1 : decide (0 ≤ b) = false := decide_eq_false h2
      have HF : Hid (bothL a b = [a, b]) := Lib.hid (by simp [bothL, h1, h2])
      clear h1
      go_enter Tryz.func61, Tryz.ntmps61
      go_wp2
      go_ret
      rw [HF.out]
      exact ⟨some ⟨w.heap.size, 0, none⟩, 2, rfl, isAt_new w [a, b] _ (by simp), (Below.refl _ _).alloc (Nat.le_refl _) _⟩
end Go.Proofs.YtpkefohcccpncaaGreatDoor
