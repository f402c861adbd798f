/- tree.search: into. tree.search: place. -/
import Derived.Test.YtlmnkcfnihhlgaaGreatDoorNumA
namespace Go.Proofs.YtlmnkcfnihhlgaaGreatDoor
open Go.RowKit
set_option linter.unusedSimpArgs false
set_option linter.unusedVariables false

def natInts (l : List Nat) : List Int := l.map fun (x : Nat) => (x : Int)
/-- a slice of slices of numbers -/
def ToAt (w : World) (S : Nat → Prop) (v : Value) (tl : List (List Nat)) : Prop :=
  ∃ A n c, v = .slice A n c ∧ tl.length = n ∧ n ≤ c ∧ c ≤ maxLen ∧ (0 < n → ∃ ad, A = some ad ∧ S ad.block ∧ ∀ k (h : k < tl.length), ∃ s, w.cell? (ad.add k) = some s ∧ IAt w S s (natInts tl[k]))
theorem ToAt.keep {w w' : World} {S S' : Nat → Prop} {v : Value} {tl : List (List Nat)} (h : ToAt w S v tl) (hS : ∀ b, S b → S' b) (hk : ∀ p : Addr, S p.block → w'.cell? p = w.cell? p) : ToAt w' S' v tl := by
  obtain ⟨A, n, c, h1, h2, h3, h4, h5⟩ := h
  refine ⟨A, n, c, h1, h2, h3, h4, fun hn => ?_⟩
  obtain ⟨ad, e, hs, hc⟩ := h5 hn
  refine ⟨ad, e, hS _ hs, fun k h => ?_⟩
  obtain ⟨s, q, hi⟩ := hc k h
  exact ⟨s, (hk _ (by rw [add_block]; exact hs)).trans q, hi.keep hS hk⟩
theorem ToAt.form {w : World} {S : Nat → Prop} {v : Value} {l : List (List Nat)} (h : ToAt w S v l) : ∃ A n c, v = .slice A n c ∧ l.length = n ∧ n ≤ 9223372036854775807 := by
  obtain ⟨A, n, c, h1, h2, h3, h4, _⟩ := h
  unfold maxLen at h4
  exact ⟨A, n, c, h1, h2, by omega⟩
theorem ToAt.at_ {w : World} {S : Nat → Prop} {A : Option Addr} {n c : Nat} {l : List (List Nat)} (h : ToAt w S (.slice A n c) l) {k : Nat} (hk : k < l.length) : ∃ ad A' n' c', A = some ad ∧ S ad.block ∧ w.cell? (ad.add k) = some (.slice A' n' c') ∧ l[k].length = n' ∧ n' ≤ 9223372036854775807 ∧ IAt w S (.slice A' n' c') (natInts l[k]) := by
  obtain ⟨A', n', c', e, h2, h3, h4, h5⟩ := h
  injection e with e1 e2 e3
  subst e1 e2 e3
  obtain ⟨ad, e, h6, h7⟩ := h5 (by omega)
  obtain ⟨s, h8, h9⟩ := h7 k hk
  obtain ⟨A2, n2, c2, e', g2, g3⟩ := h9.form'
  subst e'
  exact ⟨ad, A2, n2, c2, e, h6, h8, by simpa [natInts] using g2, g3, h9⟩
/-- the search's block, the nodes of both trees, what is known of where they go -/
structure SrcI (w : World) (B g : Nat) (a b : V) (av bv tov : Value) (tl : List (List Nat)) : Prop where
  blk : Blk w g 141 #[av, bv, tov]
  na : NB w B av (nodesP a)
  nb : NB w B bv (nodesP b)
  to : ToAt w (· < B) tov tl
  len : tl.length = a.size
  gB : g < B
  hs : B ≤ w.heap.size
theorem SrcI.keep {w w' : World} {B g : Nat} {a b : V} {av bv tov : Value} {tl : List (List Nat)} (h : SrcI w B g a b av bv tov tl) (k : Bw w w') : SrcI w' B g a b av bv tov tl :=
  ⟨h.blk.below k.b h.blk.lt, h.na.keep (fun _ h => h) (fun p hp => k.b.cell (Nat.lt_of_lt_of_le hp h.hs)), h.nb.keep (fun _ h => h) (fun p hp => k.b.cell (Nat.lt_of_lt_of_le hp h.hs)), h.to.keep (fun _ h => h) (fun p hp => k.b.cell (Nat.lt_of_lt_of_le hp h.hs)), h.len, h.gB, Nat.le_trans h.hs k.size⟩
theorem nodesP_length (t : V) : (nodesP t).length = t.size := by rw [nodesP, numL_length, subs_length]
theorem nodesP_get {t : V} {i : Nat} (h : i < (nodesP t).length) (h' : i < (subs t).length) : (nodesP t)[i] = ndOf i (subs t)[i] := by
  have := numL_get 0 (subs t) i h' h
  rw [Nat.zero_add] at this
  exact this
def inR (j e : Nat) (x : Int) : Bool := decide ((j : Int) ≤ x) && decide (x < (e : Int))
set_option maxRecDepth 100000 in
set_option maxHeartbeats 4000000 in
theorem tinto1_any {B g : Nat} {a b : V} {av bv tov : Value} {tl : List (List Nat)} (w : World) (hI : SrcI w B g a b av bv tov tl) (j : Nat) (hj : j < b.size) (x : Int) (bj bs : Nat) (h1 : w.cell? ⟨bj, 0, none⟩ = some (.int .i64 (j : Int))) (h2 : w.cell? ⟨bs, 0, none⟩ = some (.pointer (some ⟨g, 0, none⟩))) (e : Nat) (he : ∃ (h : j < (subs b).length), e = j + (subs b)[j].size) :
    Calls Tryz.prog 218 (#[.int .i64 x] ++ #[.pointer (some ⟨bj, 0, none⟩), .pointer (some ⟨bs, 0, none⟩)]) w (BoolPost w (inR j e x)) := by
  have hjl : j < (nodesP b).length := by rw [nodesP_length]; exact hj
  obtain ⟨BA, bn, bc, rfl, lb, b1, b2⟩ := hI.nb.form
  unfold maxLen at b2
  obtain ⟨ad, sA, sn, sc, rfl, hb, q0, q1, q2, _⟩ := hI.nb.at_ hjl
  obtain ⟨hjs, rfl⟩ := he
  rw [nodesP_get hjl hjs] at q1
  simp only [ndOf] at q1
  have c1 := hI.blk.cell 1
  have d3 : j < bn := by omega
  unfold inR
  clear hI hb q0 q2
  generalize hz : j + (subs b)[j].size = z at *
  clear hz
  by_cases hx : (j : Int) ≤ x
  · have d1 : decide ((j : Int) ≤ x) = true := by simpa using hx
    have HF : Hid ((decide ((j : Int) ≤ x) && decide (x < (z : Int))) = decide (x < (z : Int))) := Lib.hid (by rw [d1]; rfl)
    go_enter Tryz.func218, Tryz.ntmps218
    go_wp2_with fail
    go_quiet (fail)
    go_wp2
    go_ret
    exact ⟨ret_bool (by first | rfl | exact HF.out.symm), (Bw.refl _).drewN _⟩
  · have d1 : decide ((j : Int) ≤ x) = false := by simpa using hx
    have HF : Hid ((decide ((j : Int) ≤ x) && decide (x < (z : Int))) = false) := Lib.hid (by rw [d1]; rfl)
    go_enter Tryz.func218, Tryz.ntmps218
    go_wp2_with fail
    go_quiet (fail)
    go_wp2
    go_ret
    exact ⟨ret_bool (by first | rfl | exact HF.out.symm), (Bw.refl _).drewN _⟩
theorem idxP_skip {α : Type} {p : α → Bool} {x : α} {l : List α} (h : p x = false) : idxP p (x :: l) = if idxP p l = -1 then -1 else idxP p l + 1 := by
  unfold idxP
  by_cases hl : l.any p = true
  · have h1 : (x :: l).any p = true := by rw [List.any_cons, hl]; simp
    rw [if_pos hl, if_pos h1, if_neg (by omega), List.findIdx_cons, h]
    simp
  · have h1 : ¬ (x :: l).any p = true := by rw [List.any_cons, h]; simpa using hl
    rw [if_neg hl, if_neg h1, if_pos rfl]
/-- the first place, and the number there -/
theorem into_find (a b : V) (i j : Nat) (hj : j < (subs b).length) : (idxP (inR j (j + (subs b)[j].size)) (natInts (toP a b i)) = -1 ∧ intoP a b i j = -1) ∨
    ∃ k, ∃ (hk : k < (toP a b i).length), idxP (inR j (j + (subs b)[j].size)) (natInts (toP a b i)) = (k : Int) ∧ intoP a b i j = ((toP a b i)[k] : Int) := by
  have hp : ∀ q : Nat, inR j (j + (subs b)[j].size) (q : Int) = (decide (j ≤ q) && decide (q < j + (subs b)[j].size)) := fun q => by
    unfold inR; rw [Bool.eq_iff_iff]; simp; omega
  have key : ∀ l : List Nat, (idxP (inR j (j + (subs b)[j].size)) (natInts l) = -1 ∧ (l.find? fun q => decide (j ≤ q) && decide (q < j + (subs b)[j].size)) = none) ∨
      ∃ k, ∃ (hk : k < l.length), idxP (inR j (j + (subs b)[j].size)) (natInts l) = (k : Int) ∧ (l.find? fun q => decide (j ≤ q) && decide (q < j + (subs b)[j].size)) = some l[k] := by
    intro l
    induction l with
    | nil => left; exact ⟨by simp [idxP, natInts], rfl⟩
    | cons x r ih =>
      by_cases hx : (decide (j ≤ x) && decide (x < j + (subs b)[j].size)) = true
      · right
        refine ⟨0, by simp, idxP_hit (by simp [natInts]) (by simp only [natInts, List.map_cons, List.getElem_cons_zero]; rw [hp]; exact hx) (fun j hj => by omega), ?_⟩
        simp only [List.find?_cons, hx]; rfl
      · have hx' : inR j (j + (subs b)[j].size) (x : Int) = false := by rw [hp]; simpa using hx
        have hx2 : (decide (j ≤ x) && decide (x < j + (subs b)[j].size)) = false := by simpa using hx
        simp only [List.find?_cons, hx2]
        rcases ih with ⟨h1, h2⟩ | ⟨k, hk, h1, h2⟩
        · left
          refine ⟨?_, h2⟩
          show idxP _ ((x : Int) :: natInts r) = -1
          rw [idxP_skip hx', h1]; rfl
        · right
          refine ⟨k + 1, by simp; omega, ?_, by rw [h2]; rfl⟩
          show idxP _ ((x : Int) :: natInts r) = _
          rw [idxP_skip hx', h1, if_neg (by omega)]
          push_cast; rfl
  unfold intoP
  rw [List.getElem?_eq_getElem hj]
  rcases key (toP a b i) with ⟨h1, h2⟩ | ⟨k, hk, h1, h2⟩
  · left; exact ⟨h1, by simp only [h2]⟩
  · right; exact ⟨k, hk, h1, by simp only [h2]⟩

set_option maxRecDepth 100000 in
set_option maxHeartbeats 4000000 in
theorem tinto_any {B g : Nat} {a b : V} {av bv tov : Value} {tl : List (List Nat)} (w : World) (hI : SrcI w B g a b av bv tov tl) (i j : Nat) (hi : i < a.size) (hj : j < b.size) (hT : tl[i]? = some (toP a b i)) :
    Calls Tryz.prog 203 #[.pointer (some ⟨g, 0, none⟩), .int .i64 (i : Int), .int .i64 (j : Int)] w (NumPost w (intoP a b i j)) := by
  have hjs : j < (subs b).length := by rw [subs_length]; exact hj
  have hil : i < tl.length := by rw [hI.len]; exact hi
  obtain ⟨TA, tn, tc, rfl, lt, mt⟩ := hI.to.form
  obtain ⟨ad, RA, rn, rc, rfl, hb, q0, lr, mr, hR⟩ := hI.to.at_ hil
  have he : tl[i] = toP a b i := by rw [List.getElem?_eq_getElem hil] at hT; exact Option.some.inj hT
  rw [he] at lr hR
  have c2 := hI.blk.cell 2
  have z1 := hI.blk.lt
  have d1 : i < tn := by omega
  have hs := hI.hs
  have hgB := hI.gB
  have hbb : ad.block < w.heap.size := by omega
  have HI := Lib.hid hI
  have HB : Hid (Bw w ((w.alloc (.cells #[.pointer (some ⟨g, 0, none⟩)] 137)).alloc (.cells #[.int .i64 (j : Int)] 3)) ∧ Blk ((w.alloc (.cells #[.pointer (some ⟨g, 0, none⟩)] 137)).alloc (.cells #[.int .i64 (j : Int)] 3)) w.heap.size 137 #[.pointer (some ⟨g, 0, none⟩)] ∧ Blk ((w.alloc (.cells #[.pointer (some ⟨g, 0, none⟩)] 137)).alloc (.cells #[.int .i64 (j : Int)] 3)) (w.heap.size + 1) 3 #[.int .i64 (j : Int)]) := Lib.hid
    ⟨((Bw.refl _).alloc _).alloc _, (Blk.new _ _ _).alloc _, by have := Blk.new (w.alloc (.cells #[.pointer (some ⟨g, 0, none⟩)] 137)) 3 #[.int .i64 (j : Int)]; simpa only [World.size_alloc] using this⟩
  have IX : Hid (Calls Tryz.prog 131 #[.slice RA rn rc, .func (.func 218) #[] #[.pointer (some ⟨w.heap.size + 1, 0, none⟩), .pointer (some ⟨w.heap.size, 0, none⟩)]] ((w.alloc (.cells #[.pointer (some ⟨g, 0, none⟩)] 137)).alloc (.cells #[.int .i64 (j : Int)] 3)) (NumPost ((w.alloc (.cells #[.pointer (some ⟨g, 0, none⟩)] 137)).alloc (.cells #[.int .i64 (j : Int)] 3)) (idxP (inR j (j + (subs b)[j].size)) (natInts (toP a b i))))) := Lib.hid (by
    obtain ⟨h0, h1, h2⟩ := HB.out
    exact idxInt_any _ (inR j (j + (subs b)[j].size)) 218 _ (enters_of Tryz.func218 (by kernel_rfl) rfl) _ _ ((hR.more hs).bw h0) (fun v _ _ W hg _ => tinto1_any W (HI.out.keep (h0.trans hg)) j hj v _ _ ((h2.below hg.b h2.lt).cell 0) ((h1.below hg.b h1.lt).cell 0) _ ⟨hjs, rfl⟩))
  have HF := Lib.hid (into_find a b i j hjs)
  have HRR := Lib.hid hR
  have HKS : Hid (∀ W, Bw ((w.alloc (.cells #[.pointer (some ⟨g, 0, none⟩)] 137)).alloc (.cells #[.int .i64 (j : Int)] 3)) W → w.heap.size < W.heap.size ∧ W.cell? ⟨w.heap.size, 0, none⟩ = some (.pointer (some ⟨g, 0, none⟩)) ∧ W.cell? ⟨g, 2, none⟩ = some (.slice (some ad) tn tc) ∧ W.cell? (ad.add i) = some (.slice RA rn rc) ∧ Hid (Bw w W)) := Lib.hid (fun W k => by
    obtain ⟨h0, h1, h2⟩ := HB.out
    have h3 := h0.trans k
    exact ⟨(h1.below k.b h1.lt).lt, (h1.below k.b h1.lt).cell 0, (h3.b.cell (p := ⟨g, 2, none⟩) z1).trans c2, (h3.b.cell (by rw [add_block]; exact hbb)).trans q0, h3⟩)
  have HBW : Hid (Bw w ((w.alloc (.cells #[.pointer (some ⟨g, 0, none⟩)] 137)).alloc (.cells #[.int .i64 (j : Int)] 3))) := Lib.hid HB.out.1
  obtain ⟨_, _, p1, p2, _⟩ := HKS.out _ (Bw.refl _)
  clear hI hR hb he hT HB lt
  generalize hix : idxP (inR j (j + (subs b)[j].size)) (natInts (toP a b i)) = ix at *
  generalize hip : intoP a b i j = ip at *
  clear hix hip
  rcases HF.out with ⟨rfl, rfl⟩ | ⟨k, hk, rfl, rfl⟩
  · clear HF
    go_enter Tryz.func203, Tryz.ntmps203
    go_wp2_with (go_at_call 131; go_must (refine IX.out.mono ?_; rintro e w6 ⟨rfl, hg6⟩; obtain ⟨_, _, _, _, HG6⟩ := HKS.out _ hg6; clear hg6))
    go_ret
    exact ⟨rfl, HG6.out⟩
  · have hkr : k < rn := by rw [← lr]; exact hk
    obtain ⟨ad3, rfl, hb3, q3⟩ := HRR.out.at_ (k := k) (by simpa [natInts] using hk)
    simp only [natInts, List.getElem_map] at q3
    have hb3' : ad3.block < w.heap.size := by omega
    have HQ3 : Hid (∀ W, Bw w W → W.cell? (ad3.add k) = some (.int .i64 ((toP a b i)[k] : Int))) := Lib.hid (fun W h => (h.b.cell (by rw [add_block]; exact hb3')).trans q3)
    clear HF HRR q3 hb3
    generalize (toP a b i)[k] = x at *
    go_enter Tryz.func203, Tryz.ntmps203
    go_wp2_with (go_at_call 131; go_must (refine IX.out.mono ?_; rintro e w6 ⟨rfl, hg6⟩; obtain ⟨u0, u1, u2, u3, HG6⟩ := HKS.out _ hg6; (have u4 := HQ3.out _ HG6.out); clear hg6))
    go_ret
    exact ⟨rfl, HG6.out⟩
end Go.Proofs.YtlmnkcfnihhlgaaGreatDoor
namespace Go.Proofs.YtlmnkcfnihhlgaaGreatDoor
open Go.RowKit
set_option linter.unusedSimpArgs false
set_option linter.unusedVariables false

/-- where the kids go, if they can -/
def plc (f : Nat → Nat → Int) : List Nat → List Nat → Option (List Int)
  | [], _ => some []
  | _ :: _, [] => none
  | p :: ps, q :: rest => if 0 ≤ f p q then (plc f ps rest).map (f p q :: ·) else plc f (p :: ps) rest
theorem plc_embG (f : Nat → Nat → Int) : ∀ (rest ps : List Nat), (plc f ps rest).isSome = embG (fun p q => decide (0 ≤ f p q)) ps rest
  | rest, [] => by cases rest <;> rfl
  | [], p :: ps => rfl
  | q :: rest, p :: ps => by
    simp only [plc, embG]
    by_cases h : 0 ≤ f p q
    · rw [if_pos h, if_pos (by simpa using h), ← plc_embG f rest ps]
      cases plc f ps rest <;> rfl
    · rw [if_neg h, if_neg (by simpa using h), ← plc_embG f rest (p :: ps)]
/-- one step, by the first place -/
theorem plc_step (f : Nat → Nat → Int) (p : Nat) (ps : List Nat) : ∀ rest : List Nat, (idxP (fun q => decide (0 ≤ f p q)) rest = -1 ∧ plc f (p :: ps) rest = none) ∨
    ∃ k, ∃ (hk : k < rest.length), idxP (fun q => decide (0 ≤ f p q)) rest = (k : Int) ∧ 0 ≤ f p rest[k] ∧ plc f (p :: ps) rest = (plc f ps (rest.drop (k + 1))).map (f p rest[k] :: ·)
  | [] => .inl ⟨rfl, rfl⟩
  | q :: rest => by
    by_cases h : 0 ≤ f p q
    · right
      exact ⟨0, by simp, idxP_hit (by simp) (by simpa using h) (fun j hj => by omega), h, by simp [plc, h]⟩
    · have h' : (fun q => decide (0 ≤ f p q)) q = false := by simpa using h
      rw [idxP_skip (p := fun q => decide (0 ≤ f p q)) h']
      rcases plc_step f p ps rest with ⟨h1, h2⟩ | ⟨k, hk, h1, h2, h3⟩
      · left; exact ⟨by rw [h1]; rfl, by simp [plc, h, h2]⟩
      · right
        exact ⟨k + 1, by simp; omega, by rw [h1, if_neg (by omega)]; push_cast; rfl, h2, by simp [plc, h, h3]⟩
theorem idxP_nat (f : Nat → Nat → Int) (p : Nat) : ∀ rest : List Nat, idxP (fun x : Int => decide (0 ≤ f p x.toNat)) (natInts rest) = idxP (fun q => decide (0 ≤ f p q)) rest
  | [] => rfl
  | q :: rest => by
    have ih := idxP_nat f p rest
    by_cases h : 0 ≤ f p q
    · rw [idxP_hit (k := 0) (by simp [natInts]) (by simp [natInts, h]) (fun j hj => by omega), idxP_hit (k := 0) (by simp) (by simpa using h) (fun j hj => by omega)]
    · show idxP _ ((q : Int) :: natInts rest) = _
      rw [idxP_skip (by simpa using h), idxP_skip (by simpa using h), ih]
theorem tplace1_any {B g : Nat} {a b : V} {av bv tov : Value} {tl : List (List Nat)} (w : World) (hI : SrcI w B g a b av bv tov tl) (p q : Nat) (hp : p < a.size) (hq : q < b.size) (hT : tl[p]? = some (toP a b p)) (bs bk : Nat)
    (h1 : w.cell? ⟨bs, 0, none⟩ = some (.pointer (some ⟨g, 0, none⟩))) (h2 : w.cell? ⟨bk, 0, none⟩ = some (.int .i64 (p : Int))) :
    Calls Tryz.prog 202 (#[.int .i64 (q : Int)] ++ #[.pointer (some ⟨bs, 0, none⟩), .pointer (some ⟨bk, 0, none⟩)]) w (BoolPost w (decide (0 ≤ intoP a b p q))) := by
  have IN := Lib.hid (tinto_any w hI p q hp hq hT)
  clear hI hT
  generalize intoP a b p q = r at *
  go_enter Tryz.func202, Tryz.ntmps202
  go_wp2_with (go_at_call 203; go_must (refine IN.out.mono ?_; rintro e w6 ⟨rfl, hg6⟩))
  go_ret
  exact ⟨rfl, hg6⟩
def PlacePost (w : World) (r : Option (List Int)) (e : Ending) (w' : World) : Prop := ∃ rv, e = .returned (.tuple #[rv, .bool r.isSome]) ∧ IAt w' (fun b => w.heap.size ≤ b ∧ b < w'.heap.size) rv (r.getD []) ∧ Bw w w'
/-- numbers of kids are numbers of nodes -/
theorem kids_lt {t : V} {i : Nat} (hi : i < (subs t).length) : ∀ p ∈ starts (i + 1) (subs t)[i].ks, i < p ∧ p < t.size := by
  intro p hp
  obtain ⟨j, hj, rfl⟩ := List.getElem_of_mem hp
  have hj' : j < (subs t)[i].ks.length := by rw [starts_length] at hj; exact hj
  obtain ⟨q, h1, h2, h3, h4, h5⟩ := kid_at hi hj'
  rw [List.getElem?_eq_getElem hj] at h1
  rw [Option.some.inj h1]
  rw [subs_length] at h2
  exact ⟨h4, h2⟩
theorem natInts_get {l : List Nat} {k : Nat} (h : k < l.length) (h' : k < (natInts l).length) : (natInts l)[k] = (l[k] : Int) := by simp [natInts]
theorem natInts_drop (l : List Nat) (k : Nat) : (natInts l).drop k = natInts (l.drop k) := by simp [natInts]
set_option maxRecDepth 100000 in
set_option maxHeartbeats 8000000 in
theorem tplace_any {B g : Nat} {a b : V} {av bv tov : Value} {tl : List (List Nat)} (w : World) (hI : SrcI w B g a b av bv tov tl) (i j : Nat) (hi : i < (subs a).length) (hj : j < (subs b).length) (ha9 : a.size ≤ 1000)
    (hT : ∀ p, i < p → p < a.size → tl[p]? = some (toP a b p)) :
    Calls Tryz.prog 173 #[.pointer (some ⟨g, 0, none⟩), .int .i64 (i : Int), .int .i64 (j : Int)] w (PlacePost w (plc (intoP a b) (starts (i + 1) (subs a)[i].ks) (starts (j + 1) (subs b)[j].ks))) := by
  have hil : i < (nodesP a).length := by rw [nodesP_length, ← subs_length]; exact hi
  have hjl : j < (nodesP b).length := by rw [nodesP_length, ← subs_length]; exact hj
  obtain ⟨AA, an, ac, rfl, la, a1, a2⟩ := hI.na.form
  obtain ⟨BA, bn, bc, rfl, lb, b1, b2⟩ := hI.nb.form
  unfold maxLen at a2 b2
  obtain ⟨ada, KA, kn, kc, rfl, hba, _, _, qa, hka⟩ := hI.na.at_ hil
  obtain ⟨adb, RA, rn, rc, rfl, hbb, _, _, qb, hkb⟩ := hI.nb.at_ hjl
  rw [nodesP_get hil hi] at hka
  rw [nodesP_get hjl hj] at hkb
  simp only [ndOf] at hka hkb
  change IB w B (.slice KA kn kc) (natInts (starts (i + 1) (subs a)[i].ks)) at hka
  change IB w B (.slice RA rn rc) (natInts (starts (j + 1) (subs b)[j].ks)) at hkb
  have hpl := kids_lt hi
  have hql := kids_lt hj
  have hps9 : (starts (i + 1) (subs a)[i].ks).length ≤ 1000 := by
    have h1 := sizeL_length (subs a)[i].ks
    have h2 := end_le hi
    have h3 := (subs a)[i].size_eq
    rw [starts_length]; omega
  generalize starts (i + 1) (subs a)[i].ks = ps at *
  generalize starts (j + 1) (subs b)[j].ks = qs at *
  have c0 := hI.blk.cell 0
  have c1 := hI.blk.cell 1
  have z1 := hI.blk.lt
  have hs := hI.hs
  have d1 : i < an := by omega
  have d2 : j < bn := by omega
  have hba' : ada.block < w.heap.size := by omega
  have hbb' : adb.block < w.heap.size := by omega
  obtain ⟨_, kn', _, e, lk, hkc, mk⟩ := hka.form
  cases e
  unfold maxLen at mk
  have hkn : ps.length = kn := by simpa [natInts] using lk
  obtain ⟨_, rn', _, e', lr, hrc, mr⟩ := hkb.form
  cases e'
  unfold maxLen at mr
  have HI := Lib.hid hI
  have HKA := Lib.hid hka
  have HKB := Lib.hid hkb
  have HPL := Lib.hid hpl
  have HQL := Lib.hid hql
  have HTL := Lib.hid hT
  have HKN := Lib.hid hkn
  have HBX : Hid (∀ o W, o = .cells #[.pointer (some ⟨g, 0, none⟩)] 137 → Bw (w.alloc o) W → w.heap.size < W.heap.size ∧ W.cell? ⟨w.heap.size, 0, none⟩ = some (.pointer (some ⟨g, 0, none⟩)) ∧ W.cell? ⟨g, 0, none⟩ = some (.slice (some ada) an ac) ∧ W.cell? ⟨g, 1, none⟩ = some (.slice (some adb) bn bc) ∧
      W.cell? ⟨(ada.add (i * 3)).block, (ada.add (i * 3)).off + 2, none⟩ = some (.slice KA kn kc) ∧ W.cell? ⟨(adb.add (j * 3)).block, (adb.add (j * 3)).off + 2, none⟩ = some (.slice RA rn rc) ∧ Hid (Bw w W)) := Lib.hid (fun o W ho k => by
    subst ho
    have h1 := (Blk.new w 137 #[.pointer (some ⟨g, 0, none⟩)]).below k.b (Blk.new w 137 #[.pointer (some ⟨g, 0, none⟩)]).lt
    have h3 : Bw w W := ((Bw.refl w).alloc _).trans k
    exact ⟨h1.lt, h1.cell 0, (h3.b.cell (p := ⟨g, 0, none⟩) z1).trans c0, (h3.b.cell (p := ⟨g, 1, none⟩) z1).trans c1, (h3.b.cell (by simp only [add_block]; exact hba')).trans qa, (h3.b.cell (by simp only [add_block]; exact hbb')).trans qb, h3⟩)
  obtain ⟨_, p0, p1, p2, p3, p4, _⟩ := HBX.out _ _ rfl (Bw.refl _)
  obtain ⟨i0, hi0, hz0, hz1, hz2⟩ := info_parts infoInt
  obtain ⟨res, hres⟩ : ∃ res, plc (intoP a b) ps qs = res := ⟨_, rfl⟩
  rw [hres]
  have HRES := Lib.hid hres
  clear hI hka hkb hpl hql hT lk lr hkn hres c0 c1 qa qb la lb
  go_enter Tryz.func173, Tryz.ntmps173
  go_wp2
  go_loopw [8, 9, 30] (fun s8 s9 ct wr => ∃ (k rn' rc' : Nat) (RA' : Option Addr), k ≤ kn ∧ rn' ≤ rc' ∧ rc' ≤ 9223372036854775807 ∧ ct = .int .i64 k ∧ s9 = .slice RA' rn' rc' ∧ Hid (∃ out rest, Bw (w.alloc (.cells #[.pointer (some ⟨g, 0, none⟩)] 137)) wr ∧ wr.ownsRow (w.heap.size + 1) 3 1 s8 k (intVs out) ∧ out.length = k ∧ rest.length = rn' ∧ IB w B (.slice RA' rn' rc') (natInts rest) ∧ (∀ q ∈ rest, q ∈ qs) ∧ res = (plc (intoP a b) (ps.drop k) rest).map (out ++ ·))) (fun _ _ ct _ => kn - (intOf ct).toNat)
  case atStart => exact ⟨0, rn, rc, RA, by omega, hrc, by omega, rfl, rfl, Lib.hid ⟨[], qs, Bw.refl _, World.ownsRow_nil _ _ _ _, rfl, by have := HKB.out.form; obtain ⟨_, _, _, e, h, _⟩ := this; injection e with _ e2 _; rw [e2]; simpa [natInts] using h, HKB.out, fun q h => h, by rw [List.drop_zero, HRES.out]; cases res <;> rfl⟩⟩
  case round =>
    obtain ⟨k, rn', rc', RA', hk, hrc', hrc9, rfl, rfl, HR⟩ := hrel
    obtain ⟨out, rest, hbw, hown, hol, hrl, hrI, hrq, hres⟩ := HR.out
    obtain ⟨OA, oc, rfl, _, _⟩ := own_bounds hown
    have HBW := Lib.hid hbw
    have HOW := Lib.hid hown
    have HOL := Lib.hid hol
    have HRL := Lib.hid hrl
    have HRI := Lib.hid hrI
    have HRQ := Lib.hid hrq
    have HRS := Lib.hid hres
    have hbww : Bw w wr := ((Bw.refl w).alloc _).trans hbw
    have hsz := hbw.size
    rw [World.size_alloc] at hsz
    have HWW := Lib.hid hbww
    clear hbw hown hol hrl hrI hrq hres HR p0 p1 p2 p3 p4
    by_cases hlt : k < kn
    · have e1 : k < ps.length := by rw [HKN.out]; exact hlt
      obtain ⟨ad, rfl, hb, q0⟩ := HKA.out.at_ (k := k) (by simpa [natInts] using e1)
      rw [natInts_get e1] at q0
      have hb' : ad.block < w.heap.size := by omega
      have q1 := (HWW.out.b.cell (by rw [add_block]; exact hb')).trans q0
      have hpp := HPL.out _ (List.getElem_mem e1)
      have HDR : Hid (ps.drop k = ps[k] :: ps.drop (k + 1)) := Lib.hid (List.drop_eq_getElem_cons e1)
      have HTP := Lib.hid (HTL.out _ hpp.1 hpp.2)
      generalize ps[k] = p at *
      have hst := plc_step (intoP a b) p (ps.drop (k + 1)) rest
      have hixn := idxP_nat (intoP a b) p rest
      have IX : Hid (Calls Tryz.prog 131 #[.slice RA' rn' rc', .func (.func 202) #[] #[.pointer (some ⟨w.heap.size, 0, none⟩), .pointer (some ⟨wr.heap.size, 0, none⟩)]] (wr.alloc (.cells #[.int .i64 (p : Int)] 3)) (NumPost (wr.alloc (.cells #[.int .i64 (p : Int)] 3)) (idxP (fun q => decide (0 ≤ intoP a b p q)) rest))) := Lib.hid (by
        rw [← hixn]
        have hbk := Blk.new wr 3 #[.int .i64 (p : Int)]
        refine idxInt_any _ _ 202 _ (enters_of Tryz.func202 (by kernel_rfl) rfl) _ _ (((HRI.out.under (HWW.out.b.mono hs)).more (Nat.le_trans hs HWW.out.size)).bw ((Bw.refl _).alloc _)) (fun v hv _ W hg _ => ?_)
        obtain ⟨q, hq, rfl⟩ := List.mem_map.1 hv
        have hq9 := (HQL.out q (HRQ.out q hq)).2
        have hgw : Bw (w.alloc (.cells #[.pointer (some ⟨g, 0, none⟩)] 137)) W := HBW.out.trans (((Bw.refl _).alloc _).trans hg)
        have := tplace1_any W (HI.out.keep (((Bw.refl w).alloc _).trans hgw)) p q hpp.2 hq9 HTP.out w.heap.size wr.heap.size (HBX.out _ W rfl hgw).2.1 ((hbk.below hg.b hbk.lt).cell 0)
        rw [Int.toNat_natCast]
        exact this)
      have HB6 : Hid (∀ W, Bw (wr.alloc (.cells #[.int .i64 (p : Int)] 3)) W → wr.heap.size < W.heap.size ∧ W.cell? ⟨wr.heap.size, 0, none⟩ = some (.int .i64 (p : Int)) ∧ W.cell? ⟨w.heap.size, 0, none⟩ = some (.pointer (some ⟨g, 0, none⟩)) ∧ Hid (Bw (w.alloc (.cells #[.pointer (some ⟨g, 0, none⟩)] 137)) W) ∧ Hid (W.ownsRow (w.heap.size + 1) 3 1 (.slice OA k oc) k (intVs out))) := Lib.hid (fun W hg => by
        have hbk := Blk.new wr 3 #[.int .i64 (p : Int)]
        have hgw : Bw (w.alloc (.cells #[.pointer (some ⟨g, 0, none⟩)] 137)) W := HBW.out.trans (((Bw.refl _).alloc _).trans hg)
        exact ⟨(hbk.below hg.b hbk.lt).lt, (hbk.below hg.b hbk.lt).cell 0, (HBX.out _ W rfl hgw).2.1, hgw, own_kept_bw HOW.out (((Bw.refl _).alloc _).trans hg)⟩)
      obtain ⟨_, u0, u1, _, _⟩ := HB6.out _ (Bw.refl _)
      clear hixn q0 hb
      rcases hst with ⟨h1, h2⟩ | ⟨k2, hk2, h1, h2, h3⟩
      · have HF : Hid (res = none) := Lib.hid (by rw [HRS.out, HDR.out, h2]; rfl)
        rw [h1] at IX
        clear h1 h2
        go_wp2_with (go_at_call 131; go_must (refine IX.out.mono ?_; rintro e w6 ⟨rfl, hg6⟩; obtain ⟨_, _, _, HG6, _⟩ := HB6.out _ hg6; clear hg6))
        go_ret2
        exact ⟨.slice none 0 0, by rw [HF.out]; rfl, by rw [HF.out]; exact IAt.nil (S := fun _ => _ ∧ _) 0 none (by unfold maxLen; omega), ((Bw.refl w).alloc _).trans HG6.out⟩
      · have HF : Hid (res = (plc (intoP a b) (ps.drop (k + 1)) (rest.drop (k2 + 1))).map (out ++ [intoP a b p rest[k2]] ++ ·)) := Lib.hid (by
          rw [HRS.out, HDR.out, h3, Option.map_map]
          congr 1
          funext x; simp)
        rw [h1] at IX
        have hk2r : k2 < rn' := by rw [← HRL.out]; exact hk2
        obtain ⟨adr, rfl, hbr, qr⟩ := HRI.out.at_ (k := k2) (by simpa [natInts] using hk2)
        rw [natInts_get hk2] at qr
        have hbr' : adr.block < w.heap.size := by omega
        have hq9 := (HQL.out _ (HRQ.out _ (List.getElem_mem hk2))).2
        have HQR : Hid (∀ W, Bw (wr.alloc (.cells #[.int .i64 (p : Int)] 3)) W → W.cell? (adr.add k2) = some (.int .i64 (rest[k2] : Int))) := Lib.hid (fun W hg => ((HWW.out.trans (((Bw.refl _).alloc _).trans hg)).b.cell (by rw [add_block]; exact hbr')).trans qr)
        have IN : Hid (∀ W, Bw (wr.alloc (.cells #[.int .i64 (p : Int)] 3)) W → Calls Tryz.prog 203 #[.pointer (some ⟨g, 0, none⟩), .int .i64 (p : Int), .int .i64 (rest[k2] : Int)] W (NumPost W (intoP a b p rest[k2]))) := Lib.hid (fun W hg => tinto_any W (HI.out.keep (HWW.out.trans (((Bw.refl _).alloc _).trans hg))) p _ hpp.2 hq9 HTP.out)
        have hcut : ∀ W, (Instr.slice 22 (.slice (some adr) rn' rc') (some (.int .i64 ((k2 : Int) + 1))) none none).run Tryz.prog W = .ok (sliced (some adr) (k2 + 1) rn' rc' 1) W := fun W => cutI_l (some adr) rn' rc' (k2 + 1) (by omega) W
        have hpt := IAt.part HRI.out (k := k2 + 1) (m := rn') (by omega) (Nat.le_refl _)
        obtain ⟨A3, hA3⟩ := sliced_form (some adr) (k2 + 1) rn' rc' 1
        rw [hA3, List.take_of_length_le (by simp [natInts, HRL.out]), natInts_drop] at hpt
        simp only [hA3] at hcut
        have HPT := Lib.hid hpt
        have dlt : decide ((k2 : Int) < 0) = false := by simp
        clear h1 h3 hA3 hpt qr hbr
        generalize hip : intoP a b p rest[k2] = ip at *
        generalize rest[k2] = rk at *
        clear hip h2 hk2
        go_wp2_with (go_at_call 131; go_must (refine IX.out.mono ?_; rintro e w6 ⟨rfl, hg6⟩; obtain ⟨v0, v1, v2, HG6, HO6⟩ := HB6.out _ hg6; (have v3 := HQR.out _ hg6); (have IN2 := Lib.hid (IN.out _ hg6.drew)); (have HGA := Lib.hid hg6); clear hg6))
        go_region_law (first
          | (refine step_append_any _ rfl (.tmp 39) (.tmp 47) 22 rfl (w.heap.size + 1) 3 i0 _ 1 8 Tryz.underlying22 hi0 hz0 hz1 hz2 rfl (by decide) (.slice OA k oc) k (intVs out) (by simp [Act.eval, Act.put]) (HO7.out.alloc _) (w7.heap.size + 1) (some ⟨w7.heap.size, 0, none⟩) 1 1 [.int .i64 ip] (by simp [Act.eval, Act.put]) (reads_new1 w7 ip) (by simp [Value.oneCell']) (by unfold maxLen; omega) (by omega) (by have := HG7.out.size; simp at this; simp; omega) ?_; intro v8 w8 hown8 hgr8 hl8; obtain ⟨A8, c8, rfl⟩ := own_form hown8; have HO8 := Lib.hid hown8; have HG8 := Lib.hid hgr8; clear hown8 hgr8 hl8)
          | (go_simp; go_at_call 203; refine IN2.out.mono ?_; rintro e w7 ⟨rfl, hg7⟩; have HO7 : Hid (w7.ownsRow (w.heap.size + 1) 3 1 (.slice OA k oc) k (intVs out)) := Lib.hid (own_kept_bw HO6.out ((Bw.refl _).drew.trans hg7)); have HG7 : Hid (Bw (w.alloc (.cells #[.pointer (some ⟨g, 0, none⟩)] 137)) w7) := Lib.hid (HG6.out.trans ((Bw.refl _).drew.trans hg7)); clear hg7))
        all_goals
          go_simp
          go_wp2
          go_roundw
          case rel =>
            refine ⟨k + 1, _, _, A3, by omega, ?_, ?_, by go_num, rfl, Lib.hid ⟨out ++ [ip], rest.drop (k2 + 1), ?_, ?_, by simp [HOL.out], by rw [List.length_drop, HRL.out], HPT.out, fun q hq => HRQ.out q (List.mem_of_mem_drop hq), HF.out⟩⟩
            · omega
            · omega
            · have h1 := HG7.out.alloc (.cells #[.int .i64 ip] 3)
              have hlow : ∀ r, (Value.slice OA k oc).ownBlock = some r → w.heap.size + 1 ≤ r := fun r e => (HO7.out.lt r e).1
              exact ⟨HG8.out.os.trans h1.os, HG8.out.tape.trans h1.tape, HG8.out.output.trans h1.output, Nat.le_trans h1.size HG8.out.size, fun i hi => (HG8.out.block i (Nat.lt_of_lt_of_le hi h1.size) (fun e => by have := hlow i e.symm; simp at hi; omega)).trans (h1.block i hi)⟩
            · have := HO8.out
              rw [show intVs (out ++ [ip]) = intVs out ++ [.int .i64 ip] by simp [intVs]]
              exact this
          case measure => simp [intOf]; omega
    · obtain rfl : k = kn := by omega
      have HF : Hid (res = some out) := Lib.hid (by rw [HRS.out, List.drop_eq_nil_of_le (by rw [HKN.out]; omega)]; cases rest <;> simp [plc])
      go_wp2
      go_ret2
      refine ⟨_, by rw [HF.out]; rfl, ?_, HWW.out⟩
      rw [HF.out]
      exact (own_IB HOW.out HOL.out).keep (fun b hb => ⟨by omega, hb.2⟩) (fun _ _ => rfl)
end Go.Proofs.YtlmnkcfnihhlgaaGreatDoor
