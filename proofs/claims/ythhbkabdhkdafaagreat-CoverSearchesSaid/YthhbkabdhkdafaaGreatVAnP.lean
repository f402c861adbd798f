/- Part of a proof of coverSearches_holds. -/
import Derived.Test.YthhbkabdhkdafaaGreatVAlP
import Derived.Test.YthhbkabdhkdafaaGreatVAmP
import Derived.Lib.Strings
set_option linter.unusedSimpArgs false
set_option linter.unusedVariables false
set_option maxRecDepth 100000
set_option maxHeartbeats 16000000
namespace Go.Proofs.YthhbkabdhkdafaaGreat
section
open Go.RowKit
structure Enc (α : Type) where
 z : Nat
 enc : α → List Value
 len : ∀ x, (enc x).length = z
 kd : α → List (Value × List V)
variable {α : Type} {E : Enc α}
theorem flat_length (E : Enc α) (xs : List α) : (xs.flatMap E.enc).length = xs.length * E.z := by
 induction xs with
 | nil => simp
 | cons x r ih => simp only [List.flatMap_cons, List.length_append, E.len, ih, List.length_cons, Nat.add_mul]; omega
theorem flat_get (E : Enc α) : ∀ {xs : List α} {k j : Nat} (h : k < xs.length), j < E.z → (xs.flatMap E.enc)[k * E.z + j]? = (E.enc xs[k])[j]?
 | x :: r, 0, j, _, hj => by
   rw [List.flatMap_cons, List.getElem?_append_left (by rw [E.len]; omega)]
   simp
 | x :: r, k + 1, j, h, hj => by
   have := flat_get E (xs := r) (k := k) (j := j) (by simpa using h) hj
   rw [List.flatMap_cons, List.getElem?_append_right (by rw [E.len, Nat.add_mul]; omega), E.len, show (k + 1) * E.z + j - E.z = k * E.z + j from by rw [Nat.add_mul]; omega, this]
   simp
theorem add_zero_blk (g j : Nat) : (⟨g, 0, none⟩ : Addr).add j = ⟨g, j, none⟩ := by
 unfold Addr.add
 by_cases h0 : j = 0 <;> simp [h0]
def EAt (E : Enc α) (w : World) (S : Nat → Prop) (v : Value) (xs : List α) : Prop :=
 ∃ A n c, v = .slice A n c ∧ xs.length = n ∧ n ≤ c ∧ c ≤ maxLen ∧ (0 < n → ∃ ad, A = some ad ∧ S ad.block ∧ ∀ j u, (xs.flatMap E.enc)[j]? = some u → w.cell? (ad.add j) = some u) ∧ ∀ x ∈ xs, ∀ q ∈ E.kd x, KAt w S q.1 q.2
structure ERow (E : Enc α) (w : World) (e B : Nat) (D : Nat → Prop) (v : Value) (xs : List α) : Prop where
 own : w.ownsRow B e E.z v xs.length (xs.flatMap E.enc)
 kid : ∀ x ∈ xs, ∀ q ∈ E.kd x, KAt w D q.1 q.2
section
variable {w w' A W : World} {e B : Nat} {S S' D D' : Nat → Prop} {v v' : Value} {xs ys : List α}
theorem EAt.form (h : EAt E w S v xs) : ∃ A c, v = .slice A xs.length c ∧ xs.length ≤ c ∧ c ≤ maxLen := by
 obtain ⟨A, n, c, h1, h2, h3, h4, _⟩ := h
 subst h2
 exact ⟨A, c, h1, h3, h4⟩
theorem EAt.keep (h : EAt E w S v xs) (hS : ∀ b, S b → S' b) (hk : ∀ p : Addr, S p.block → w'.cell? p = w.cell? p) : EAt E w' S' v xs := by
 obtain ⟨A, n, c, h1, h2, h3, h4, h5, h6⟩ := h
 refine ⟨A, n, c, h1, h2, h3, h4, fun hn => ?_, fun x hx q hq => (h6 x hx q hq).keep hS hk⟩
 obtain ⟨ad, e, hs, hc⟩ := h5 hn
 exact ⟨ad, e, hS _ hs, fun j u hu => (hk _ (by rw [add_block]; exact hs)).trans (hc j u hu)⟩
theorem EAt.bw (h : EAt E w (· < w.heap.size) v xs) (g : Bw w w') : EAt E w' (· < w'.heap.size) v xs := h.keep (fun b hb => Nat.lt_of_lt_of_le hb g.size) (fun p hp => g.b.cell hp)
theorem EAt.nil (c : Nat) (A : Option Addr) (hc : c ≤ maxLen) : EAt E w S (.slice A 0 c) [] := ⟨A, 0, c, rfl, rfl, Nat.zero_le _, hc, fun h => absurd h (by omega), fun x h => absurd h (by simp)⟩
theorem EAt.at_ {Ad : Option Addr} {n c : Nat} (h : EAt E w S (.slice Ad n c) xs) {k : Nat} (hk : k < xs.length) : ∃ ad, Ad = some ad ∧ S ad.block ∧ (∀ u, (E.enc xs[k])[0]? = some u → w.cell? (ad.add (k * E.z)) = some u) ∧
   (∀ j u, (E.enc xs[k])[j + 1]? = some u → w.cell? ⟨(ad.add (k * E.z)).block, (ad.add (k * E.z)).off + (j + 1), none⟩ = some u) ∧ ∀ q ∈ E.kd xs[k], KAt w S q.1 q.2 := by
 obtain ⟨A', n', c', e, h2, h3, h4, h5, h6⟩ := h
 injection e with e1 e2 e3
 subst e1 e2 e3
 obtain ⟨ad, rfl, hs, hc⟩ := h5 (by omega)
 refine ⟨ad, rfl, hs, fun u hu => ?_, fun j u hu => ?_, h6 _ (List.getElem_mem hk)⟩
 · have hj : 0 < E.z := by
     have := (List.getElem?_eq_some_iff.1 hu).1
     rwa [E.len] at this
   have := flat_get E hk hj
   exact hc _ _ (by rw [Nat.add_zero] at this; rw [this]; exact hu)
 · have hj : j + 1 < E.z := by
     have := (List.getElem?_eq_some_iff.1 hu).1
     rwa [E.len] at this
   have := hc (k * E.z + (j + 1)) u (by rw [flat_get E hk hj]; exact hu)
   rw [← add_off ad (k * E.z) j]
   exact this
theorem ERow.nil (w : World) (e B : Nat) (D : Nat → Prop) : ERow E w e B D (.slice none 0 0) [] := ⟨World.ownsRow_nil _ _ _ _, fun x h => absurd h (by simp)⟩
theorem ERow.form (h : ERow E w e B D v xs) : ∃ A c, v = .slice A xs.length c ∧ xs.length ≤ c ∧ c ≤ maxLen := own_bounds h.own
theorem ERow.keep (h : ERow E A e B D v xs) {row : Option Nat} (hg : A.grownBy W row) (hr : v.ownBlock = none ∨ row ≠ v.ownBlock) (hD : ∀ b, D b → D' b ∧ b < A.heap.size ∧ row ≠ some b) : ERow E W e B D' v xs := by
 refine ⟨h.own.kept hg ?_, fun x hx q hq => (h.kid x hx q hq).keep (fun b hb => (hD b hb).1) (fun p hp => World.cell?_of_block (hg.block p.block (hD _ hp).2.1 (fun e => (hD _ hp).2.2 e.symm)))⟩
 rcases hr with hr | hr
 · exact .inl hr
 · rcases hv : v.ownBlock with _ | k
   · exact .inl rfl
   · right; rw [hv] at hr; exact fun e => hr e.symm
theorem ERow.bw (h : ERow E A e B D v xs) (g : Bw A W) (hD : ∀ b, D b → D' b ∧ b < A.heap.size) : ERow E W e B D' v xs :=
 h.keep g.gr (by rcases v.ownBlock with _ | k <;> simp) (fun b hb => ⟨(hD b hb).1, (hD b hb).2, fun e => by cases e⟩)
theorem ERow.app (h : ERow E A e B D v xs) (hs : ∀ x ∈ ys, ∀ q ∈ E.kd x, KAt A D q.1 q.2) (hown : W.ownsRow B e E.z v' (xs.length + ys.length) (xs.flatMap E.enc ++ ys.flatMap E.enc)) (hg : A.grownBy W v.ownBlock) (hD : ∀ b, D b → D' b ∧ b < A.heap.size ∧ v.ownBlock ≠ some b) : ERow E W e B D' v' (xs ++ ys) := by
 refine ⟨by rw [List.length_append, List.flatMap_append]; exact hown, fun x hx q hq => ?_⟩
 have key : KAt A D q.1 q.2 := by
   rcases List.mem_append.1 hx with hx | hx
   · exact h.kid x hx q hq
   · exact hs x hx q hq
 exact key.keep (fun b hb => (hD b hb).1) (fun p hp => World.cell?_of_block (hg.block p.block (hD _ hp).2.1 (fun e => (hD _ hp).2.2 e.symm)))
theorem ERow.push (h : ERow E A e B D v xs) {x : α} (hs : ∀ q ∈ E.kd x, KAt A D q.1 q.2) (hown : W.ownsRow B e E.z v' (xs.length + 1) (xs.flatMap E.enc ++ E.enc x)) (hg : A.grownBy W v.ownBlock) (hD : ∀ b, D b → D' b ∧ b < A.heap.size ∧ v.ownBlock ≠ some b) : ERow E W e B D' v' (xs ++ [x]) :=
 h.app (ys := [x]) (fun y hy => by obtain rfl := List.mem_singleton.1 hy; exact hs) (by simpa using hown) hg hD
theorem ERow.eat (h : ERow E w e B D v xs) (hS : ∀ b, D b → S b) (hv : ∀ b, v.ownBlock = some b → S b) : EAt E w S v xs := by
 obtain ⟨Ad, c, rfl, h1, h2⟩ := h.form
 refine ⟨Ad, _, c, rfl, rfl, h1, h2, fun hn => ?_, fun x hx q hq => (h.kid x hx q hq).keep hS (fun _ _ => rfl)⟩
 obtain ⟨g, rfl, h3, h4, h5, h6⟩ := own_at h.own hn
 exact ⟨_, rfl, hv g h3, fun j u hu => h6 j u hu⟩
theorem ERow.eatB (h : ERow E w e B D v xs) (hS : ∀ b, D b → b < w.heap.size) : EAt E w (· < w.heap.size) v xs := h.eat hS (fun b hb => (h.own.lt b hb).2)
end
def encV : Enc VS := ⟨2, fun p => [.int .i64 p.1.n, p.2], fun _ => rfl, fun p => [(p.2, p.1.ks)]⟩
theorem EAt.kat {w : World} {S : Nat → Prop} {v : Value} {ps : List VS} (h : EAt encV w S v ps) : KAt w S v (ps.map (·.1)) := by
 obtain ⟨Ad, n, c, rfl, h2, h3, h4, h5, h6⟩ := h
 refine .mk Ad n c (ps.map (·.1)) (ps.map (·.2)) (by simpa using h2) (by simpa using h2) h3 h4 (fun hn => ?_) (fun k h h' => ?_)
 · obtain ⟨ad, rfl, hs, hc⟩ := h5 hn
   refine ⟨ad, rfl, hs, fun k hk hk' => ?_⟩
   have hk0 : k < ps.length := by simpa using hk
   obtain ⟨a0, a1⟩ := pCells_get hk0
   have b0 := hc _ _ a0
   have b1 := hc _ _ a1
   rw [List.getElem_map, List.getElem_map, ← add_off ad (k * 2) 0]
   exact ⟨b0, b1⟩
 · have hk0 : k < ps.length := by simpa using h
   simpa using h6 _ (List.getElem_mem hk0) _ (List.mem_singleton.2 rfl)
end
section
open Go.RowKit
theorem infoIntsJ : (Tryz.prog.info? 27).map (fun i => (i.zero, i.size, i.bytes)) = some (some (.slice none 0 0), 1, 24) := by kernel_rfl
theorem spread_nil (A : Option Addr) (c : Nat) (lim : Int) (w : World) : Calls Tryz.prog 384 #[.int .i64 0, .slice A 0 c, .int .i64 lim] w (fun e w' => e = .returned (.slice (some ⟨w.heap.size, 0, none⟩) 1 1) ∧ w.alloc (.cells #[.slice none 0 0] 27) = w') := by
 go_enter Tryz.func384, Tryz.ntmps384
 go_wp2
 go_ret
 exact ⟨rfl, rfl⟩
def IIF (w : World) (ls : List (List Int)) (e : Ending) (w' : World) : Prop := ∃ s, e = .returned s ∧ IIAt w' (fun b => w.heap.size ≤ b ∧ b < w'.heap.size) s ls ∧ Bw w w'
theorem IIAt.nil' {w : World} {S : Nat → Prop} : IIAt w S (.slice none 0 0) [] := ⟨none, 0, 0, [], rfl, rfl, rfl, Nat.le_refl _, Nat.zero_le _, fun h => absurd h (by omega), fun k h => absurd h (by simp)⟩
theorem iat_one {W : World} {g : Nat} {T : TypeId} {x : Int} {S : Nat → Prop} (h : Blk W g T #[.int .i64 x]) (hS : S g) : IAt W S (.slice (some ⟨g, 0, none⟩) 1 1) [x] :=
 ⟨_, 1, 1, rfl, rfl, Nat.le_refl _, by unfold maxLen; omega, fun _ => ⟨_, rfl, hS, fun k hk => by
   obtain rfl : k = 0 := by simpa using hk
   exact h.cell 0⟩⟩
theorem iiat_pair {W : World} {g : Nat} {T : TypeId} {u v : Value} {a b : List Int} {S : Nat → Prop} (h : Blk W g T #[u, v]) (hS : S g) (h1 : IAt W S u a) (h2 : IAt W S v b) : IIAt W S (.slice (some ⟨g, 0, none⟩) 2 2) [a, b] :=
 ⟨_, 2, 2, [u, v], rfl, rfl, rfl, Nat.le_refl _, by unfold maxLen; omega, fun _ => ⟨_, rfl, hS, fun k hk => by
   have : k = 0 ∨ k = 1 := by simp at hk; omega
   rcases this with rfl | rfl
   · exact h.cell 0
   · have := h.cell 1; simpa [Addr.add] using this⟩, fun k hk hk' => by
   have : k = 0 ∨ k = 1 := by simp at hk; omega
   rcases this with rfl | rfl
   · exact h1
   · exact h2⟩
theorem spread_more (n m : Int) (hn : 0 ≤ n ∧ n ≤ 1048576) (hm : -100 ≤ m ∧ m ≤ 1048576) (h : m < n) (ad : Addr) (c : Nat) (hc : 1 ≤ c ∧ c ≤ maxLen) (w : World) (hb : ad.block < w.heap.size) (hx : w.cell? ad = some (.int .i64 m)) :
   Calls Tryz.prog 384 #[.int .i64 n, .slice (some ad) 1 c, .int .i64 257] w (fun e w' => e = .returned (.slice none 0 0) ∧ w = w') := by
 have hcut := fun W => cutI_l (some ad) 1 c 1 (by omega) W
 obtain ⟨PA, eA⟩ := sliced_form (some ad) 1 1 c 1
 rw [eA] at hcut
 push_cast at hcut
 have d1 : min n m = m := by omega
 have d0 : max 0 n = n := by omega
 have d2 : decide (n ≤ m) = false := by simp; omega
 obtain ⟨hn0, hn1⟩ := hn
 obtain ⟨hc0, hc1⟩ := hc
 unfold maxLen at hc1
 go_enter Tryz.func384, Tryz.ntmps384
 go_wp2
 go_loopw [7, 23] (fun s i wr => s = .int .i64 0 ∧ i = .int .i64 0 ∧ w = wr) (fun _ i _ => 0)
 case atStart => exact ⟨rfl, rfl, rfl⟩
 case round =>
   obtain ⟨rfl, rfl, rfl⟩ := hrel
   go_wp2
   go_loopw [10, 11] (fun o i wr => o = .slice none 0 0 ∧ i = .int .i64 n ∧ w = wr) (fun _ i _ => 0)
   case atStart => exact ⟨rfl, by simp <;> omega, rfl⟩
   case round =>
     obtain ⟨rfl, rfl, rfl⟩ := hrel
     go_wp2
     go_ret
     exact ⟨rfl, rfl⟩
theorem own_iat {w : World} {B e n c : Nat} {A : Option Addr} {cs : List Int} (h : w.ownsRow B e 1 (.slice A n c) n (intVs cs)) : IAt w (fun b => B ≤ b ∧ b < w.heap.size) (.slice A n c) cs := by
 have hl : cs.length = n := by have := h.1; simpa [intVs] using this
 obtain ⟨A', c', e', h1, h2⟩ := own_bounds h
 injection e' with _ _ e'
 subst e'
 refine ⟨A, n, c, rfl, hl, h1, h2, fun hn => ?_⟩
 obtain ⟨g, cap, e1, hb, hlt⟩ := h.form hn
 injection e1 with e1 _ e2
 subst e1 e2
 refine ⟨_, rfl, ⟨hb, hlt⟩, fun k hk => ?_⟩
 rw [add_zero_blk, h.cellAt k (by omega), intVs, List.getElem?_map, List.getElem?_eq_getElem hk]
 rfl
theorem own_iiat {w : World} {B e n c : Nat} {A : Option Addr} {ls : List (List Int)} {ss : List Value} {S : Nat → Prop} (h : w.ownsRow B e 1 (.slice A n c) n ss) (hl : ls.length = n) (hS : ∀ b, B ≤ b → b < w.heap.size → S b) (hk : ∀ k (h : k < ls.length) (h' : k < ss.length), IAt w S ss[k] ls[k]) : IIAt w S (.slice A n c) ls := by
 have hs : ss.length = n := by have := h.1; simpa using this
 obtain ⟨A', c', e', h1, h2⟩ := own_bounds h
 injection e' with _ _ e'
 subst e'
 refine ⟨A, n, c, ss, rfl, hl, hs, h1, h2, fun hn => ?_, hk⟩
 obtain ⟨g, cap, e1, hb, hlt⟩ := h.form hn
 injection e1 with e1 _ e2
 subst e1 e2
 refine ⟨_, rfl, hS _ hb hlt, fun k hk => ?_⟩
 rw [add_zero_blk, h.cellAt k (by omega), List.getElem?_eq_getElem hk]
theorem spread_one (n m : Int) (hn : 0 ≤ n ∧ n ≤ 1048576) (hm : -100 ≤ m ∧ m ≤ 1048576) (h : n ≤ m) (ad : Addr) (c : Nat) (hc : 1 ≤ c ∧ c ≤ maxLen) (w : World) (hb : ad.block < w.heap.size) (hx : w.cell? ad = some (.int .i64 m)) :
   Calls Tryz.prog 384 #[.int .i64 n, .slice (some ad) 1 c, .int .i64 257] w (IIF w [[n]]) := by
 have hcut := fun W => cutI_l (some ad) 1 c 1 (by omega) W
 obtain ⟨PA, eA⟩ := sliced_form (some ad) 1 1 c 1
 rw [eA] at hcut
 push_cast at hcut
 have CN : Hid (∀ (A : Option Addr) (c : Nat) (lim : Int) (W : World), Calls Tryz.prog 384 #[.int .i64 0, .slice A 0 c, .int .i64 lim] W (fun e w' => e = .returned (.slice (some ⟨W.heap.size, 0, none⟩) 1 1) ∧ W.alloc (.cells #[.slice none 0 0] 27) = w')) := Lib.hid (fun A c lim W => spread_nil A c lim W)
 have CC : Hid (Calls Tryz.prog 339 #[.slice (some ⟨w.heap.size + 1 + 1, 0, none⟩) 2 2] (((w.alloc (.cells #[.slice none 0 0] 27)).alloc (.cells #[.int .i64 n] 3)).alloc (.cells #[.slice (some ⟨w.heap.size + 1, 0, none⟩) 1 1, .slice none 0 0] 27)) (IntsF (((w.alloc (.cells #[.slice none 0 0] 27)).alloc (.cells #[.int .i64 n] 3)).alloc (.cells #[.slice (some ⟨w.heap.size + 1, 0, none⟩) 1 1, .slice none 0 0] 27)) [n])) := Lib.hid (by
   have b1 := (Blk.new (w.alloc (.cells #[.slice none 0 0] 27)) 3 #[.int .i64 n]).alloc (.cells #[.slice (some ⟨w.heap.size + 1, 0, none⟩) 1 1, .slice none 0 0] 27)
   have b2 := Blk.new ((w.alloc (.cells #[.slice none 0 0] 27)).alloc (.cells #[.int .i64 n] 3)) 27 #[.slice (some ⟨w.heap.size + 1, 0, none⟩) 1 1, .slice none 0 0]
   simp only [World.size_alloc] at b1 b2
   have := concatI_any [[n], []] (by simp) _ _ (iiat_pair b2 b2.lt (iat_one b1 b1.lt) (IAt.nil _ _ (Nat.zero_le _)))
   simpa using this)
 unfold IntsF at CC
 simp only [List.length_cons, List.length_nil] at CC
 obtain ⟨i0, hi, hz0, hz1, hz2⟩ := info_parts infoIntsJ
 have d1 : min n m = n := by omega
 have d0 : max 0 n = n := by omega
 have d3 : decide (n + 1 ≤ n) = false := decide_eq_false (by omega)
 have d4 : n - n = 0 := by omega
 obtain ⟨hn0, hn1⟩ := hn
 obtain ⟨hc0, hc1⟩ := hc
 unfold maxLen at hc1
 go_enter Tryz.func384, Tryz.ntmps384
 go_wp2
 go_loopw [7, 23] (fun s i wr => s = .int .i64 0 ∧ i = .int .i64 0 ∧ w = wr) (fun _ i _ => 0)
 case atStart => exact ⟨rfl, rfl, rfl⟩
 case round =>
   obtain ⟨rfl, rfl, rfl⟩ := hrel
   go_wp2
   go_loopw [10, 11] (fun o i wr => (o = .slice none 0 0 ∧ i = .int .i64 n ∧ w = wr) ∨ (∃ A7 c7, o = .slice A7 1 c7 ∧ i = .int .i64 (n + 1) ∧ Hid (IIAt wr (fun b => w.heap.size ≤ b ∧ b < wr.heap.size) (.slice A7 1 c7) [[n]] ∧ Bw w wr))) (fun _ i _ => (n + 1 - intOf i).toNat)
   case atStart => exact .inl ⟨rfl, by simp <;> omega, rfl⟩
   case round =>
     rcases hrel with ⟨rfl, rfl, rfl⟩ | ⟨A7, c7, rfl, rfl, HR⟩
     · go_wp2_with (go_at_call 384; go_must (refine (CN.out _ _ _ _).mono ?_; rintro e w1 ⟨rfl, rfl⟩))
       go_loopw [10, 61] (fun o i wr => (o = .slice none 0 0 ∧ i = .int .i64 0 ∧ w.alloc (.cells #[.slice none 0 0] 27) = wr) ∨ (∃ A7 c7, o = .slice A7 1 c7 ∧ i = .int .i64 1 ∧ Hid (IIAt wr (fun b => w.heap.size ≤ b ∧ b < wr.heap.size) (.slice A7 1 c7) [[n]] ∧ Bw w wr))) (fun _ i _ => (1 - intOf i).toNat)
       case atStart => exact .inl ⟨rfl, rfl, rfl⟩
       case round =>
         rcases hrel with ⟨rfl, rfl, rfl⟩ | ⟨A7, c7, rfl, rfl, HR⟩
         · go_wp2_with (first
             | (go_at_call 339; go_must (refine CC.out.mono ?_; rintro e w6 ⟨s6, rfl, ho6, hg6⟩; obtain ⟨A6, c6, rfl⟩ := own_form ho6; (have hs6 : w.heap.size + 3 ≤ w6.heap.size := by have := hg6.size; simpa using this); (have HO6 := Lib.hid ho6); (have HG6 := Lib.hid hg6); clear ho6 hg6))
             | (at_builtin; go_must (refine wpList_append_any _ rfl _ _ 44 rfl w.heap.size 27 i0 _ 1 24 Tryz.underlying44 hi hz0 hz1 hz2 rfl (by decide) (.slice none 0 0) 0 [] rfl (World.ownsRow_nil _ _ _ _) (w6.heap.size + 1) (some ⟨w6.heap.size, 0, none⟩) 1 1 [.slice A6 1 c6] rfl (reads_blk (n := 1) (Blk.new w6 27 #[.slice A6 1 c6]) (by omega) rfl) (by simp [Value.oneCell']) (by unfold maxLen; omega) (by omega) (by simp; omega) ?_; intro v7 w7 hown7 hgr7 hl7; obtain ⟨A7, c7, rfl⟩ := own_form hown7; (have HO7 := Lib.hid hown7); (have HG7 := Lib.hid hgr7); clear hown7 hgr7 hl7)))
           go_roundw
           case rel =>
             refine .inr ⟨_, _, rfl, by go_num, Lib.hid ⟨?_, ?_⟩⟩
             · have hs7 := HG7.out.size
               simp only [World.size_alloc] at hs7
               refine own_iiat (ss := [.slice A6 1 c6]) HO7.out rfl (fun b h1 h2 => ⟨h1, h2⟩) (fun k hk hk' => ?_)
               obtain rfl : k = 0 := by simpa using hk
               refine (own_iat HO6.out).keep (fun b hb => ⟨by have := hb.1; simp at this; omega, by omega⟩) (fun p hp => ?_)
               exact (World.cell?_of_block (HG7.out.block p.block (by simp; omega) (by simp [Value.ownBlock]))).trans (World.cell?_alloc_lt w6 _ p hp.2)
             · exact Bw.trans (((((Bw.refl _).alloc _).alloc _).alloc _).trans HG6.out) (Bw.trans ((Bw.refl _).alloc _) (Bw.grown HG7.out))
           case measure => simp [intOf]
         · go_wp2
           go_roundw
           case rel => exact .inr ⟨_, _, rfl, by go_num, HR⟩
           case measure => simp [intOf]; omega
     · have hx2 : wr.cell? ad = some (.int .i64 m) := (HR.out.2.b.cell hb).trans hx
       have hb2 : ad.block < wr.heap.size := Nat.lt_of_lt_of_le hb HR.out.2.size
       go_wp2
       go_ret
       exact ⟨_, rfl, HR.out.1, HR.out.2⟩
theorem rletter_any (c : UInt8) (w : World) : Calls Tryz.prog 176 #[.int .u8 (c.toNat : Int)] w fun e w' => e = .returned (.bool (partB c)) ∧ w = w' := by
 go_enter Tryz.func176, Tryz.ntmps176
 go_wp2
 all_goals (go_ret; exact ⟨ret_bool (by rw [Bool.eq_iff_iff]; simp [partB, letterB, digitB]; omega), rfl⟩)

theorem wordL_false {s : ByteArray} (h : runL partB s.data.toList ≠ s.size) : wordL s.data.toList = false := by
 rw [wordL_eq]; simp [h]

theorem rword_any (s : ByteArray) (w : World) (hs : s.size ≤ 9223372036854775807) :
   Calls Tryz.prog 108 #[.string s] w fun e w' => e = .returned (.bool (wordL s.data.toList)) ∧ w = w' := by
 have hle := runL_le partB s.data.toList
 have hsz : s.data.toList.length = s.size := by simp
 go_enter Tryz.func108, Tryz.ntmps108
 go_wp2
 go_loop [3] (fun i => ∃ k : Nat, k ≤ runL partB s.data.toList ∧ i = .int .i64 k) (fun i => s.size - (intOf i).toNat)
 case atStart => exact ⟨0, Nat.zero_le _, rfl⟩
 case round =>
   obtain ⟨k, hk, rfl⟩ := hrel
   by_cases hlt : k < s.size
   · rcases hp : partB s.data.toList[k] with _ | _
     all_goals
       have HP := Lib.hid hp
       clear hp
     · go_wp2_with (go_at_call 176; go_must (refine (rletter_any s[k] _).mono ?_; rintro e w' ⟨rfl, rfl⟩; rw [show partB s[k] = false from HP.out]))
       go_ret
       exact ⟨ret_bool (wordL_false (by rw [runL_eq hk (by omega) HP.out]; omega)).symm, rfl⟩
     · go_wp2_with (go_at_call 176; refine (rletter_any s[k] _).mono ?_; rintro e w' ⟨rfl, rfl⟩; rw [show partB s[k] = true from HP.out])
       go_round
       case rel => exact ⟨k + 1, runL_lt hk (by omega) HP.out, by go_num⟩
       case measure => simp [intOf]; omega
   · have hr : runL partB s.data.toList = s.size := by omega
     have HR := Lib.hid hr
     clear hr
     by_cases h0 : 1 ≤ s.size
     · have hpos : 0 < s.size := by omega
       have hd : s.data.toList.headD 0 = s[0] := by
         rw [List.headD_eq_head?_getD, List.head?_eq_getElem?, List.getElem?_eq_getElem (by omega)]; rfl
       have HF : Hid (wordL s.data.toList = (decide (s.size ≤ 12) && letterB s[0])) := Lib.hid (by rw [wordL_eq, hd, HR.out, decide_eq_true (p := s.size ≠ 0) (by omega), decide_eq_true (p := s.size = s.size) rfl]; simp)
       clear hd
       go_wp2
       all_goals (go_ret; exact ⟨ret_bool (by rw [HF.out, Bool.eq_iff_iff]; simp [letterB]; omega), rfl⟩)
     · have HF : Hid (wordL s.data.toList = false) := Lib.hid (by rw [wordL_eq, show s.size = 0 from by omega]; simp)
       go_wp2
       go_ret
       exact ⟨ret_bool HF.out.symm, rfl⟩
end
end Go.Proofs.YthhbkabdhkdafaaGreat
