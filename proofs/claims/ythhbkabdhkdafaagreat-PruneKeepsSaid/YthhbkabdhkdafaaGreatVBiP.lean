/- Part of a proof of pruneKeeps_holds. -/
import Derived.Test.YthhbkabdhkdafaaGreatVBbP
import Derived.Test.YthhbkabdhkdafaaGreatVBdP
import Derived.Test.YthhbkabdhkdafaaGreatVBhP
set_option linter.unusedSimpArgs false
set_option linter.unusedVariables false
set_option maxRecDepth 100000
set_option maxHeartbeats 16000000
namespace Go.Proofs.YthhbkabdhkdafaaGreat
section
open Go.RowKit
def natI (l : List Nat) : List Int := l.map fun (x : Nat) => (x : Int)
def detS (M : List (List Int)) (r : Nat) (rs cs : List Nat) (i : Nat) : Int := (List.range i).foldl (fun s i => if entM M r (cs.getD i 0) = 0 then s else s + sgn i * entM M r (cs.getD i 0) * detP M rs (cs.take i ++ cs.drop (i + 1))) 0
theorem detS_succ (M : List (List Int)) (r : Nat) (rs cs : List Nat) (i : Nat) : detS M r rs cs (i + 1) = if entM M r (cs.getD i 0) = 0 then detS M r rs cs i else detS M r rs cs i + sgn i * entM M r (cs.getD i 0) * detP M rs (cs.take i ++ cs.drop (i + 1)) := by
 unfold detS
 rw [List.range_succ, List.foldl_append]
 rfl
theorem detP_cons (M : List (List Int)) (r : Nat) (rs cs : List Nat) : detP M (r :: rs) cs = detS M r rs cs cs.length := rfl
def DetSays (M : List (List Int)) (k : Nat) (rows : List Nat) (D : Nat) : Prop := ∀ cols : List Nat, cols.length = rows.length → (∀ c ∈ cols, c < k) → (detP M rows cols).natAbs ≤ D ∧
 ∀ (v rv cv : Value) (W : World), MxAt W (· < W.heap.size) v M → IB W W.heap.size rv (natI rows) → IB W W.heap.size cv (natI cols) → Calls Tryz.prog 274 #[v, rv, cv] W (NumPost W (detP M rows cols))
theorem det_zero (M : List (List Int)) (k : Nat) : DetSays M k [] 1 := by
 intro cols hl hc
 refine ⟨by simp [detP], fun v rv cv W h h1 h2 => ?_⟩
 obtain ⟨A, c, rfl, -, -⟩ := h.form
 obtain ⟨A1, n1, c1, rfl, l1, -, -⟩ := h1.form
 obtain ⟨A2, n2, c2, rfl, l2, -, -⟩ := h2.form
 obtain rfl : n1 = 0 := by rw [← l1]; rfl
 go_enter Tryz.func274, Tryz.ntmps274
 go_wp2_with fail
 go_ret
 exact ⟨rfl, Bw.refl _⟩
theorem sgn_succ (i : Nat) : sgn (i + 1) = -sgn i := by
 unfold sgn
 rcases Nat.mod_two_eq_zero_or_one i with h | h <;> simp [h, Nat.add_mod]
theorem sgn_abs (i : Nat) : sgn i = 1 ∨ sgn i = -1 := by unfold sgn; split <;> simp
theorem cutI_h (A : Option Addr) (n c m : Nat) (h2 : m ≤ c) (W : World) : (Instr.slice 27 (.slice A n c) none (some (.int .i64 (m : Int))) none).run Tryz.prog W = .ok (sliced A 0 m c 1) W := by
 rw [run_slice_h W 27 A n c (by kernel_rfl) .i64 (m : Int) (by omega) (by omega)]
 have : (sizeOf (Tryz.prog.elem 27)).run Tryz.prog W = .ok 1 W := by kernel_rfl
 rw [this]; simp [Result.andThen]
theorem iiat_blk {w : World} {g : Nat} {a b : Value} {x y : List Int} {ty : TypeId} (hk : Blk w g ty #[a, b]) (ha : IB w w.heap.size a x) (hb : IB w w.heap.size b y) : IIAt w (· < w.heap.size) (.slice (some ⟨g, 0, none⟩) 2 2) [x, y] := by
 refine ⟨_, 2, 2, [a, b], rfl, rfl, rfl, Nat.le_refl _, by unfold maxLen; omega, fun _ => ⟨_, rfl, hk.lt, fun k h => ?_⟩, fun k h h' => ?_⟩
 · match k, h with
   | 0, _ => exact hk.cell 0
   | 1, _ => exact hk.cell 1
 · match k, h, h' with
   | 0, _, _ => exact ha
   | 1, _, _ => exact hb
def dtV (lo : Nat) (cut : List Int) (v0 v1 v2 v3 v4 v5 v6 v7 v8 v9 v10 v11 v12 v13 v16 v17 v18 w1 w2 : Value) : Nat → Value → World → Prop
 | 0, v, _ => v = v0
 | 1, v, _ => v = v1
 | 2, v, _ => v = v2
 | 3, v, _ => v = v3
 | 4, v, _ => v = v4
 | 5, v, _ => v = v5
 | 6, v, _ => v = v6
 | 7, v, _ => v = v7
 | 8, v, _ => v = v8
 | 9, v, _ => v = v9
 | 10, v, _ => v = v10
 | 11, v, _ => v = v11
 | 12, v, _ => v = v12
 | 13, v, _ => v = v13
 | 14, v, W => ∃ g, v = .slice (some ⟨g, 0, none⟩) 2 2 ∧ Blk W g 27 #[w1, w2] ∧ lo ≤ g
 | 15, v, W => IB W W.heap.size v cut
 | 16, v, _ => v = v16
 | 17, v, _ => v = v17
 | 18, v, _ => v = v18
 | _, _, _ => True
theorem dtV_st {lo : Nat} {cut : List Int} {v0 v1 v2 v3 v4 v5 v6 v7 v8 v9 v10 v11 v12 v13 v16 v17 v18 w1 w2 : Value} {W W' : World} (k : Nat) (v : Value) (hk : k < 19) (h : dtV lo cut v0 v1 v2 v3 v4 v5 v6 v7 v8 v9 v10 v11 v12 v13 v16 v17 v18 w1 w2 k v W) (g : Bw W W') : dtV lo cut v0 v1 v2 v3 v4 v5 v6 v7 v8 v9 v10 v11 v12 v13 v16 v17 v18 w1 w2 k v W' := by
 rcases (by omega : k = 0 ∨ k = 1 ∨ k = 2 ∨ k = 3 ∨ k = 4 ∨ k = 5 ∨ k = 6 ∨ k = 7 ∨ k = 8 ∨ k = 9 ∨ k = 10 ∨ k = 11 ∨ k = 12 ∨ k = 13 ∨ k = 14 ∨ k = 15 ∨ k = 16 ∨ k = 17 ∨ k = 18) with rfl | rfl | rfl | rfl | rfl | rfl | rfl | rfl | rfl | rfl | rfl | rfl | rfl | rfl | rfl | rfl | rfl | rfl | rfl
 · exact h
 · exact h
 · exact h
 · exact h
 · exact h
 · exact h
 · exact h
 · exact h
 · exact h
 · exact h
 · exact h
 · exact h
 · exact h
 · exact h
 · obtain ⟨q, h1, h2, h3⟩ := h; exact ⟨q, h1, h2.below g.b h2.lt, h3⟩
 · exact IAt.bw h g
 · exact h
 · exact h
 · exact h
theorem det_step (M : List (List Int)) (n9 k : Nat) (ho : MxOk M n9 k) (r : Nat) (hr : r < n9) (rows : List Nat) (hrl : rows.length ≤ 2) (D : Nat) (hD : D ≤ 100000) (ih : DetSays M k rows D) : DetSays M k (r :: rows) ((rows.length + 1) * (16 * D)) := by
 intro cols hl hc
 have hML := ho.ln
 have hrM : r < M.length := by omega
 have hrow : M[r].length = k := ho.rw _ (List.getElem_mem hrM)
 have hin : ∀ i (hi : i < cols.length), cols.getD i 0 = cols[i] ∧ cols[i] < k := fun i hi => ⟨by simp [List.getD, hi], hc _ (List.getElem_mem hi)⟩
 have hentE : ∀ i (hi : i < cols.length), ∃ h : cols[i] < M[r].length, entM M r (cols.getD i 0) = M[r][cols[i]] := fun i hi => by
   obtain ⟨h1, h2⟩ := hin i hi
   refine ⟨by rw [hrow]; exact h2, ?_⟩
   have h2' : cols[i] < M[r].length := by rw [hrow]; exact h2
   rw [entM, h1]
   simp [List.getD, hrM, h2']
 have hent : ∀ i, i < cols.length → (entM M r (cols.getD i 0)).natAbs ≤ 16 := fun i hi => by
   obtain ⟨h, e⟩ := hentE i hi
   have := ho.en _ (List.getElem_mem hrM) _ (List.getElem_mem h)
   rw [e]; omega
 have hcut : ∀ i, i < cols.length → (cols.take i ++ cols.drop (i + 1)).length = rows.length ∧ ∀ c ∈ cols.take i ++ cols.drop (i + 1), c < k := fun i hi => by
   refine ⟨by simp; simp at hl; omega, fun c h => hc c ?_⟩
   rcases List.mem_append.1 h with h | h
   · exact List.mem_of_mem_take h
   · exact List.mem_of_mem_drop h
 have hterm : ∀ i, i < cols.length → (sgn i * entM M r (cols.getD i 0) * detP M rows (cols.take i ++ cols.drop (i + 1))).natAbs ≤ 16 * D := fun i hi => by
   rw [Int.natAbs_mul, Int.natAbs_mul]
   have h1 := hent i hi
   have h2 := (ih _ (hcut i hi).1 (hcut i hi).2).1
   have h3 : (sgn i).natAbs = 1 := by rcases sgn_abs i with h | h <;> rw [h] <;> rfl
   rw [h3, Nat.one_mul]
   exact Nat.mul_le_mul h1 h2
 have hbd : ∀ i, i ≤ cols.length → (detS M r rows cols i).natAbs ≤ i * (16 * D) := by
   intro i
   induction i with
   | zero => intro _; simp [detS]
   | succ i ih2 =>
     intro hi
     have h1 := ih2 (by omega)
     have h2 := hterm i (by omega)
     rw [detS_succ, Nat.succ_mul]
     split
     · omega
     · omega
 have hlen : cols.length = rows.length + 1 := by simpa using hl
 refine ⟨by rw [detP_cons, ← hlen]; exact hbd _ (Nat.le_refl _), fun v rv cv W h h1 h2 => ?_⟩
 rw [detP_cons]
 obtain ⟨A, c, rfl, -, -⟩ := h.form
 obtain ⟨A1, n1, c1, rfl, l1, b1, -⟩ := h1.form
 obtain ⟨A2, n2, c2, rfl, l2, b2, -⟩ := h2.form
 obtain rfl : n1 = rows.length + 1 := by rw [← l1]; simp [natI]
 obtain rfl : n2 = cols.length := by rw [← l2]; simp [natI]
 obtain ⟨ad, rA, rc, rfl, hab, z0, hri⟩ := h.at_ hrM
 rw [hrow] at z0 hri
 obtain ⟨ad1, rfl, hb1, z1⟩ := h1.at_ (k := 0) (by simp [natI])
 replace z1 : W.cell? ad1 = some (.int .i64 (r : Int)) := by simpa [Addr.add, natI] using z1
 have hn0 : ((rows.length : Int) + 1 == 0) = false := by simp; omega
 have hn1 : ¬ ((rows.length : Int) + 1 = 0) := by omega
 have HH := Lib.hid (And.intro h (And.intro h1 (And.intro h2 hri)))
 have HIN := Lib.hid (And.intro hin (And.intro hentE (And.intro hent (And.intro hcut (And.intro hterm hbd)))))
 have HIH := Lib.hid ih
 have HZ : Hid (∀ X, Bw W X → X.cell? (ad.add r) = some (.slice rA k rc) ∧ X.cell? ad1 = some (.int .i64 (r : Int))) := Lib.hid (fun X g => ⟨(g.b.cell (by rw [add_block]; exact hab)).trans z0, (g.b.cell hb1).trans z1⟩)
 clear h h1 h2 hri hin hentE hent hcut hterm hbd ih l1 l2 hc ho z0 z1 hab hb1
 have hrn : (r : Int) < (M.length : Int) := by omega
 have HLE := Lib.hid (And.intro hlen (And.intro hML hrow))
 have hl3 : cols.length ≤ 3 := by omega
 clear hlen hML hrow hl hn0 hn1
 have hn0 : ((rows.length : Int) + 1 == 0) = false := by simp; omega
 have hn1 : ¬ ((rows.length : Int) + 1 = 0) := by omega
 go_enter Tryz.func274, Tryz.ntmps274
 go_wp2_with fail
 go_loopw [7, 8, 17] (fun s7 s8 s17 wi => ∃ i, i ≤ cols.length ∧ s7 = .int .i64 (detS M r rows cols i) ∧ s8 = .int .i64 (sgn i) ∧ s17 = .int .i64 (i : Int) ∧ Hid (Bw W wi)) (fun _ _ s17 _ => cols.length - (intOf s17).toNat)
 case atStart => exact ⟨0, by omega, rfl, rfl, rfl, Lib.hid (Bw.refl _)⟩
 case round =>
   obtain ⟨wo, hwo⟩ : ∃ wo, wo = wr := ⟨_, rfl⟩
   subst hwo
   obtain ⟨i, hi, rfl, rfl, rfl, HB⟩ := hrel
   by_cases hlt : i < cols.length
   · have hlt' : (i : Int) < (cols.length : Int) := by omega
     obtain ⟨y0, y1⟩ := HZ.out _ HB.out
     obtain ⟨ad2, rfl, hb2, z2⟩ := (HH.out.2.2.1.bw HB.out).at_ (k := i) (by simp [natI]; exact hlt)
     replace z2 : wo.cell? (ad2.add i) = some (.int .i64 (cols[i] : Int)) := by simpa [natI] using z2
     obtain ⟨hck, hxe⟩ := HIN.out.2.1 i hlt
     obtain ⟨ad3, rfl, hb3, z3⟩ := (HH.out.2.2.2.bw HB.out).at_ hck
     rw [← hxe] at z3
     clear hxe hck
     have hx16 := HIN.out.2.2.1 i hlt
     have hcc := (HIN.out.1 i hlt).2
     have hck' : (cols[i] : Int) < (k : Int) := by omega
     have hsg := sgn_abs i
     have HSS := Lib.hid (detS_succ M r rows cols i)
     have hb9 := HIN.out.2.2.2.2.2 i hi
     generalize entM M r (cols.getD i 0) = x at *
     generalize cols[i] = ci at *
     have HCUT := Lib.hid HIN.out.2.2.2.1
     clear HIN
     by_cases hx0 : x = 0
     · subst hx0
       go_wp2_with fail
       have h1 := HSS.out
       rw [if_pos rfl] at h1
       exact ⟨⟨i + 1, by omega, by rw [h1], by rw [sgn_succ], by simp, HB⟩, by simp [intOf]; omega⟩
     · have hx1 : (x != 0) = true := by simpa using hx0
       go_upto_region 9 with fail
       obtain ⟨P0, hP0⟩ := sliced_form (some ad1) 1 (rows.length + 1) c1 1
       obtain ⟨P1, hP1⟩ := sliced_form (some ad2) 0 i c2 1
       obtain ⟨P2, hP2⟩ := sliced_form (some ad2) (i + 1) cols.length c2 1
       rw [Nat.add_sub_cancel] at hP0
       rw [Nat.sub_zero, Nat.sub_zero] at hP1
       have hc0 := fun W => cutI_l (some ad1) (rows.length + 1) c1 1 (by omega) W
       have hc1 := fun W => cutI_h (some ad2) cols.length c2 i (by omega) W
       have hc2 := fun W => cutI_l (some ad2) cols.length c2 (i + 1) (by omega) W
       have q0 := (HH.out.2.1.bw HB.out).part (k := 1) (m := rows.length + 1) (by omega) (Nat.le_refl _)
       have q1 := (HH.out.2.2.1.bw HB.out).part (k := 0) (m := i) (Nat.zero_le _) (by omega)
       have q2 := (HH.out.2.2.1.bw HB.out).part (k := i + 1) (m := cols.length) (by omega) (Nat.le_refl _)
       rw [hP0] at q0 hc0
       rw [hP1] at q1 hc1
       rw [hP2] at q2 hc2
       rw [List.drop_zero, show (natI cols).take i = natI (cols.take i) by simp [natI, List.map_take]] at q1
       rw [List.take_of_length_le (by simp [natI]), show (natI cols).drop (i + 1) = natI (cols.drop (i + 1)) by simp [natI, List.map_drop]] at q2
       rw [List.take_of_length_le (by simp [natI]), show (natI (r :: rows)).drop 1 = natI rows by simp [natI]] at q0
       push_cast at hc0
       push_cast at hc2
       obtain ⟨cutN, hcutN⟩ : ∃ cutN, cols.take i ++ cols.drop (i + 1) = cutN := ⟨_, rfl⟩
       have hih := HIH.out cutN (by rw [← hcutN]; exact (HCUT.out i hlt).1) (by rw [← hcutN]; exact (HCUT.out i hlt).2)
       have CC : Hid (∀ X g, Bw wo X → Blk X g 27 #[.slice P1 i c2, .slice P2 (cols.length - (i + 1)) (c2 - (i + 1))] → Calls Tryz.prog 339 #[.slice (some ⟨g, 0, none⟩) 2 2] X (IntsF X (natI cutN))) := Lib.hid (fun X g hX hb => by
         have := concatI_any [natI (cols.take i), natI (cols.drop (i + 1))] (by simp [natI]; omega) _ X (iiat_blk hb (q1.bw hX) (q2.bw hX))
         rwa [show [natI (cols.take i), natI (cols.drop (i + 1))].flatten = natI cutN by rw [← hcutN]; simp [natI]] at this)
       have CD : Hid (∀ u X, Bw wo X → IB X X.heap.size u (natI cutN) → Calls Tryz.prog 274 #[.slice (some ad) M.length c, .slice P0 rows.length (c1 - 1), u] X (NumPost X (detP M rows cutN))) := Lib.hid (fun u X hX hu => hih.2 _ _ _ X (HH.out.1.bw (HB.out.trans hX)) (q0.bw hX) hu)
       have hdd := hih.1
       rw [hcutN] at HSS
       have hS9 : (detS M r rows cols i).natAbs ≤ 300 * D := Nat.le_trans hb9 (by
         have : i * (16 * D) ≤ 3 * (16 * D) := Nat.mul_le_mul_right _ (by omega)
         omega)
       generalize detP M rows cutN = dd at *
       generalize detS M r rows cols i = S0 at *
       generalize cols.length - (i + 1) = m2 at *
       generalize c2 - (i + 1) = q2x at *
       have HX0 := Lib.hid hx0
       have hsx : (sgn i * x).natAbs ≤ 16 := by rcases hsg with h | h <;> rw [h] <;> omega
       have hsd : (sgn i * x * dd).natAbs ≤ 16 * D := by rw [Int.natAbs_mul]; exact Nat.mul_le_mul hsx hdd
       have w1 : IntKind.i64.wrap (sgn i * x) = sgn i * x := IntWalk.i64_in _ (by omega)
       have w2 : IntKind.i64.wrap (sgn i * x * dd) = sgn i * x * dd := IntWalk.i64_in _ (by omega)
       have w3 : IntKind.i64.wrap (S0 + sgn i * x * dd) = S0 + sgn i * x * dd := IntWalk.i64_in _ (by omega)
       have w4 : IntKind.i64.wrap ((i : Int) + 1) = (i : Int) + 1 := IntWalk.i64_in _ (by omega)
       have w5 : IntKind.i64.wrap (-sgn i) = -sgn i := IntWalk.i64_in _ (by rcases hsg with h | h <;> rw [h] <;> omega)
       clear q0 q1 q2 hP0 hP1 hP2 hih hS9 hb9 hdd hsx hsd hsg hx1 z2 z3 y0 y1
       refine wp_region_prod mixedO 19 (by rfl) (fun i => ([33, 34, 35, 36, 37, 38, 39, 40, 41, 42, 43, 44, 45, 46, 47, 48, 49, 50, 51] : List Nat).getD i 0) (fun i j hi hj => (by decide : ∀ i, i < 19 → ∀ j, j < 19 → ([33, 34, 35, 36, 37, 38, 39, 40, 41, 42, 43, 44, 45, 46, 47, 48, 49, 50, 51] : List Nat).getD i 0 = ([33, 34, 35, 36, 37, 38, 39, 40, 41, 42, 43, 44, 45, 46, 47, 48, 49, 50, 51] : List Nat).getD j 0 → i = j) i hi j hj) (fun i hi => (by decide : ∀ i, i < 19 → ([33, 34, 35, 36, 37, 38, 39, 40, 41, 42, 43, 44, 45, 46, 47, 48, 49, 50, 51] : List Nat).getD i 0 < 56) i hi)
         (fun W => Bw wo W) (fun W W' => Bw W W') (dtV wo.heap.size (natI cutN) (.int .i64 S0) (.int .i64 (sgn i)) (.int .i64 x) (.int .i64 (sgn i * x)) (.slice (some ad) M.length c) (.slice (some ad1) (rows.length + 1) c1) (.slice P0 rows.length (c1 - 1)) (.slice (some ad2) cols.length c2) (.int .i64 (i : Int)) (.slice P1 i c2) (.slice (some ad2) cols.length c2) (.int .i64 (i : Int)) (.int .i64 ((i : Int) + 1)) (.slice P2 m2 q2x) (.int .i64 dd) (.int .i64 (sgn i * x * dd)) (.int .i64 (S0 + sgn i * x * dd)) (.slice P1 i c2) (.slice P2 m2 q2x)) (Bw.refl _).drew (fun k v W W' hk h g => dtV_st k v hk h g) (by kernel_rfl) (by kernel_rfl) ?hstep ?hlast
       case hstep =>
         intro k9 hk9 a W2 hR hoth hdep K hK
         rcases (by omega : k9 = 0 ∨ k9 = 1 ∨ k9 = 2 ∨ k9 = 3 ∨ k9 = 4 ∨ k9 = 5 ∨ k9 = 6 ∨ k9 = 7 ∨ k9 = 8 ∨ k9 = 9 ∨ k9 = 10 ∨ k9 = 11 ∨ k9 = 12 ∨ k9 = 13 ∨ k9 = 14 ∨ k9 = 15 ∨ k9 = 16 ∨ k9 = 17 ∨ k9 = 18) with rfl | rfl | rfl | rfl | rfl | rfl | rfl | rfl | rfl | rfl | rfl | rfl | rfl | rfl | rfl | rfl | rfl | rfl | rfl
         · refine ⟨_, (by simp only [List.getElem?_toArray, List.getElem?_cons_succ, List.getElem?_cons_zero]; exact rfl), rfl, ?_⟩
           have e0 : a.tmps[7]?.getD undef = .int .i64 S0 := (hoth 7 (by decide)).trans rfl
           go_simp
           exact hK _ W2 rfl hR (Bw.refl _)
         · refine ⟨_, (by simp only [List.getElem?_toArray, List.getElem?_cons_succ, List.getElem?_cons_zero]; exact rfl), rfl, ?_⟩
           have e0 : a.tmps[8]?.getD undef = .int .i64 (sgn i) := (hoth 8 (by decide)).trans rfl
           go_simp
           exact hK _ W2 rfl hR (Bw.refl _)
         · refine ⟨_, (by simp only [List.getElem?_toArray, List.getElem?_cons_succ, List.getElem?_cons_zero]; exact rfl), rfl, ?_⟩
           have e0 : a.tmps[11]?.getD undef = .int .i64 x := (hoth 11 (by decide)).trans rfl
           go_simp
           exact hK _ W2 rfl hR (Bw.refl _)
         · refine ⟨_, (by simp only [List.getElem?_toArray, List.getElem?_cons_succ, List.getElem?_cons_zero]; exact rfl), rfl, ?_⟩
           have e34 : a.tmps[34]?.getD undef = .int .i64 (sgn i) := hdep 1 (by decide) (by kernel_rfl)
           have e35 : a.tmps[35]?.getD undef = .int .i64 x := hdep 2 (by decide) (by kernel_rfl)
           go_simp
           exact hK _ W2 rfl hR (Bw.refl _)
         · refine ⟨_, (by simp only [List.getElem?_toArray, List.getElem?_cons_succ, List.getElem?_cons_zero]; exact rfl), rfl, ?_⟩
           have e0 : a.tmps[0]?.getD undef = .slice (some ad) M.length c := (hoth 0 (by decide)).trans rfl
           go_simp
           exact hK _ W2 rfl hR (Bw.refl _)
         · refine ⟨_, (by simp only [List.getElem?_toArray, List.getElem?_cons_succ, List.getElem?_cons_zero]; exact rfl), rfl, ?_⟩
           have e0 : a.tmps[1]?.getD undef = .slice (some ad1) (rows.length + 1) c1 := (hoth 1 (by decide)).trans rfl
           go_simp
           exact hK _ W2 rfl hR (Bw.refl _)
         · refine ⟨_, (by simp only [List.getElem?_toArray, List.getElem?_cons_succ, List.getElem?_cons_zero]; exact rfl), rfl, ?_⟩
           have e38 : a.tmps[38]?.getD undef = .slice (some ad1) (rows.length + 1) c1 := hdep 5 (by decide) (by kernel_rfl)
           have hcc := hc0 W2
           go_simp
           exact hK _ W2 rfl hR (Bw.refl _)
         · refine ⟨_, (by simp only [List.getElem?_toArray, List.getElem?_cons_succ, List.getElem?_cons_zero]; exact rfl), rfl, ?_⟩
           have e0 : a.tmps[2]?.getD undef = .slice (some ad2) cols.length c2 := (hoth 2 (by decide)).trans rfl
           go_simp
           exact hK _ W2 rfl hR (Bw.refl _)
         · refine ⟨_, (by simp only [List.getElem?_toArray, List.getElem?_cons_succ, List.getElem?_cons_zero]; exact rfl), rfl, ?_⟩
           have e0 : a.tmps[9]?.getD undef = .int .i64 (i : Int) := (hoth 9 (by decide)).trans rfl
           go_simp
           exact hK _ W2 rfl hR (Bw.refl _)
         · refine ⟨_, (by simp only [List.getElem?_toArray, List.getElem?_cons_succ, List.getElem?_cons_zero]; exact rfl), rfl, ?_⟩
           have e40 : a.tmps[40]?.getD undef = .slice (some ad2) cols.length c2 := hdep 7 (by decide) (by kernel_rfl)
           have e41 : a.tmps[41]?.getD undef = .int .i64 (i : Int) := hdep 8 (by decide) (by kernel_rfl)
           have hcc := hc1 W2
           go_simp
           exact hK _ W2 rfl hR (Bw.refl _)
         · refine ⟨_, (by simp only [List.getElem?_toArray, List.getElem?_cons_succ, List.getElem?_cons_zero]; exact rfl), rfl, ?_⟩
           have e0 : a.tmps[2]?.getD undef = .slice (some ad2) cols.length c2 := (hoth 2 (by decide)).trans rfl
           go_simp
           exact hK _ W2 rfl hR (Bw.refl _)
         · refine ⟨_, (by simp only [List.getElem?_toArray, List.getElem?_cons_succ, List.getElem?_cons_zero]; exact rfl), rfl, ?_⟩
           have e0 : a.tmps[9]?.getD undef = .int .i64 (i : Int) := (hoth 9 (by decide)).trans rfl
           go_simp
           exact hK _ W2 rfl hR (Bw.refl _)
         · refine ⟨_, (by simp only [List.getElem?_toArray, List.getElem?_cons_succ, List.getElem?_cons_zero]; exact rfl), rfl, ?_⟩
           have e44 : a.tmps[44]?.getD undef = .int .i64 (i : Int) := hdep 11 (by decide) (by kernel_rfl)
           go_simp
           exact hK _ W2 rfl hR (Bw.refl _)
         · refine ⟨_, (by simp only [List.getElem?_toArray, List.getElem?_cons_succ, List.getElem?_cons_zero]; exact rfl), rfl, ?_⟩
           have e43 : a.tmps[43]?.getD undef = .slice (some ad2) cols.length c2 := hdep 10 (by decide) (by kernel_rfl)
           have e45 : a.tmps[45]?.getD undef = .int .i64 ((i : Int) + 1) := hdep 12 (by decide) (by kernel_rfl)
           have hcc := hc2 W2
           go_simp
           exact hK _ W2 rfl hR (Bw.refl _)
         · refine ⟨_, (by simp only [List.getElem?_toArray, List.getElem?_cons_succ, List.getElem?_cons_zero]; exact rfl), rfl, ?_⟩
           have e42 : a.tmps[42]?.getD undef = .slice P1 i c2 := hdep 9 (by decide) (by kernel_rfl)
           have e46 : a.tmps[46]?.getD undef = .slice P2 m2 q2x := hdep 13 (by decide) (by kernel_rfl)
           go_simp
           exact hK _ _ ⟨W2.heap.size, rfl, Blk.new W2 _ _, hR.size⟩ (hR.alloc _) ((Bw.refl _).alloc _)
         · refine ⟨_, (by simp only [List.getElem?_toArray, List.getElem?_cons_succ, List.getElem?_cons_zero]; exact rfl), rfl, ?_⟩
           obtain ⟨g, e47, hbg, hlg⟩ : ∃ g, a.tmps[47]?.getD undef = .slice (some ⟨g, 0, none⟩) 2 2 ∧ Blk W2 g 27 #[.slice P1 i c2, .slice P2 m2 q2x] ∧ wo.heap.size ≤ g := hdep 14 (by decide) (by kernel_rfl)
           go_simp
           refine (CC.out W2 g hR hbg).mono ?_
           rintro e w3 ⟨s, rfl, hk3, hb3⟩
           exact hK _ w3 ((own_iat2 hk3).keep (fun b hb => hb.2) (fun _ _ => rfl)) (hR.trans hb3) hb3
         · refine ⟨_, (by simp only [List.getElem?_toArray, List.getElem?_cons_succ, List.getElem?_cons_zero]; exact rfl), rfl, ?_⟩
           have e37 : a.tmps[37]?.getD undef = .slice (some ad) M.length c := hdep 4 (by decide) (by kernel_rfl)
           have e39 : a.tmps[39]?.getD undef = .slice P0 rows.length (c1 - 1) := hdep 6 (by decide) (by kernel_rfl)
           have z48 : IB W2 W2.heap.size (a.tmps[48]?.getD undef) (natI cutN) := hdep 15 (by decide) (by kernel_rfl)
           obtain ⟨u, e48⟩ : ∃ u, a.tmps[48]?.getD undef = u := ⟨_, rfl⟩
           rw [e48] at z48
           go_simp
           refine (CD.out u W2 hR z48).mono ?_
           rintro e w3 ⟨rfl, hb3⟩
           exact hK _ w3 rfl (hR.trans hb3) hb3
         · refine ⟨_, (by simp only [List.getElem?_toArray, List.getElem?_cons_succ, List.getElem?_cons_zero]; exact rfl), rfl, ?_⟩
           have e36 : a.tmps[36]?.getD undef = .int .i64 (sgn i * x) := hdep 3 (by decide) (by kernel_rfl)
           have e49 : a.tmps[49]?.getD undef = .int .i64 dd := hdep 16 (by decide) (by kernel_rfl)
           go_simp
           exact hK _ W2 rfl hR (Bw.refl _)
         · refine ⟨_, (by simp only [List.getElem?_toArray, List.getElem?_cons_succ, List.getElem?_cons_zero]; exact rfl), rfl, ?_⟩
           have e33 : a.tmps[33]?.getD undef = .int .i64 S0 := hdep 0 (by decide) (by kernel_rfl)
           have e50 : a.tmps[50]?.getD undef = .int .i64 (sgn i * x * dd) := hdep 17 (by decide) (by kernel_rfl)
           go_simp
           exact hK _ W2 rfl hR (Bw.refl _)
       case hlast =>
         intro a W2 hdf hsz hR hoth hv
         refine ⟨_, (by simp only [List.getElem?_toArray, List.getElem?_cons_succ, List.getElem?_cons_zero]; exact rfl), rfl, ?_⟩
         have HSZ := Lib.hid hsz
         have HOT := Lib.hid hoth
         have x51 : a.tmps[51]?.getD undef = .int .i64 (S0 + sgn i * x * dd) := hv 18 (by decide)
         clear hsz hoth hv
         go_simp
         have ha := fold_all [33, 34, 35, 36, 37, 38, 39, 40, 41, 42, 43, 44, 45, 46, 47, 48, 49, 50, 51] 19 rfl hdf HSZ.out (fun d h => (by decide : ∀ d ∈ ([33, 34, 35, 36, 37, 38, 39, 40, 41, 42, 43, 44, 45, 46, 47, 48, 49, 50, 51] : List Nat), d < 56) d h) HOT.out
         simp only [List.map_cons, List.map_nil, List.foldl_cons, List.foldl_nil, x51, put_mk, List.setIfInBounds_toArray, List.set_cons_succ, List.set_cons_zero] at ha
         generalize a.tmps[33]?.getD undef = u33 at ha
         generalize a.tmps[34]?.getD undef = u34 at ha
         generalize a.tmps[35]?.getD undef = u35 at ha
         generalize a.tmps[36]?.getD undef = u36 at ha
         generalize a.tmps[37]?.getD undef = u37 at ha
         generalize a.tmps[38]?.getD undef = u38 at ha
         generalize a.tmps[39]?.getD undef = u39 at ha
         generalize a.tmps[40]?.getD undef = u40 at ha
         generalize a.tmps[41]?.getD undef = u41 at ha
         generalize a.tmps[42]?.getD undef = u42 at ha
         generalize a.tmps[43]?.getD undef = u43 at ha
         generalize a.tmps[44]?.getD undef = u44 at ha
         generalize a.tmps[45]?.getD undef = u45 at ha
         generalize a.tmps[46]?.getD undef = u46 at ha
         generalize a.tmps[47]?.getD undef = u47 at ha
         generalize a.tmps[48]?.getD undef = u48 at ha
         generalize a.tmps[49]?.getD undef = u49 at ha
         generalize a.tmps[50]?.getD undef = u50 at ha
         clear x51 HSZ HOT hdf
         subst ha
         go_wp2_with fail
         have h1 := HSS.out
         rw [if_neg HX0.out] at h1
         exact ⟨⟨i + 1, by omega, by rw [h1], by rw [sgn_succ], by simp, Lib.hid (HB.out.trans hR)⟩, by simp [intOf]; omega⟩
   · obtain rfl : i = cols.length := by omega
     go_wp2_with fail
     go_ret
     exact ⟨rfl, HB.out⟩
structure PrB (ops : Array Oper) (N : Nat) (D : Nat → Nat) (a0 : Act) (p : Nat) (R : Bool → World → Prop) (V : Nat → Value → World → Prop) (l : Array Bool) (a : Act) (w : World) : Prop where
 lz : l.size = ops.size
 df : a.defers = a0.defers
 sz : a.tmps.size = a0.tmps.size
 oth : ∀ d, (∀ i, i < N → D i ≠ d) → a.tmps[d]?.getD undef = a0.tmps[d]?.getD undef
 rw : R (l.getD p false) w
 vs : ∀ i, i < N → l.getD i false = true → V i (a.tmps[D i]?.getD undef) w
 cl : ∀ i m, i < N → l.getD i false = true → depB ops i m = true → l.getD m false = true
theorem wp_region_prodB {P : Program} {ops : Array Oper} {Q : Exit → Act → World → Prop} {id : Nat} {a0 : Act} {w : World} (hm : P.follows .mixedOrders = true) (N : Nat) (hN : ops.size = N + 1) (D : Nat → Nat) (hD : ∀ i j, i < N → j < N → D i = D j → i = j) (hDs : ∀ i, i < N → D i < a0.tmps.size)
   (p : Nat) (hp : p < N) (R : Bool → World → Prop) (S : Nat → World → World → Prop) (V : Nat → Value → World → Prop) (h0 : R false w.drew) (hst : ∀ i j v W W', i < N → j < N → i ≠ j → V i v W → S j W W' → V i v W') (hu : usedB ops N = true) (hac : acycB ops = true)
   (hstep : ∀ i, i < N → ∀ b a W, (i = p → b = false) → R b W → (∀ d, (∀ j, j < N → D j ≠ d) → a.tmps[d]?.getD undef = a0.tmps[d]?.getD undef) → (∀ m, m < N → depB ops i m = true → V m (a.tmps[D m]?.getD undef) W) →
     ∀ K : Act → World → Prop, (∀ v W', V i v W' → R (b || i == p) W' → S i W W' → K (a.put (some (D i)) v) W') → ∃ o, ops[i]? = some o ∧ o.guard = none ∧ o.wp P a W K Q)
   (hlast : ∀ a W, a.defers = a0.defers → a.tmps.size = a0.tmps.size → R true W → (∀ d, (∀ j, j < N → D j ≠ d) → a.tmps[d]?.getD undef = a0.tmps[d]?.getD undef) → (∀ i, i < N → V i (a.tmps[D i]?.getD undef) W) → ∃ o, ops[N]? = some o ∧ o.guard = none ∧ o.wp P a W (fun a' w' => Q .normal a' w') Q) :
   (Code.region id ops true).wp P Q a0 w := by
 refine wp_region_inv hm (fun l a W => (l.getD N false = false ∧ PrB ops N D a0 p R V l a W) ∨ (l.getD N false = true ∧ (∀ i, i < N → l.getD i false = true) ∧ l.size = ops.size ∧ Q .normal a W)) ?_ ?_ ?_
 · rintro l a W (⟨hnl, h⟩ | ⟨hnl, hall, hlz, hq⟩) i hi
   · obtain ⟨hun, o, ho, -⟩ := mem_ready.1 hi
     have hi5 : i < ops.size := by
       rcases Nat.lt_or_ge i ops.size with h' | h'
       · exact h'
       · simp [Array.getElem?_eq_none h'] at ho
     have hil : i < l.size := by rw [h.lz]; exact hi5
     have hnot : l.getD i false = false := by simp [hil] at hun ⊢; exact hun
     have hz' : (l.setIfInBounds i true).size = ops.size := by simpa using h.lz
     by_cases hiN : i < N
     · have hRb : ∀ W', R (l.getD p false || i == p) W' → R ((l.setIfInBounds i true).getD p false) W' := fun W' h => by
         by_cases e : i = p
         · subst e; simp [hil] at h ⊢; exact h
         · rw [_root_.Go.getD_set_ne false e]; rwa [beq_eq_false_iff_ne.2 e, Bool.or_false] at h
       have hK : ∀ v W', V i v W' → R (l.getD p false || i == p) W' → S i W W' → ((l.setIfInBounds i true).getD N false = false ∧ PrB ops N D a0 p R V (l.setIfInBounds i true) (a.put (some (D i)) v) W') ∨ ((l.setIfInBounds i true).getD N false = true ∧ (∀ j, j < N → (l.setIfInBounds i true).getD j false = true) ∧ (l.setIfInBounds i true).size = ops.size ∧ Q .normal (a.put (some (D i)) v) W') := fun v W' hv hR hS => .inl ⟨by rw [_root_.Go.getD_set_ne false (by omega)]; exact hnl, by
         have hlt : D i < a.tmps.size := by rw [h.sz]; exact hDs i hiN
         refine ⟨hz', h.df, by rw [put_size]; exact h.sz, fun d hd => ?_, hRb _ hR, fun j hj hl => ?_, fun j m hj hl hd => ?_⟩
         · rw [put_getD hlt, if_neg (fun e => hd i hiN e.symm)]; exact h.oth d hd
         · rw [put_getD hlt]
           by_cases e : j = i
           · subst e; rw [if_pos rfl]; exact hv
           · rw [if_neg (fun e2 => e (hD j i hj hiN e2))]
             rw [_root_.Go.getD_set_ne false (Ne.symm e)] at hl
             exact hst j i _ W W' hj hiN e (h.vs j hj hl) hS
         · have hset : ∀ m, l.getD m false = true → (l.setIfInBounds i true).getD m false = true := fun m hm => getD_set_true hm
           by_cases e : j = i
           · subst e; exact hset m (dep_listed hd hi)
           · rw [_root_.Go.getD_set_ne false (Ne.symm e)] at hl
             exact hset m (h.cl j m hj hl hd)⟩
       obtain ⟨o', ho', hg, hw⟩ := hstep i hiN (l.getD p false) a W (fun e => by subst e; exact hnot) h.rw h.oth (fun m hm hd => h.vs m hm (dep_listed hd hi)) (fun a' w' => ((l.setIfInBounds i true).getD N false = false ∧ PrB ops N D a0 p R V (l.setIfInBounds i true) a' w') ∨ ((l.setIfInBounds i true).getD N false = true ∧ (∀ j, j < N → (l.setIfInBounds i true).getD j false = true) ∧ (l.setIfInBounds i true).size = ops.size ∧ Q .normal a' w')) hK
       exact wpOp_of ho' hg hw
     · obtain rfl : i = N := by omega
       have hall : ∀ k j, j < i → i - j ≤ k → l.getD j false = true := by
         intro k
         induction k with
         | zero => intro j hj hk; omega
         | succ k ih =>
           intro j hj hk
           have h1 := List.all_eq_true.1 hu j (List.mem_range.2 hj)
           rw [Bool.or_eq_true] at h1
           rcases h1 with h1 | h1
           · exact dep_listed h1 hi
           · obtain ⟨q, hq, h2⟩ := List.any_eq_true.1 h1
             rw [Bool.and_eq_true, decide_eq_true_eq] at h2
             have hqi := List.mem_range.1 hq
             exact h.cl q j hqi (ih q hqi (by omega)) h2.2
       have hall' : ∀ j, j < i → l.getD j false = true := fun j hj => hall (i - j) j hj (Nat.le_refl _)
       obtain ⟨o', ho', hg, hw⟩ := hlast a W h.df h.sz (by have := h.rw; rwa [hall' p hp] at this) h.oth (fun j hj => h.vs j hj (hall' j hj))
       refine wpOp_of ho' hg (Oper.wp_mono (fun a' w' hq => .inr ⟨by simp [hil], fun j hj => getD_set_true (hall' j hj), hz', hq⟩) hw)
   · exfalso
     obtain ⟨hun, o, ho, -⟩ := mem_ready.1 hi
     have hi5 : i < ops.size := by
       rcases Nat.lt_or_ge i ops.size with h' | h'
       · exact h'
       · simp [Array.getElem?_eq_none h'] at ho
     have hil : i < l.size := by omega
     have h1 : l.getD i false = true := by
       rcases Nat.lt_or_ge i N with h2 | h2
       · exact hall i h2
       · rw [show i = N by omega]; exact hnl
     simp [hil] at hun h1
     rw [hun] at h1; cases h1
 · rintro l a W (⟨hnl, h⟩ | ⟨hnl, hall, hlz, hq⟩) hr
   · have := all_listed hac h.lz hr N (by omega)
     rw [hnl] at this; cases this
   · exact hq
 · left
   have hno : ∀ i, (Array.replicate ops.size false).getD i false = false := fun i => by
     by_cases h : i < ops.size <;> simp [h]
   exact ⟨hno N, by simp, rfl, rfl, fun _ _ => rfl, by rw [hno p]; exact h0, (fun i _ hl => by rw [hno i] at hl; cases hl), (fun i m _ hl => by rw [hno i] at hl; cases hl)⟩
structure SAt (w : World) (S : Nat → Prop) (bv ov fv : Value) (s : Sk) : Prop where
 b : KAt w S bv s.ba
 o : ∃ ps, EAt encO w S ov ps ∧ ps.map (·.1) = s.og
 f : KAt w S fv s.fr
abbrev aggS (bv ov fv : Value) (us : Int) : Value := .agg #[bv, ov, fv, .int .i64 us]
section
variable {w w' A W : World} {B : Nat} {K : Option Nat} {bv ov fv v' : Value} {s : Sk}
end
def encS : Enc (St × Value) := ⟨3, fun p => [.int .i64 p.1.r, .int .i64 p.1.v.n, p.2], fun _ => rfl, fun p => [(p.2, p.1.v.ks)]⟩
def LAt (w : World) (S : Nat → Prop) (v : Value) (ls : List (List V)) : Prop := ∃ (A : Option Addr) (n c : Nat) (ss : List Value), v = .slice A n c ∧ ls.length = n ∧ ss.length = n ∧ n ≤ c ∧ c ≤ maxLen ∧ (0 < n → ∃ ad, A = some ad ∧ S ad.block ∧ ∀ k (h : k < ss.length), w.cell? (ad.add k) = some ss[k]) ∧ ∀ k (h : k < ls.length) (h' : k < ss.length), KAt w S ss[k] ls[k]
abbrev LB (w : World) (B : Nat) (v : Value) (ls : List (List V)) : Prop := LAt w (· < B) v ls
section
variable {w w' : World} {S S' : Nat → Prop} {v : Value} {ls : List (List V)}
end

theorem KAt.reads {w : World} {B : Nat} {S : Nat → Prop} {A : Option Addr} {n c : Nat} {l : List V} (h : KAt w S (.slice A n c) l) (hS : ∀ b, S b → b < B) : ∃ ps : List VS, ps.map (·.1) = l ∧ Reads w B 2 A n (pCells ps) ∧ (∀ p ∈ ps, KAt w S p.2 p.1.ks) ∧ ∀ u ∈ pCells ps, u.oneCell' = true := by
 obtain ⟨ps, hps, hcell, hkid⟩ := h.pairs
 have hln : l.length = n := by obtain ⟨_, _, _, e, h1, _, _⟩ := h.form; injection e with e1 e2 e3; subst e2; exact h1
 have hpl : ps.length = n := by rw [← hln, ← hps]; simp
 refine ⟨ps, hps, ⟨by rw [pCells_length, hpl], fun hn => ?_⟩, hkid, fun u hu => ?_⟩
 · obtain ⟨ad, _, _, _, rfl, hb, _⟩ := h.at_ (k := 0) (by omega)
   exact ⟨ad, rfl, hS _ hb, fun j u hu => (hcell ad rfl j u hu).1⟩
 · obtain ⟨p, hp, hu⟩ := List.mem_flatMap.1 hu
   obtain ⟨A', n', c', e, _⟩ := (hkid p hp).form
   simp only [List.mem_cons, List.not_mem_nil, or_false] at hu
   rcases hu with rfl | rfl
   · rfl
   · rw [e]; rfl
end
end Go.Proofs.YthhbkabdhkdafaaGreat
