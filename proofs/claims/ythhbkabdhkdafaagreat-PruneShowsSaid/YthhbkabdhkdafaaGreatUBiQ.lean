/- Part of a proof of pruneShows_holds. -/
import Derived.Test.YthhbkabdhkdafaaGreatUBhQ
import Derived.ArgAppend
set_option linter.unusedSimpArgs false
set_option linter.unusedVariables false
set_option maxRecDepth 100000
set_option maxHeartbeats 16000000
namespace Go.Proofs.YthhbkabdhkdafaaGreat
section
open Go.RowKit
def natI (l : List Nat) : List Int := l.map fun (x : Nat) => (x : Int)
def detS (M : List (List Int)) (r : Nat) (rs cs : List Nat) (i : Nat) : Int := (List.range i).foldl (fun s i => if entM M r (cs.getD i 0) = 0 then s else s + sgn i * entM M r (cs.getD i 0) * detP M rs (cs.take i ++ cs.drop (i + 1))) 0
theorem detS_succ (M : List (List Int)) (r : Nat) (rs cs : List Nat) (i : Nat) : detS M r rs cs (i + 1) = if entM M r (cs.getD i 0) = 0 then detS M r rs cs i else detS M r rs cs i + sgn i * entM M r (cs.getD i 0) * detP M rs (cs.take i ++ cs.drop (i + 1)) := by
 unfold detS
 rw [List.range_succ, List.foldl_append]
 rfl
theorem detP_cons (M : List (List Int)) (r : Nat) (rs cs : List Nat) : detP M (r :: rs) cs = detS M r rs cs cs.length := rfl
def DetSays (M : List (List Int)) (k : Nat) (rows : List Nat) (D : Nat) : Prop := ∀ cols : List Nat, cols.length = rows.length → (∀ c ∈ cols, c < k) → (detP M rows cols).natAbs ≤ D ∧
 ∀ (v rv cv : Value) (W : World), MxAt W (· < W.heap.size) v M → IB W W.heap.size rv (natI rows) → IB W W.heap.size cv (natI cols) → Calls Tryz.prog 274 #[v, rv, cv] W (NumPost W (detP M rows cols))
theorem det_zero (M : List (List Int)) (k : Nat) : DetSays M k [] 1 := by
 intro cols hl hc
 refine ⟨by simp [detP], fun v rv cv W h h1 h2 => ?_⟩
 obtain ⟨A, c, rfl, -, -⟩ := h.form
 obtain ⟨A1, n1, c1, rfl, l1, -, -⟩ := h1.form
 obtain ⟨A2, n2, c2, rfl, l2, -, -⟩ := h2.form
 obtain rfl : n1 = 0 := by rw [← l1]; rfl
 go_enter Tryz.func274, Tryz.ntmps274
 go_wp2_with fail
 go_ret
 exact ⟨rfl, Bw.refl _⟩
theorem sgn_succ (i : Nat) : sgn (i + 1) = -sgn i := by
 unfold sgn
 rcases Nat.mod_two_eq_zero_or_one i with h | h <;> simp [h, Nat.add_mod]
theorem sgn_abs (i : Nat) : sgn i = 1 ∨ sgn i = -1 := by unfold sgn; split <;> simp
theorem cutI_h (A : Option Addr) (n c m : Nat) (h2 : m ≤ c) (W : World) : (Instr.slice 27 (.slice A n c) none (some (.int .i64 (m : Int))) none).run Tryz.prog W = .ok (sliced A 0 m c 1) W := by
 rw [run_slice_h W 27 A n c (by kernel_rfl) .i64 (m : Int) (by omega) (by omega)]
 have : (sizeOf (Tryz.prog.elem 27)).run Tryz.prog W = .ok 1 W := by kernel_rfl
 rw [this]; simp [Result.andThen]
theorem iiat_blk {w : World} {g : Nat} {a b : Value} {x y : List Int} {ty : TypeId} (hk : Blk w g ty #[a, b]) (ha : IB w w.heap.size a x) (hb : IB w w.heap.size b y) : IIAt w (· < w.heap.size) (.slice (some ⟨g, 0, none⟩) 2 2) [x, y] := by
 refine ⟨_, 2, 2, [a, b], rfl, rfl, rfl, Nat.le_refl _, by unfold maxLen; omega, fun _ => ⟨_, rfl, hk.lt, fun k h => ?_⟩, fun k h h' => ?_⟩
 · match k, h with
   | 0, _ => exact hk.cell 0
   | 1, _ => exact hk.cell 1
 · match k, h, h' with
   | 0, _, _ => exact ha
   | 1, _, _ => exact hb
def dtV (lo : Nat) (cut : List Int) (v0 v1 v2 v3 v4 v5 v6 v7 v8 v9 v10 v11 v12 v13 v16 v17 v18 w1 w2 : Value) : Nat → Value → World → Prop
 | 0, v, _ => v = v0
 | 1, v, _ => v = v1
 | 2, v, _ => v = v2
 | 3, v, _ => v = v3
 | 4, v, _ => v = v4
 | 5, v, _ => v = v5
 | 6, v, _ => v = v6
 | 7, v, _ => v = v7
 | 8, v, _ => v = v8
 | 9, v, _ => v = v9
 | 10, v, _ => v = v10
 | 11, v, _ => v = v11
 | 12, v, _ => v = v12
 | 13, v, _ => v = v13
 | 14, v, W => ∃ g, v = .slice (some ⟨g, 0, none⟩) 2 2 ∧ Blk W g 27 #[w1, w2] ∧ lo ≤ g
 | 15, v, W => IB W W.heap.size v cut
 | 16, v, _ => v = v16
 | 17, v, _ => v = v17
 | 18, v, _ => v = v18
 | _, _, _ => True
theorem dtV_st {lo : Nat} {cut : List Int} {v0 v1 v2 v3 v4 v5 v6 v7 v8 v9 v10 v11 v12 v13 v16 v17 v18 w1 w2 : Value} {W W' : World} (k : Nat) (v : Value) (hk : k < 19) (h : dtV lo cut v0 v1 v2 v3 v4 v5 v6 v7 v8 v9 v10 v11 v12 v13 v16 v17 v18 w1 w2 k v W) (g : Bw W W') : dtV lo cut v0 v1 v2 v3 v4 v5 v6 v7 v8 v9 v10 v11 v12 v13 v16 v17 v18 w1 w2 k v W' := by
 rcases (by omega : k = 0 ∨ k = 1 ∨ k = 2 ∨ k = 3 ∨ k = 4 ∨ k = 5 ∨ k = 6 ∨ k = 7 ∨ k = 8 ∨ k = 9 ∨ k = 10 ∨ k = 11 ∨ k = 12 ∨ k = 13 ∨ k = 14 ∨ k = 15 ∨ k = 16 ∨ k = 17 ∨ k = 18) with rfl | rfl | rfl | rfl | rfl | rfl | rfl | rfl | rfl | rfl | rfl | rfl | rfl | rfl | rfl | rfl | rfl | rfl | rfl
 · exact h
 · exact h
 · exact h
 · exact h
 · exact h
 · exact h
 · exact h
 · exact h
 · exact h
 · exact h
 · exact h
 · exact h
 · exact h
 · exact h
 · obtain ⟨q, h1, h2, h3⟩ := h; exact ⟨q, h1, h2.below g.b h2.lt, h3⟩
 · exact IAt.bw h g
 · exact h
 · exact h
 · exact h
theorem det_step (M : List (List Int)) (n9 k : Nat) (ho : MxOk M n9 k) (r : Nat) (hr : r < n9) (rows : List Nat) (hrl : rows.length ≤ 2) (D : Nat) (hD : D ≤ 100000) (ih : DetSays M k rows D) : DetSays M k (r :: rows) ((rows.length + 1) * (16 * D)) := by
 intro cols hl hc
 have hML := ho.ln
 have hrM : r < M.length := by omega
 have hrow : M[r].length = k := ho.rw _ (List.getElem_mem hrM)
 have hin : ∀ i (hi : i < cols.length), cols.getD i 0 = cols[i] ∧ cols[i] < k := fun i hi => ⟨by simp [List.getD, hi], hc _ (List.getElem_mem hi)⟩
 have hentE : ∀ i (hi : i < cols.length), ∃ h : cols[i] < M[r].length, entM M r (cols.getD i 0) = M[r][cols[i]] := fun i hi => by
   obtain ⟨h1, h2⟩ := hin i hi
   refine ⟨by rw [hrow]; exact h2, ?_⟩
   have h2' : cols[i] < M[r].length := by rw [hrow]; exact h2
   rw [entM, h1]
   simp [List.getD, hrM, h2']
 have hent : ∀ i, i < cols.length → (entM M r (cols.getD i 0)).natAbs ≤ 16 := fun i hi => by
   obtain ⟨h, e⟩ := hentE i hi
   have := ho.en _ (List.getElem_mem hrM) _ (List.getElem_mem h)
   rw [e]; omega
 have hcut : ∀ i, i < cols.length → (cols.take i ++ cols.drop (i + 1)).length = rows.length ∧ ∀ c ∈ cols.take i ++ cols.drop (i + 1), c < k := fun i hi => by
   refine ⟨by simp; simp at hl; omega, fun c h => hc c ?_⟩
   rcases List.mem_append.1 h with h | h
   · exact List.mem_of_mem_take h
   · exact List.mem_of_mem_drop h
 have hterm : ∀ i, i < cols.length → (sgn i * entM M r (cols.getD i 0) * detP M rows (cols.take i ++ cols.drop (i + 1))).natAbs ≤ 16 * D := fun i hi => by
   rw [Int.natAbs_mul, Int.natAbs_mul]
   have h1 := hent i hi
   have h2 := (ih _ (hcut i hi).1 (hcut i hi).2).1
   have h3 : (sgn i).natAbs = 1 := by rcases sgn_abs i with h | h <;> rw [h] <;> rfl
   rw [h3, Nat.one_mul]
   exact Nat.mul_le_mul h1 h2
 have hbd : ∀ i, i ≤ cols.length → (detS M r rows cols i).natAbs ≤ i * (16 * D) := by
   intro i
   induction i with
   | zero => intro _; simp [detS]
   | succ i ih2 =>
     intro hi
     have h1 := ih2 (by omega)
     have h2 := hterm i (by omega)
     rw [detS_succ, Nat.succ_mul]
     split
     · omega
     · omega
 have hlen : cols.length = rows.length + 1 := by simpa using hl
 refine ⟨by rw [detP_cons, ← hlen]; exact hbd _ (Nat.le_refl _), fun v rv cv W h h1 h2 => ?_⟩
 rw [detP_cons]
 obtain ⟨A, c, rfl, -, -⟩ := h.form
 obtain ⟨A1, n1, c1, rfl, l1, b1, -⟩ := h1.form
 obtain ⟨A2, n2, c2, rfl, l2, b2, -⟩ := h2.form
 obtain rfl : n1 = rows.length + 1 := by rw [← l1]; simp [natI]
 obtain rfl : n2 = cols.length := by rw [← l2]; simp [natI]
 obtain ⟨ad, rA, rc, rfl, hab, z0, hri⟩ := h.at_ hrM
 rw [hrow] at z0 hri
 obtain ⟨ad1, rfl, hb1, z1⟩ := h1.at_ (k := 0) (by simp [natI])
 replace z1 : W.cell? ad1 = some (.int .i64 (r : Int)) := by simpa [Addr.add, natI] using z1
 have hn0 : ((rows.length : Int) + 1 == 0) = false := by simp; omega
 have hn1 : ¬ ((rows.length : Int) + 1 = 0) := by omega
 have HH := Lib.hid (And.intro h (And.intro h1 (And.intro h2 hri)))
 have HIN := Lib.hid (And.intro hin (And.intro hentE (And.intro hent (And.intro hcut (And.intro hterm hbd)))))
 have HIH := Lib.hid ih
 have HZ : Hid (∀ X, Bw W X → X.cell? (ad.add r) = some (.slice rA k rc) ∧ X.cell? ad1 = some (.int .i64 (r : Int))) := Lib.hid (fun X g => ⟨(g.b.cell (by rw [add_block]; exact hab)).trans z0, (g.b.cell hb1).trans z1⟩)
 clear h h1 h2 hri hin hentE hent hcut hterm hbd ih l1 l2 hc ho z0 z1 hab hb1
 have hrn : (r : Int) < (M.length : Int) := by omega
 have HLE := Lib.hid (And.intro hlen (And.intro hML hrow))
 have hl3 : cols.length ≤ 3 := by omega
 clear hlen hML hrow hl hn0 hn1
 have hn0 : ((rows.length : Int) + 1 == 0) = false := by simp; omega
 have hn1 : ¬ ((rows.length : Int) + 1 = 0) := by omega
 go_enter Tryz.func274, Tryz.ntmps274
 go_wp2_with fail
 go_loopw [7, 8, 17] (fun s7 s8 s17 wi => ∃ i, i ≤ cols.length ∧ s7 = .int .i64 (detS M r rows cols i) ∧ s8 = .int .i64 (sgn i) ∧ s17 = .int .i64 (i : Int) ∧ Hid (Bw W wi)) (fun _ _ s17 _ => cols.length - (intOf s17).toNat)
 case atStart => exact ⟨0, by omega, rfl, rfl, rfl, Lib.hid (Bw.refl _)⟩
 case round =>
   obtain ⟨wo, hwo⟩ : ∃ wo, wo = wr := ⟨_, rfl⟩
   subst hwo
   obtain ⟨i, hi, rfl, rfl, rfl, HB⟩ := hrel
   by_cases hlt : i < cols.length
   · have hlt' : (i : Int) < (cols.length : Int) := by omega
     obtain ⟨y0, y1⟩ := HZ.out _ HB.out
     obtain ⟨ad2, rfl, hb2, z2⟩ := (HH.out.2.2.1.bw HB.out).at_ (k := i) (by simp [natI]; exact hlt)
     replace z2 : wo.cell? (ad2.add i) = some (.int .i64 (cols[i] : Int)) := by simpa [natI] using z2
     obtain ⟨hck, hxe⟩ := HIN.out.2.1 i hlt
     obtain ⟨ad3, rfl, hb3, z3⟩ := (HH.out.2.2.2.bw HB.out).at_ hck
     rw [← hxe] at z3
     clear hxe hck
     have hx16 := HIN.out.2.2.1 i hlt
     have hcc := (HIN.out.1 i hlt).2
     have hck' : (cols[i] : Int) < (k : Int) := by omega
     have hsg := sgn_abs i
     have HSS := Lib.hid (detS_succ M r rows cols i)
     have hb9 := HIN.out.2.2.2.2.2 i hi
     generalize entM M r (cols.getD i 0) = x at *
     generalize cols[i] = ci at *
     have HCUT := Lib.hid HIN.out.2.2.2.1
     clear HIN
     by_cases hx0 : x = 0
     · subst hx0
       go_wp2_with fail
       have h1 := HSS.out
       rw [if_pos rfl] at h1
       exact ⟨⟨i + 1, by omega, by rw [h1], by rw [sgn_succ], by simp, HB⟩, by simp [intOf]; omega⟩
     · have hx1 : (x != 0) = true := by simpa using hx0
       go_upto_region 9 with fail
       obtain ⟨P0, hP0⟩ := sliced_form (some ad1) 1 (rows.length + 1) c1 1
       obtain ⟨P1, hP1⟩ := sliced_form (some ad2) 0 i c2 1
       obtain ⟨P2, hP2⟩ := sliced_form (some ad2) (i + 1) cols.length c2 1
       rw [Nat.add_sub_cancel] at hP0
       rw [Nat.sub_zero, Nat.sub_zero] at hP1
       have hc0 := fun W => cutI_l (some ad1) (rows.length + 1) c1 1 (by omega) W
       have hc1 := fun W => cutI_h (some ad2) cols.length c2 i (by omega) W
       have hc2 := fun W => cutI_l (some ad2) cols.length c2 (i + 1) (by omega) W
       have q0 := (HH.out.2.1.bw HB.out).part (k := 1) (m := rows.length + 1) (by omega) (Nat.le_refl _)
       have q1 := (HH.out.2.2.1.bw HB.out).part (k := 0) (m := i) (Nat.zero_le _) (by omega)
       have q2 := (HH.out.2.2.1.bw HB.out).part (k := i + 1) (m := cols.length) (by omega) (Nat.le_refl _)
       rw [hP0] at q0 hc0
       rw [hP1] at q1 hc1
       rw [hP2] at q2 hc2
       rw [List.drop_zero, show (natI cols).take i = natI (cols.take i) by simp [natI, List.map_take]] at q1
       rw [List.take_of_length_le (by simp [natI]), show (natI cols).drop (i + 1) = natI (cols.drop (i + 1)) by simp [natI, List.map_drop]] at q2
       rw [List.take_of_length_le (by simp [natI]), show (natI (r :: rows)).drop 1 = natI rows by simp [natI]] at q0
       push_cast at hc0
       push_cast at hc2
       obtain ⟨cutN, hcutN⟩ : ∃ cutN, cols.take i ++ cols.drop (i + 1) = cutN := ⟨_, rfl⟩
       have hih := HIH.out cutN (by rw [← hcutN]; exact (HCUT.out i hlt).1) (by rw [← hcutN]; exact (HCUT.out i hlt).2)
       have CC : Hid (∀ X g, Bw wo X → Blk X g 27 #[.slice P1 i c2, .slice P2 (cols.length - (i + 1)) (c2 - (i + 1))] → Calls Tryz.prog 339 #[.slice (some ⟨g, 0, none⟩) 2 2] X (IntsF X (natI cutN))) := Lib.hid (fun X g hX hb => by
         have := concatI_any [natI (cols.take i), natI (cols.drop (i + 1))] (by simp [natI]; omega) _ X (iiat_blk hb (q1.bw hX) (q2.bw hX))
         rwa [show [natI (cols.take i), natI (cols.drop (i + 1))].flatten = natI cutN by rw [← hcutN]; simp [natI]] at this)
       have CD : Hid (∀ u X, Bw wo X → IB X X.heap.size u (natI cutN) → Calls Tryz.prog 274 #[.slice (some ad) M.length c, .slice P0 rows.length (c1 - 1), u] X (NumPost X (detP M rows cutN))) := Lib.hid (fun u X hX hu => hih.2 _ _ _ X (HH.out.1.bw (HB.out.trans hX)) (q0.bw hX) hu)
       have hdd := hih.1
       rw [hcutN] at HSS
       have hS9 : (detS M r rows cols i).natAbs ≤ 300 * D := Nat.le_trans hb9 (by
         have : i * (16 * D) ≤ 3 * (16 * D) := Nat.mul_le_mul_right _ (by omega)
         omega)
       generalize detP M rows cutN = dd at *
       generalize detS M r rows cols i = S0 at *
       generalize cols.length - (i + 1) = m2 at *
       generalize c2 - (i + 1) = q2x at *
       have HX0 := Lib.hid hx0
       have hsx : (sgn i * x).natAbs ≤ 16 := by rcases hsg with h | h <;> rw [h] <;> omega
       have hsd : (sgn i * x * dd).natAbs ≤ 16 * D := by rw [Int.natAbs_mul]; exact Nat.mul_le_mul hsx hdd
       have w1 : IntKind.i64.wrap (sgn i * x) = sgn i * x := IntWalk.i64_in _ (by omega)
       have w2 : IntKind.i64.wrap (sgn i * x * dd) = sgn i * x * dd := IntWalk.i64_in _ (by omega)
       have w3 : IntKind.i64.wrap (S0 + sgn i * x * dd) = S0 + sgn i * x * dd := IntWalk.i64_in _ (by omega)
       have w4 : IntKind.i64.wrap ((i : Int) + 1) = (i : Int) + 1 := IntWalk.i64_in _ (by omega)
       have w5 : IntKind.i64.wrap (-sgn i) = -sgn i := IntWalk.i64_in _ (by rcases hsg with h | h <;> rw [h] <;> omega)
       clear q0 q1 q2 hP0 hP1 hP2 hih hS9 hb9 hdd hsx hsd hsg hx1 z2 z3 y0 y1
       refine wp_region_prod mixedO 19 (by rfl) (fun i => ([33, 34, 35, 36, 37, 38, 39, 40, 41, 42, 43, 44, 45, 46, 47, 48, 49, 50, 51] : List Nat).getD i 0) (fun i j hi hj => (by decide : ∀ i, i < 19 → ∀ j, j < 19 → ([33, 34, 35, 36, 37, 38, 39, 40, 41, 42, 43, 44, 45, 46, 47, 48, 49, 50, 51] : List Nat).getD i 0 = ([33, 34, 35, 36, 37, 38, 39, 40, 41, 42, 43, 44, 45, 46, 47, 48, 49, 50, 51] : List Nat).getD j 0 → i = j) i hi j hj) (fun i hi => (by decide : ∀ i, i < 19 → ([33, 34, 35, 36, 37, 38, 39, 40, 41, 42, 43, 44, 45, 46, 47, 48, 49, 50, 51] : List Nat).getD i 0 < 56) i hi)
         (fun W => Bw wo W) (fun W W' => Bw W W') (dtV wo.heap.size (natI cutN) (.int .i64 S0) (.int .i64 (sgn i)) (.int .i64 x) (.int .i64 (sgn i * x)) (.slice (some ad) M.length c) (.slice (some ad1) (rows.length + 1) c1) (.slice P0 rows.length (c1 - 1)) (.slice (some ad2) cols.length c2) (.int .i64 (i : Int)) (.slice P1 i c2) (.slice (some ad2) cols.length c2) (.int .i64 (i : Int)) (.int .i64 ((i : Int) + 1)) (.slice P2 m2 q2x) (.int .i64 dd) (.int .i64 (sgn i * x * dd)) (.int .i64 (S0 + sgn i * x * dd)) (.slice P1 i c2) (.slice P2 m2 q2x)) (Bw.refl _).drew (fun k v W W' hk h g => dtV_st k v hk h g) (by kernel_rfl) (by kernel_rfl) ?hstep ?hlast
       case hstep =>
         intro k9 hk9 a W2 hR hoth hdep K hK
         rcases (by omega : k9 = 0 ∨ k9 = 1 ∨ k9 = 2 ∨ k9 = 3 ∨ k9 = 4 ∨ k9 = 5 ∨ k9 = 6 ∨ k9 = 7 ∨ k9 = 8 ∨ k9 = 9 ∨ k9 = 10 ∨ k9 = 11 ∨ k9 = 12 ∨ k9 = 13 ∨ k9 = 14 ∨ k9 = 15 ∨ k9 = 16 ∨ k9 = 17 ∨ k9 = 18) with rfl | rfl | rfl | rfl | rfl | rfl | rfl | rfl | rfl | rfl | rfl | rfl | rfl | rfl | rfl | rfl | rfl | rfl | rfl
         · refine ⟨_, (by simp only [List.getElem?_toArray, List.getElem?_cons_succ, List.getElem?_cons_zero]; exact rfl), rfl, ?_⟩
           have e0 : a.tmps[7]?.getD undef = .int .i64 S0 := (hoth 7 (by decide)).trans rfl
           go_simp
           exact hK _ W2 rfl hR (Bw.refl _)
         · refine ⟨_, (by simp only [List.getElem?_toArray, List.getElem?_cons_succ, List.getElem?_cons_zero]; exact rfl), rfl, ?_⟩
           have e0 : a.tmps[8]?.getD undef = .int .i64 (sgn i) := (hoth 8 (by decide)).trans rfl
           go_simp
           exact hK _ W2 rfl hR (Bw.refl _)
         · refine ⟨_, (by simp only [List.getElem?_toArray, List.getElem?_cons_succ, List.getElem?_cons_zero]; exact rfl), rfl, ?_⟩
           have e0 : a.tmps[11]?.getD undef = .int .i64 x := (hoth 11 (by decide)).trans rfl
           go_simp
           exact hK _ W2 rfl hR (Bw.refl _)
         · refine ⟨_, (by simp only [List.getElem?_toArray, List.getElem?_cons_succ, List.getElem?_cons_zero]; exact rfl), rfl, ?_⟩
           have e34 : a.tmps[34]?.getD undef = .int .i64 (sgn i) := hdep 1 (by decide) (by kernel_rfl)
           have e35 : a.tmps[35]?.getD undef = .int .i64 x := hdep 2 (by decide) (by kernel_rfl)
           go_simp
           exact hK _ W2 rfl hR (Bw.refl _)
         · refine ⟨_, (by simp only [List.getElem?_toArray, List.getElem?_cons_succ, List.getElem?_cons_zero]; exact rfl), rfl, ?_⟩
           have e0 : a.tmps[0]?.getD undef = .slice (some ad) M.length c := (hoth 0 (by decide)).trans rfl
           go_simp
           exact hK _ W2 rfl hR (Bw.refl _)
         · refine ⟨_, (by simp only [List.getElem?_toArray, List.getElem?_cons_succ, List.getElem?_cons_zero]; exact rfl), rfl, ?_⟩
           have e0 : a.tmps[1]?.getD undef = .slice (some ad1) (rows.length + 1) c1 := (hoth 1 (by decide)).trans rfl
           go_simp
           exact hK _ W2 rfl hR (Bw.refl _)
         · refine ⟨_, (by simp only [List.getElem?_toArray, List.getElem?_cons_succ, List.getElem?_cons_zero]; exact rfl), rfl, ?_⟩
           have e38 : a.tmps[38]?.getD undef = .slice (some ad1) (rows.length + 1) c1 := hdep 5 (by decide) (by kernel_rfl)
           have hcc := hc0 W2
           go_simp
           exact hK _ W2 rfl hR (Bw.refl _)
         · refine ⟨_, (by simp only [List.getElem?_toArray, List.getElem?_cons_succ, List.getElem?_cons_zero]; exact rfl), rfl, ?_⟩
           have e0 : a.tmps[2]?.getD undef = .slice (some ad2) cols.length c2 := (hoth 2 (by decide)).trans rfl
           go_simp
           exact hK _ W2 rfl hR (Bw.refl _)
         · refine ⟨_, (by simp only [List.getElem?_toArray, List.getElem?_cons_succ, List.getElem?_cons_zero]; exact rfl), rfl, ?_⟩
           have e0 : a.tmps[9]?.getD undef = .int .i64 (i : Int) := (hoth 9 (by decide)).trans rfl
           go_simp
           exact hK _ W2 rfl hR (Bw.refl _)
         · refine ⟨_, (by simp only [List.getElem?_toArray, List.getElem?_cons_succ, List.getElem?_cons_zero]; exact rfl), rfl, ?_⟩
           have e40 : a.tmps[40]?.getD undef = .slice (some ad2) cols.length c2 := hdep 7 (by decide) (by kernel_rfl)
           have e41 : a.tmps[41]?.getD undef = .int .i64 (i : Int) := hdep 8 (by decide) (by kernel_rfl)
           have hcc := hc1 W2
           go_simp
           exact hK _ W2 rfl hR (Bw.refl _)
         · refine ⟨_, (by simp only [List.getElem?_toArray, List.getElem?_cons_succ, List.getElem?_cons_zero]; exact rfl), rfl, ?_⟩
           have e0 : a.tmps[2]?.getD undef = .slice (some ad2) cols.length c2 := (hoth 2 (by decide)).trans rfl
           go_simp
           exact hK _ W2 rfl hR (Bw.refl _)
         · refine ⟨_, (by simp only [List.getElem?_toArray, List.getElem?_cons_succ, List.getElem?_cons_zero]; exact rfl), rfl, ?_⟩
           have e0 : a.tmps[9]?.getD undef = .int .i64 (i : Int) := (hoth 9 (by decide)).trans rfl
           go_simp
           exact hK _ W2 rfl hR (Bw.refl _)
         · refine ⟨_, (by simp only [List.getElem?_toArray, List.getElem?_cons_succ, List.getElem?_cons_zero]; exact rfl), rfl, ?_⟩
           have e44 : a.tmps[44]?.getD undef = .int .i64 (i : Int) := hdep 11 (by decide) (by kernel_rfl)
           go_simp
           exact hK _ W2 rfl hR (Bw.refl _)
         · refine ⟨_, (by simp only [List.getElem?_toArray, List.getElem?_cons_succ, List.getElem?_cons_zero]; exact rfl), rfl, ?_⟩
           have e43 : a.tmps[43]?.getD undef = .slice (some ad2) cols.length c2 := hdep 10 (by decide) (by kernel_rfl)
           have e45 : a.tmps[45]?.getD undef = .int .i64 ((i : Int) + 1) := hdep 12 (by decide) (by kernel_rfl)
           have hcc := hc2 W2
           go_simp
           exact hK _ W2 rfl hR (Bw.refl _)
         · refine ⟨_, (by simp only [List.getElem?_toArray, List.getElem?_cons_succ, List.getElem?_cons_zero]; exact rfl), rfl, ?_⟩
           have e42 : a.tmps[42]?.getD undef = .slice P1 i c2 := hdep 9 (by decide) (by kernel_rfl)
           have e46 : a.tmps[46]?.getD undef = .slice P2 m2 q2x := hdep 13 (by decide) (by kernel_rfl)
           go_simp
           exact hK _ _ ⟨W2.heap.size, rfl, Blk.new W2 _ _, hR.size⟩ (hR.alloc _) ((Bw.refl _).alloc _)
         · refine ⟨_, (by simp only [List.getElem?_toArray, List.getElem?_cons_succ, List.getElem?_cons_zero]; exact rfl), rfl, ?_⟩
           obtain ⟨g, e47, hbg, hlg⟩ : ∃ g, a.tmps[47]?.getD undef = .slice (some ⟨g, 0, none⟩) 2 2 ∧ Blk W2 g 27 #[.slice P1 i c2, .slice P2 m2 q2x] ∧ wo.heap.size ≤ g := hdep 14 (by decide) (by kernel_rfl)
           go_simp
           refine (CC.out W2 g hR hbg).mono ?_
           rintro e w3 ⟨s, rfl, hk3, hb3⟩
           exact hK _ w3 ((own_iat2 hk3).keep (fun b hb => hb.2) (fun _ _ => rfl)) (hR.trans hb3) hb3
         · refine ⟨_, (by simp only [List.getElem?_toArray, List.getElem?_cons_succ, List.getElem?_cons_zero]; exact rfl), rfl, ?_⟩
           have e37 : a.tmps[37]?.getD undef = .slice (some ad) M.length c := hdep 4 (by decide) (by kernel_rfl)
           have e39 : a.tmps[39]?.getD undef = .slice P0 rows.length (c1 - 1) := hdep 6 (by decide) (by kernel_rfl)
           have z48 : IB W2 W2.heap.size (a.tmps[48]?.getD undef) (natI cutN) := hdep 15 (by decide) (by kernel_rfl)
           obtain ⟨u, e48⟩ : ∃ u, a.tmps[48]?.getD undef = u := ⟨_, rfl⟩
           rw [e48] at z48
           go_simp
           refine (CD.out u W2 hR z48).mono ?_
           rintro e w3 ⟨rfl, hb3⟩
           exact hK _ w3 rfl (hR.trans hb3) hb3
         · refine ⟨_, (by simp only [List.getElem?_toArray, List.getElem?_cons_succ, List.getElem?_cons_zero]; exact rfl), rfl, ?_⟩
           have e36 : a.tmps[36]?.getD undef = .int .i64 (sgn i * x) := hdep 3 (by decide) (by kernel_rfl)
           have e49 : a.tmps[49]?.getD undef = .int .i64 dd := hdep 16 (by decide) (by kernel_rfl)
           go_simp
           exact hK _ W2 rfl hR (Bw.refl _)
         · refine ⟨_, (by simp only [List.getElem?_toArray, List.getElem?_cons_succ, List.getElem?_cons_zero]; exact rfl), rfl, ?_⟩
           have e33 : a.tmps[33]?.getD undef = .int .i64 S0 := hdep 0 (by decide) (by kernel_rfl)
           have e50 : a.tmps[50]?.getD undef = .int .i64 (sgn i * x * dd) := hdep 17 (by decide) (by kernel_rfl)
           go_simp
           exact hK _ W2 rfl hR (Bw.refl _)
       case hlast =>
         intro a W2 hdf hsz hR hoth hv
         refine ⟨_, (by simp only [List.getElem?_toArray, List.getElem?_cons_succ, List.getElem?_cons_zero]; exact rfl), rfl, ?_⟩
         have HSZ := Lib.hid hsz
         have HOT := Lib.hid hoth
         have x51 : a.tmps[51]?.getD undef = .int .i64 (S0 + sgn i * x * dd) := hv 18 (by decide)
         clear hsz hoth hv
         go_simp
         have ha := fold_all [33, 34, 35, 36, 37, 38, 39, 40, 41, 42, 43, 44, 45, 46, 47, 48, 49, 50, 51] 19 rfl hdf HSZ.out (fun d h => (by decide : ∀ d ∈ ([33, 34, 35, 36, 37, 38, 39, 40, 41, 42, 43, 44, 45, 46, 47, 48, 49, 50, 51] : List Nat), d < 56) d h) HOT.out
         simp only [List.map_cons, List.map_nil, List.foldl_cons, List.foldl_nil, x51, put_mk, List.setIfInBounds_toArray, List.set_cons_succ, List.set_cons_zero] at ha
         generalize a.tmps[33]?.getD undef = u33 at ha
         generalize a.tmps[34]?.getD undef = u34 at ha
         generalize a.tmps[35]?.getD undef = u35 at ha
         generalize a.tmps[36]?.getD undef = u36 at ha
         generalize a.tmps[37]?.getD undef = u37 at ha
         generalize a.tmps[38]?.getD undef = u38 at ha
         generalize a.tmps[39]?.getD undef = u39 at ha
         generalize a.tmps[40]?.getD undef = u40 at ha
         generalize a.tmps[41]?.getD undef = u41 at ha
         generalize a.tmps[42]?.getD undef = u42 at ha
         generalize a.tmps[43]?.getD undef = u43 at ha
         generalize a.tmps[44]?.getD undef = u44 at ha
         generalize a.tmps[45]?.getD undef = u45 at ha
         generalize a.tmps[46]?.getD undef = u46 at ha
         generalize a.tmps[47]?.getD undef = u47 at ha
         generalize a.tmps[48]?.getD undef = u48 at ha
         generalize a.tmps[49]?.getD undef = u49 at ha
         generalize a.tmps[50]?.getD undef = u50 at ha
         clear x51 HSZ HOT hdf
         subst ha
         go_wp2_with fail
         have h1 := HSS.out
         rw [if_neg HX0.out] at h1
         exact ⟨⟨i + 1, by omega, by rw [h1], by rw [sgn_succ], by simp, Lib.hid (HB.out.trans hR)⟩, by simp [intOf]; omega⟩
   · obtain rfl : i = cols.length := by omega
     go_wp2_with fail
     go_ret
     exact ⟨rfl, HB.out⟩
theorem IAt.clip {w : World} {S : Nat → Prop} {A : Option Addr} {n c : Nat} {l : List Int} (h : IAt w S (.slice A n c) l) : IAt w S (.slice A n n) l := by
 obtain ⟨A', n', c', e, h1, h2, h3, h4⟩ := h
 injection e with e1 e2 e3
 subst e1 e2 e3
 exact ⟨A, n, n, rfl, h1, Nat.le_refl _, by omega, h4⟩
theorem run_append_clip (w : World) (A : Option Addr) (n : Nat) (xs : List Int) (h : IB w w.heap.size (.slice A n n) xs) (hn : n ≤ 1000) (y : Int) (g : Nat) (hg : Blk w g 3 #[.int .i64 y]) (ty : TypeId) :
   ∃ v' w', (Builtin.append_ #[27, 27] ty #[.slice A n n, .slice (some ⟨g, 0, none⟩) 1 1]).run Tryz.prog w = .ok v' w' ∧ w'.ownsRow w.heap.size 3 1 v' (n + 1) (intVs (xs ++ [y])) ∧ Bw w w' := by
 obtain ⟨i0, hi, hz0, hz1, hz2⟩ := info_parts infoInt
 obtain ⟨A', n', c', e, ln, -, -, h4⟩ := h
 injection e with e1 e2 e3
 subst e1 e2 e3
 have hy : ∀ (j : Nat) (u : Value), [Value.int .i64 y][j]? = some u → w.cell? ((⟨g, 0, none⟩ : Addr).add j) = some u := fun j u hj => by
   rcases j with _ | j
   · have := hg.cell 0
     simp at hj this
     rw [← hj]; simpa [Addr.add] using this
   · simp at hj
 have hx : intVs (xs ++ [y]) = intVs xs ++ [.int .i64 y] := by simp [intVs]
 rw [hx]
 by_cases h0 : n = 0
 · subst h0
   obtain rfl : xs = [] := List.eq_nil_of_length_eq_zero ln
   cases A with
   | none =>
     obtain ⟨v', w', h1, h2, h3, -⟩ := run_append_own (P := Tryz.prog) w w.heap.size 27 ty 3 i0 _ 1 8 Tryz.underlying27 hi hz0 hz1 hz2 rfl (by decide) (.slice none 0 0) 0 [] (World.ownsRow_nil w _ _ _) ⟨g, 0, none⟩ 1 1 [.int .i64 y] rfl hy (by simp [Value.oneCell']) (by unfold maxLen; omega) (by omega) (Nat.le_refl _)
     exact ⟨v', w', h1, h2, ⟨h3.os, h3.tape, h3.output, h3.size, fun k hk => h3.block k hk (by simp [Value.ownBlock])⟩⟩
   | some a =>
     obtain ⟨v', w', h1, h2, h3⟩ := run_append_arg_grows (P := Tryz.prog) (w := w) 27 ty 3 i0 _ 1 8 Tryz.underlying27 hi hz0 hz1 hz2 rfl (by decide) a 0 0 [] rfl (by intro j u hj; simp at hj) ⟨g, 0, none⟩ 1 1 [.int .i64 y] rfl hy (by omega) (by unfold maxLen; omega) (by omega)
     exact ⟨v', w', h1, h2, ⟨h3.os, h3.tape, h3.output, h3.size, fun k hk => h3.block k hk (by simp)⟩⟩
 · obtain ⟨a, rfl, -, hc⟩ := h4 (by omega)
   obtain ⟨v', w', h1, h2, h3⟩ := run_append_arg_grows (P := Tryz.prog) (w := w) 27 ty 3 i0 _ 1 8 Tryz.underlying27 hi hz0 hz1 hz2 rfl (by decide) a n n (intVs xs) (by simp [intVs, ln]) (by
     intro j u hj
     rw [intVs, List.getElem?_map] at hj
     obtain ⟨x, hx, rfl⟩ := Option.map_eq_some_iff.1 hj
     obtain ⟨hj2, rfl⟩ := List.getElem?_eq_some_iff.1 hx
     exact hc j hj2) ⟨g, 0, none⟩ 1 1 [.int .i64 y] rfl hy (by omega) (by unfold maxLen; omega) (by omega)
   exact ⟨v', w', h1, h2, ⟨h3.os, h3.tape, h3.output, h3.size, fun k hk => h3.block k hk (by simp)⟩⟩
theorem op_clipI {o : Oper} {a : Act} {w : World} {K : Act → World → Prop} {Q : Exit → Act → World → Prop} (s x : Operand) (ho : o.op = .call { callee := .builtin .append, args := #[s, x], argTypes := #[27, 27] })
   (A : Option Addr) (n : Nat) (xs : List Int) (h : IB w w.heap.size (.slice A n n) xs) (hn : n ≤ 1000) (y : Int) (g : Nat) (hg : Blk w g 3 #[.int .i64 y]) (hs : a.eval s = .slice A n n) (hx : a.eval x = .slice (some ⟨g, 0, none⟩) 1 1)
   (hK : ∀ v' w', w'.ownsRow w.heap.size 3 1 v' (n + 1) (intVs (xs ++ [y])) → Bw w w' → K (a.put o.dst v') w') : o.wp Tryz.prog a w K Q := by
 obtain ⟨v', w', h1, h2, h3⟩ := run_append_clip w A n xs h hn y g hg o.type
 unfold Oper.wp execOp
 simp only [ho, resolve, invoke, builtin, Sem.run_bind, Sem.run_pure, Result.andThen_ok, List.map_toArray, List.map_cons, List.map_nil, hs, hx, h1]
 exact hK v' w' h2 h3
theorem wpList_clipI {ops : Array Oper} {rest : List Oper} {o : Oper} {a : Act} {w : World} {Q : Exit → Act → World → Prop} (hgd : o.guard = none) (s x : Operand) (ho : o.op = .call { callee := .builtin .append, args := #[s, x], argTypes := #[27, 27] })
   (A : Option Addr) (n : Nat) (xs : List Int) (h : IB w w.heap.size (.slice A n n) xs) (hn : n ≤ 1000) (y : Int) (g : Nat) (hg : Blk w g 3 #[.int .i64 y]) (hs : a.eval s = .slice A n n) (hx : a.eval x = .slice (some ⟨g, 0, none⟩) 1 1)
   (hK : ∀ v' w', w'.ownsRow w.heap.size 3 1 v' (n + 1) (intVs (xs ++ [y])) → Bw w w' → wpList Tryz.prog ops Q rest (a.put o.dst v') w') : wpList Tryz.prog ops Q (o :: rest) a w :=
 wpList_plain hgd fun _ hK2 => op_clipI s x ho A n xs h hn y g hg hs hx fun v' w' h1 h2 => hK2 _ _ (hK v' w' h1 h2)
theorem made_oneJ (z : Value) (hz : z.cells = #[z]) (n : Nat) : madeCells z.cells (n * 1) = (List.replicate n z).toArray := by
 rw [hz]
 apply Array.ext
 · rw [size_madeCells]; simp
 · intro i h1 h2
   simp [madeCells, Nat.mod_one]
theorem mkIntsJ (m : Nat) (h9 : m ≤ 1000) (W : World) : (Instr.makeSlice 27 (.int .i64 (m : Int)) (.int .i64 (m : Int))).run Tryz.prog W = .ok (.slice (some ⟨W.heap.size, 0, none⟩) m m) (W.alloc (.cells (intVs (List.replicate m 0)).toArray 3)) := by
 obtain ⟨i0, hi, hz0, hz1, hz2⟩ := info_parts infoInt
 rw [run_makeSlice W 27 3 i0 _ Tryz.underlying27 hi hz0 .i64 .i64 m m (by omega) (by omega) (by rw [hz1]; simp; omega) (by rw [hz2]; omega) (by omega), hz1]
 simp only [Int.toNat_natCast]
 rw [made_oneJ _ rfl]
 simp [intVs]
theorem mkRowsJ (m : Nat) (h9 : m ≤ 1000) (W : World) : (Instr.makeSlice 44 (.int .i64 (m : Int)) (.int .i64 (m : Int))).run Tryz.prog W = .ok (.slice (some ⟨W.heap.size, 0, none⟩) m m) (W.alloc (.cells (List.replicate m (Value.slice none 0 0)).toArray 27)) := by
 obtain ⟨i0, hi, hz0, hz1, hz2⟩ := info_parts infoInts
 rw [run_makeSlice W 44 27 i0 _ Tryz.underlying44 hi hz0 .i64 .i64 m m (by omega) (by omega) (by rw [hz1]; simp; omega) (by rw [hz2]; omega) (by omega), hz1]
 simp only [Int.toNat_natCast]
 rw [made_oneJ _ rfl]
end
structure LdOk (M : List (List Int)) (n j : Nat) (p : List Nat × List Nat) : Prop where
 len : p.1.length = p.2.length
 le : p.1.length ≤ j
 rn : ∀ r ∈ p.1, r < n
 cn : ∀ c ∈ p.2, c < j
 nz : detP M p.1 p.2 ≠ 0
theorem LdOk.next {M : List (List Int)} {n j : Nat} {p : List Nat × List Nat} (h : LdOk M n j p) : LdOk M n (j + 1) p :=
 ⟨h.len, by have := h.le; omega, h.rn, fun c hc => by have := h.cn c hc; omega, h.nz⟩
theorem LdOk.add {M : List (List Int)} {n j i : Nat} {rows cols : List Nat} (h : LdOk M n j (rows, cols)) (hi : i < n) (hd : detP M (rows ++ [i]) (cols ++ [j]) ≠ 0) : LdOk M n (j + 1) (rows ++ [i], cols ++ [j]) := by
 have h1 := h.len
 have h2 := h.le
 refine ⟨by simp; simpa using h1, by simp; simpa using h2, fun r hr => ?_, fun c hc => ?_, hd⟩
 · rcases List.mem_append.1 hr with h3 | h3
   · exact h.rn r h3
   · rw [List.mem_singleton.1 h3]; exact hi
 · rcases List.mem_append.1 hc with h3 | h3
   · have := h.cn c h3; omega
   · rw [List.mem_singleton.1 h3]; omega
theorem leadR_ok {M : List (List Int)} {n j : Nat} {rows cols : List Nat} (h : LdOk M n j (rows, cols)) : ∀ (is : List Nat), (∀ i ∈ is, i < n) → LdOk M n (j + 1) (leadR M rows cols j is)
 | [], _ => h.next
 | i :: is, hi => by
   rw [leadR]
   split
   · exact leadR_ok h is (fun x hx => hi x (by simp [hx]))
   · split
     · rename_i hd
       exact h.add (hi i (by simp)) hd
     · exact leadR_ok h is (fun x hx => hi x (by simp [hx]))
theorem leadP_succ (M : List (List Int)) (k : Nat) : leadP M (k + 1) = leadR M (leadP M k).1 (leadP M k).2 k (List.range M.length) := by
 unfold leadP; rw [List.range_succ, List.foldl_append]; rfl
theorem leadP_ok (M : List (List Int)) (n : Nat) (hn : M.length = n) : ∀ k, LdOk M n k (leadP M k)
 | 0 => ⟨rfl, Nat.le_refl _, fun r hr => by simp [leadP] at hr, fun r hr => by simp [leadP] at hr, by simp [leadP, detP]⟩
 | k + 1 => by rw [leadP_succ]; exact leadR_ok (leadP_ok M n hn k) _ (fun i hi => by rw [← hn]; exact List.mem_range.1 hi)
theorem range_drop {n i : Nat} (h : i < n) : (List.range n).drop i = i :: (List.range n).drop (i + 1) := by
 rw [List.drop_eq_getElem_cons (by simpa using h)]; simp
theorem range_end (n : Nat) : (List.range n).drop n = [] := List.drop_of_length_le (by simp)
def kernS (M : List (List Int)) (k : Nat) (rows cols : List Nat) (all : Int) (f i : Nat) : List Int :=
 (List.range i).foldl (fun v i => v.set (cols.getD i 0) (if all < 0 then detP M rows (cols.set i f) else -(detP M rows (cols.set i f)))) ((List.replicate k (0 : Int)).set f (all.natAbs : Int))
theorem kernS_succ (M : List (List Int)) (k : Nat) (rows cols : List Nat) (all : Int) (f i : Nat) : kernS M k rows cols all f (i + 1) = (kernS M k rows cols all f i).set (cols.getD i 0) (if all < 0 then detP M rows (cols.set i f) else -(detP M rows (cols.set i f))) := by
 unfold kernS; rw [List.range_succ, List.foldl_append]; rfl
theorem kernS_zero (M : List (List Int)) (k : Nat) (rows cols : List Nat) (all : Int) (f : Nat) : kernS M k rows cols all f 0 = (List.replicate k (0 : Int)).set f (all.natAbs : Int) := rfl
theorem kernS_len (M : List (List Int)) (k : Nat) (rows cols : List Nat) (all : Int) (f : Nat) : ∀ i, (kernS M k rows cols all f i).length = k
 | 0 => by simp [kernS]
 | i + 1 => by rw [kernS_succ, List.length_set]; exact kernS_len M k rows cols all f i
theorem kernS_bd {M : List (List Int)} {k : Nat} {rows cols : List Nat} {all : Int} {f : Nat} (ha : all.natAbs ≤ 1024) (hd : ∀ i, i < cols.length → (detP M rows (cols.set i f)).natAbs ≤ 1024) : ∀ i, i ≤ cols.length → ∀ x ∈ kernS M k rows cols all f i, -1024 ≤ x ∧ x ≤ 1024
 | 0, _, x, hx => by
   rw [kernS_zero] at hx
   rcases List.mem_or_eq_of_mem_set hx with h | h
   · have := List.eq_of_mem_replicate h; omega
   · omega
 | i + 1, hi, x, hx => by
   rw [kernS_succ] at hx
   rcases List.mem_or_eq_of_mem_set hx with h | h
   · exact kernS_bd ha hd i (by omega) x h
   · have := hd i (by omega)
     split at h <;> omega
theorem kernS_f {M : List (List Int)} {k : Nat} {rows cols : List Nat} {all : Int} {f : Nat} (hf : f < k) (hc : f ∉ cols) : ∀ i, i ≤ cols.length → (kernS M k rows cols all f i)[f]? = some (all.natAbs : Int)
 | 0, _ => by rw [kernS_zero]; simp [hf]
 | i + 1, hi => by
   rw [kernS_succ, List.getElem?_set_ne, kernS_f hf hc i (by omega)]
   intro e
   have h1 : cols.getD i 0 = cols[i] := by simp [List.getD, (by omega : i < cols.length)]
   rw [h1] at e
   exact hc (e ▸ List.getElem_mem (by omega))
theorem gcdL_all : ∀ (l : List Int), (∀ x ∈ l, ((gcdL l : Nat) : Int) ∣ x) := by
 have key : ∀ (l : List Int) (g : Nat), (l.foldl (fun g x => Nat.gcd g x.natAbs) g) ∣ g ∧ ∀ x ∈ l, ((l.foldl (fun g x => Nat.gcd g x.natAbs) g : Nat) : Int) ∣ x := by
   intro l
   induction l with
   | nil => intro g; simp
   | cons a l ih =>
     intro g
     obtain ⟨h1, h2⟩ := ih (Nat.gcd g a.natAbs)
     refine ⟨Nat.dvd_trans h1 (Nat.gcd_dvd_left _ _), fun x hx => ?_⟩
     rcases List.mem_cons.1 hx with rfl | hx
     · exact Int.ofNat_dvd_left.2 (Nat.dvd_trans h1 (Nat.gcd_dvd_right _ _))
     · exact h2 x hx
 intro l
 exact (key l 0).2
theorem gcdL_pos {l : List Int} {x : Int} (hx : x ∈ l) (h0 : x ≠ 0) : 0 < gcdL l := by
 rcases Nat.eq_zero_or_pos (gcdL l) with h | h
 · have := gcdL_all l x hx
   rw [h] at this
   simp at this
   exact absurd this h0
 · exact h
theorem gcdL_le {B : Nat} {l : List Int} (h : ∀ x ∈ l, x.natAbs ≤ B) : gcdL l ≤ B := by
 have key : ∀ (l : List Int) (g : Nat), g ≤ B → (∀ x ∈ l, x.natAbs ≤ B) → l.foldl (fun g x => Nat.gcd g x.natAbs) g ≤ B := by
   intro l
   induction l with
   | nil => intro g hg _; exact hg
   | cons a l ih =>
     intro g hg hl
     refine ih _ ?_ (fun x hx => hl x (by simp [hx]))
     rcases Nat.eq_zero_or_pos g with h0 | h0
     · subst h0; show Nat.gcd 0 a.natAbs ≤ B; rw [Nat.gcd_zero_left]; exact hl a (by simp)
     · exact Nat.le_trans (Nat.gcd_le_left _ h0) hg
 exact key l 0 (Nat.zero_le _) h
def kernL (M : List (List Int)) (k : Nat) (rows cols : List Nat) (i : Nat) : List (List Int) :=
 ((List.range i).filter fun f => !cols.contains f).map fun f => primP (kernV M k rows cols (detP M rows cols) f)
theorem kernL_succ (M : List (List Int)) (k : Nat) (rows cols : List Nat) (i : Nat) : kernL M k rows cols (i + 1) = if i ∈ cols then kernL M k rows cols i else kernL M k rows cols i ++ [primP (kernV M k rows cols (detP M rows cols) i)] := by
 unfold kernL
 rw [List.range_succ, List.filter_append, List.map_append]
 by_cases h : i ∈ cols
 · rw [if_pos h]; simp [h]
 · rw [if_neg h]; simp [h]
theorem kernP_eq (M : List (List Int)) (k : Nat) : kernP M k = kernL M k (leadP M k).1 (leadP M k).2 k := rfl
/-! ### supports -/
def bitB (s i : Nat) : Bool := decide (s >>> i % 2 = 1)
def cntB (s i : Nat) : Nat := ((List.range i).filter (bitB s)).length
theorem cntB_succ (s i : Nat) : cntB s (i + 1) = if bitB s i then cntB s i + 1 else cntB s i := by
 unfold cntB; rw [List.range_succ, List.filter_append]
 cases h : bitB s i <;> simp [h]
theorem cntB_mono (s : Nat) {i j : Nat} (h : i ≤ j) : cntB s i ≤ cntB s j := by
 induction j with
 | zero => obtain rfl : i = 0 := by omega
           exact Nat.le_refl _
 | succ j ih =>
   by_cases e : i = j + 1
   · subst e; exact Nat.le_refl _
   · have := ih (by omega)
     rw [cntB_succ]; split <;> omega
theorem setRows_bit (c : List (List Int)) (s : Nat) : setRows c s = ((List.range c.length).filter (bitB s)).map fun i => c.getD i [] := rfl
theorem setRows_len (c : List (List Int)) (s : Nat) : (setRows c s).length = cntB s c.length := by rw [setRows_bit, List.length_map]; rfl
def setR (c : List (List Int)) (s i : Nat) : List (List Int) := ((List.range i).filter (bitB s)).map fun i => c.getD i []
theorem setR_succ (c : List (List Int)) (s i : Nat) : setR c s (i + 1) = if bitB s i then setR c s i ++ [c.getD i []] else setR c s i := by
 unfold setR; rw [List.range_succ, List.filter_append, List.map_append]
 cases h : bitB s i <;> simp [h]
def fillA (s : Nat) (l : List Int) (i : Nat) : List Int := (List.range i).map fun j => if bitB s j then l.getD (cntB s j) 0 else 0
theorem fillA_succ (s : Nat) (l : List Int) (i : Nat) : fillA s l (i + 1) = fillA s l i ++ [if bitB s i then l.getD (cntB s i) 0 else 0] := by
 unfold fillA; rw [List.range_succ, List.map_append]; rfl
theorem fillA_len (s : Nat) (l : List Int) (i : Nat) : (fillA s l i).length = i := by simp [fillA]
theorem fillP_eq (s : Nat) : ∀ (n i : Nat) (l : List Int), fillP s n i l = (List.range n).map fun j => if bitB s (i + j) then l.getD (cntB s (i + j) - cntB s i) 0 else 0
 | 0, i, l => rfl
 | n + 1, i, l => by
   rw [List.range_succ_eq_map, List.map_cons, List.map_map]
   by_cases h : s >>> i % 2 = 1
   · have hb : bitB s i = true := decide_eq_true h
     rw [fillP, if_pos h, fillP_eq s n (i + 1) l.tail]
     congr 1
     · simp [hb]
       cases l <;> rfl
     · apply List.map_congr_left
       intro j _
       simp only [Function.comp]
       rw [show i + 1 + j = i + (j + 1) by omega]
       have h1 := cntB_mono s (show i + 1 ≤ i + (j + 1) by omega)
       rw [cntB_succ, if_pos hb] at h1
       rw [cntB_succ, if_pos hb, show cntB s (i + (j + 1)) - cntB s i = (cntB s (i + (j + 1)) - (cntB s i + 1)) + 1 by omega]
       cases l <;> simp [List.getD]
   · have hb : bitB s i = false := decide_eq_false h
     rw [fillP, if_neg h, fillP_eq s n (i + 1) l]
     congr 1
     · simp [hb]
     · apply List.map_congr_left
       intro j _
       simp only [Function.comp]
       rw [show i + 1 + j = i + (j + 1) by omega, show cntB s (i + 1) = cntB s i by rw [cntB_succ, if_neg (by rw [hb]; decide)]]
theorem fillP_all (s n : Nat) (l : List Int) : fillP s n 0 l = fillA s l n := by
 rw [fillP_eq]
 unfold fillA
 apply List.map_congr_left
 intro j _
 rw [Nat.zero_add]
 rfl
def flowsS (c : List (List Int)) (k i : Nat) : List (List Int) := (List.range i).filterMap fun s => suppP c k (s + 1)
theorem flowsS_succ (c : List (List Int)) (k i : Nat) : flowsS c k (i + 1) = match suppP c k (i + 1) with | some y => flowsS c k i ++ [y] | none => flowsS c k i := by
 unfold flowsS
 rw [List.range_succ, List.filterMap_append]
 cases h : suppP c k (i + 1) <;> simp [h]
theorem flowsU_eq (c : List (List Int)) (k : Nat) : flowsU c k = flowsS c k (2 ^ c.length - 1) := rfl
section
open Go.RowKit
def RgB (W0 : World) (row : Option Nat) (b : Bool) (W : World) : Prop := ∃ W9, Bw W0 W9 ∧ W9.grownBy W row ∧ (b = false → Bw W0 W)
theorem bw_gr0 {a b : World} (h : Bw a b) (row : Option Nat) : a.grownBy b row := ⟨h.os, h.tape, h.output, h.size, fun k hk _ => h.block k hk⟩
theorem RgB.start {W0 : World} {row : Option Nat} : RgB W0 row false W0.drew := ⟨W0.drew, (Bw.refl _).drew, World.grownBy.refl _ _, fun _ => (Bw.refl _).drew⟩
theorem RgB.bw {W0 W W' : World} {row : Option Nat} {b : Bool} (h : RgB W0 row b W) (g : Bw W W') : RgB W0 row b W' := by
 obtain ⟨W9, h1, h2, h3⟩ := h
 exact ⟨W9, h1, grownBy_trans h2 (bw_gr0 g row), fun e => (h3 e).trans g⟩
theorem RgB.size {W0 W : World} {row : Option Nat} {b : Bool} (h : RgB W0 row b W) : W0.heap.size ≤ W.heap.size := by
 obtain ⟨W9, h1, h2, _⟩ := h
 exact Nat.le_trans h1.size h2.size
theorem RgB.heap {W0 W : World} {row : Option Nat} {b : Bool} (h : RgB W0 row b W) {k : Nat} (hk : k < W0.heap.size) (hr : some k ≠ row) : W.heap[k]? = W0.heap[k]? := by
 obtain ⟨W9, h1, h2, _⟩ := h
 exact (h2.block k (Nat.lt_of_lt_of_le hk h1.size) hr).trans (h1.block k hk)
theorem RgB.cell {W0 W : World} {row : Option Nat} {b : Bool} (h : RgB W0 row b W) {p : Addr} (hk : p.block < W0.heap.size) (hr : some p.block ≠ row) : W.cell? p = W0.cell? p := World.cell?_of_block (h.heap hk hr)
def ApV (W0 : World) (row : Option Nat) (L q : Nat) (xs : List Value) (v : Value) (W : World) : Prop := ∃ (A7 : Option Addr) (c7 : Nat) (W9 : World), v = .slice A7 (q + 1) c7 ∧ Bw W0 W9 ∧ W9.grownBy W row ∧ W.ownsRow L 3 1 (.slice A7 (q + 1) c7) (q + 1) xs ∧ ((Value.slice A7 (q + 1) c7).ownBlock = row ∨ (Value.slice A7 (q + 1) c7).ownBlock = some W9.heap.size)
theorem ApV.bw {W0 W W' : World} {row : Option Nat} {L q : Nat} {xs : List Value} {v : Value} (h : ApV W0 row L q xs v W) (g : Bw W W') : ApV W0 row L q xs v W' := by
 obtain ⟨A7, c7, W9, h1, h2, h3, h4, h5⟩ := h
 exact ⟨A7, c7, W9, h1, h2, grownBy_trans h3 (bw_gr0 g row), own_kept_below h4 g.b, h5⟩
def apS (row : Option Nat) (j : Nat) (W W' : World) : Prop := if j = 18 then W.grownBy W' row else Bw W W'
def apV (W0 : World) (row : Option Nat) (L q : Nat) (xs : List Value) (OUT IV PT RV P4 GV GP GI P3 NV NP NI DV : Value) : Nat → Value → World → Prop
 | 0, v, _ => v = OUT
 | 1, v, _ => v = IV
 | 2, v, _ => v = OUT
 | 3, v, _ => v = IV
 | 4, v, _ => v = PT
 | 5, v, _ => v = RV
 | 6, v, _ => v = P4
 | 7, v, _ => v = GV
 | 8, v, _ => v = IV
 | 9, v, _ => v = GP
 | 10, v, _ => v = GI
 | 11, v, _ => v = P3
 | 12, v, _ => v = NV
 | 13, v, _ => v = IV
 | 14, v, _ => v = NP
 | 15, v, _ => v = NI
 | 16, v, _ => v = DV
 | 17, v, W => ∃ g, v = .slice (some ⟨g, 0, none⟩) 1 1 ∧ Blk W g 3 #[DV] ∧ W0.heap.size ≤ g
 | 18, v, W => ApV W0 row L q xs v W
 | 19, v, _ => v = PT
 | _, _, _ => True
theorem apV_st {W0 : World} {row : Option Nat} {L q : Nat} {xs : List Value} {OUT IV PT RV P4 GV GP GI P3 NV NP NI DV : Value} (hrow : ∀ r, row = some r → r < W0.heap.size) (k j : Nat) (v : Value) (W W' : World) (hk : k < 20) (hj : j < 20) (hkj : k ≠ j) (h : apV W0 row L q xs OUT IV PT RV P4 GV GP GI P3 NV NP NI DV k v W) (hs : apS row j W W') : apV W0 row L q xs OUT IV PT RV P4 GV GP GI P3 NV NP NI DV k v W' := by
 by_cases hj8 : j = 18
 · unfold apS at hs
   rw [if_pos hj8] at hs
   rcases (by omega : k = 17 ∨ k ≠ 17) with rfl | hk17
   · obtain ⟨g, h1, h2, h3⟩ := h
     exact ⟨g, h1, h2.grown hs (fun e => by have := hrow g e.symm; omega), h3⟩
   · rcases (by omega : k = 0 ∨ k = 1 ∨ k = 2 ∨ k = 3 ∨ k = 4 ∨ k = 5 ∨ k = 6 ∨ k = 7 ∨ k = 8 ∨ k = 9 ∨ k = 10 ∨ k = 11 ∨ k = 12 ∨ k = 13 ∨ k = 14 ∨ k = 15 ∨ k = 16 ∨ k = 19) with rfl | rfl | rfl | rfl | rfl | rfl | rfl | rfl | rfl | rfl | rfl | rfl | rfl | rfl | rfl | rfl | rfl | rfl <;> exact h
 · unfold apS at hs
   rw [if_neg hj8] at hs
   rcases (by omega : k = 17 ∨ k = 18 ∨ (k ≠ 17 ∧ k ≠ 18)) with rfl | rfl | hk17
   · obtain ⟨g, h1, h2, h3⟩ := h
     exact ⟨g, h1, h2.below hs.b h2.lt, h3⟩
   · exact ApV.bw h hs
   · rcases (by omega : k = 0 ∨ k = 1 ∨ k = 2 ∨ k = 3 ∨ k = 4 ∨ k = 5 ∨ k = 6 ∨ k = 7 ∨ k = 8 ∨ k = 9 ∨ k = 10 ∨ k = 11 ∨ k = 12 ∨ k = 13 ∨ k = 14 ∨ k = 15 ∨ k = 16 ∨ k = 19) with rfl | rfl | rfl | rfl | rfl | rfl | rfl | rfl | rfl | rfl | rfl | rfl | rfl | rfl | rfl | rfl | rfl | rfl <;> exact h
def chD (p : Nat) (r : Rul) : Int := r.give.getD p 0 - r.need.getD p 0
def mtA (n : Nat) (rs : List Rul) (i j : Nat) : List (List Int) := (List.range n).map fun p => if p < i then rs.map (chD p) else if p = i then (rs.take j).map (chD p) else []
theorem mtA_len (n : Nat) (rs : List Rul) (i j : Nat) : (mtA n rs i j).length = n := by simp [mtA]
theorem mtA_get {n : Nat} {rs : List Rul} {i j p : Nat} (h : p < n) : (mtA n rs i j)[p]? = some (if p < i then rs.map (chD p) else if p = i then (rs.take j).map (chD p) else []) := by
 unfold mtA; simp [h]
theorem mtA_ext {n : Nat} {rs : List Rul} {i j : Nat} {l : List (List Int)} (hl : l.length = n) (h : ∀ p, p < n → l[p]? = some (if p < i then rs.map (chD p) else if p = i then (rs.take j).map (chD p) else [])) : l = mtA n rs i j := by
 apply List.ext_getElem?
 intro p
 by_cases hp : p < n
 · rw [h p hp, mtA_get hp]
 · rw [List.getElem?_eq_none (by omega), List.getElem?_eq_none (by rw [mtA_len]; omega)]
theorem mtA_zero (n : Nat) (rs : List Rul) : List.replicate n [] = mtA n rs 0 0 :=
 mtA_ext (by simp) fun p hp => by
   rw [List.getElem?_replicate, if_pos hp, if_neg (by omega)]
   by_cases h : p = 0 <;> simp [h]
theorem mtA_row (n : Nat) (rs : List Rul) (i : Nat) : mtA n rs i rs.length = mtA n rs (i + 1) 0 :=
 mtA_ext (mtA_len _ _ _ _) fun p hp => by
   rw [mtA_get hp]
   by_cases h1 : p < i
   · rw [if_pos h1, if_pos (by omega)]
   · rw [if_neg h1]
     by_cases h2 : p = i
     · rw [if_pos h2, if_pos (by omega), List.take_length]
     · rw [if_neg h2, if_neg (by omega)]
       by_cases h3 : p = i + 1 <;> simp [h3]
theorem mtA_done (m : Mdl) : mtA m.ps.length m.rs m.ps.length 0 = chgT m := by
 symm
 refine mtA_ext (by simp [chgT]) fun p hp => ?_
 rw [if_pos hp]
 simp [chgT, hp, chD]
theorem mtA_at {n : Nat} {rs : List Rul} {i j : Nat} (hi : i < n) (hd : i < (mtA n rs i j).length) : (mtA n rs i j)[i] = (rs.take j).map (chD i) := by
 have := mtA_get (rs := rs) (i := i) (j := j) hi
 rw [List.getElem?_eq_getElem hd, if_neg (by omega), if_pos rfl] at this
 exact Option.some.inj this
theorem mtA_set {n : Nat} {rs : List Rul} {i j : Nat} (hi : i < n) (hj : j < rs.length) (hd : i < (mtA n rs i j).length) : (mtA n rs i j).set i ((mtA n rs i j)[i] ++ [chD i rs[j]]) = mtA n rs i (j + 1) := by
 rw [mtA_at hi hd]
 refine mtA_ext (by simp [mtA_len]) fun p hp => ?_
 rw [List.getElem?_set]
 by_cases h : i = p
 · subst h
   rw [if_pos rfl, if_pos hd, if_neg (by omega), if_pos rfl, List.take_succ_eq_append_getElem hj, List.map_append]
   rfl
 · rw [if_neg h, mtA_get hp]
   by_cases h1 : p < i
   · rw [if_pos h1, if_pos h1]
   · rw [if_neg h1, if_neg h1, if_neg (Ne.symm h), if_neg (Ne.symm h)]
def mtB (n : Nat) (rs : List Rul) (i k : Nat) : List (List Int) := (List.range n).map fun p => if p < k then (rs.take (i + 1)).map (chD p) else (rs.take i).map (chD p)
theorem mtB_len (n : Nat) (rs : List Rul) (i j : Nat) : (mtB n rs i j).length = n := by simp [mtB]
theorem mtB_get {n : Nat} {rs : List Rul} {i j p : Nat} (h : p < n) : (mtB n rs i j)[p]? = some (if p < j then (rs.take (i + 1)).map (chD p) else (rs.take i).map (chD p)) := by
 unfold mtB; simp [h]
theorem mtB_ext {n : Nat} {rs : List Rul} {i j : Nat} {l : List (List Int)} (hl : l.length = n) (h : ∀ p, p < n → l[p]? = some (if p < j then (rs.take (i + 1)).map (chD p) else (rs.take i).map (chD p))) : l = mtB n rs i j := by
 apply List.ext_getElem?
 intro p
 by_cases hp : p < n
 · rw [h p hp, mtB_get hp]
 · rw [List.getElem?_eq_none (by omega), List.getElem?_eq_none (by rw [mtB_len]; omega)]
theorem mtB_zero (n : Nat) (rs : List Rul) : List.replicate n [] = mtB n rs 0 0 :=
 mtB_ext (by simp) fun p hp => by
   rw [List.getElem?_replicate, if_pos hp, if_neg (by omega)]
   simp
theorem mtB_row (n : Nat) (rs : List Rul) (i : Nat) : mtB n rs i n = mtB n rs (i + 1) 0 :=
 mtB_ext (mtB_len _ _ _ _) fun p hp => by
   rw [mtB_get hp, if_pos hp, if_neg (by omega)]
theorem mtB_done (m : Mdl) : mtB m.ps.length m.rs m.rs.length 0 = chgT m := by
 symm
 refine mtB_ext (by simp [chgT]) fun p hp => ?_
 rw [if_neg (by omega), List.take_length]
 simp [chgT, hp, chD]
theorem mtB_at {n : Nat} {rs : List Rul} {i k : Nat} (hk : k < n) (hd : k < (mtB n rs i k).length) : (mtB n rs i k)[k] = (rs.take i).map (chD k) := by
 have := mtB_get (rs := rs) (i := i) (j := k) hk
 rw [List.getElem?_eq_getElem hd, if_neg (by omega)] at this
 exact Option.some.inj this
theorem mtB_set {n : Nat} {rs : List Rul} {i k : Nat} (hk : k < n) (hi : i < rs.length) (hd : k < (mtB n rs i k).length) : (mtB n rs i k).set k ((mtB n rs i k)[k] ++ [chD k rs[i]]) = mtB n rs i (k + 1) := by
 rw [mtB_at hk hd]
 refine mtB_ext (by simp [mtB_len]) fun p hp => ?_
 rw [List.getElem?_set]
 by_cases h : k = p
 · subst h
   rw [if_pos rfl, if_pos hd, if_pos (by omega), List.take_succ_eq_append_getElem hi, List.map_append]
   rfl
 · rw [if_neg h, mtB_get hp]
   by_cases h1 : p < k
   · rw [if_pos h1, if_pos (by omega)]
   · rw [if_neg h1, if_neg (by omega)]
end
theorem limB_e (l : List V) : (limB l).2 = 0 ∨ (limB l).2 = 1 := by unfold limB; split <;> simp
end Go.Proofs.YthhbkabdhkdafaaGreat
