/- Part of a proof of coverSearches_holds. -/
import Derived.Test.YthhbkabdhkdafaaGreatVBrP
import Derived.Test.YthhbkabdhkdafaaGreatVBiP
set_option linter.unusedSimpArgs false
set_option linter.unusedVariables false
set_option maxRecDepth 100000
set_option maxHeartbeats 16000000
namespace Go.Proofs.YthhbkabdhkdafaaGreat
section
open Go.RowKit
theorem qApply0_any (m : Mdl) (hm : MdlOk m) (hn : NmOk m) (s : Int) (cs : List Int) (hv : oneP 8 m.t (cfgV s cs) = true) (sv pv rv kv s1 : Value) (w : World) (h : MB w w.heap.size sv pv rv kv m) (h1 : KB w w.heap.size s1 (cfgV s cs).ks) :
   Calls Tryz.prog 46 #[aggM sv pv rv kv, .int .i64 (-1), .agg #[.int .i64 0, s1]] w (VsEPost w [] 0) := by
 obtain ⟨A1, c1, A2, c2, A3, c3, A4, c4, rfl, rfl, rfl, rfl⟩ := h.form
 obtain ⟨A5, n5, c5, rfl, _, _, _⟩ := h1.form
 have CK : Hid (∀ W, Bw w W → Calls Tryz.prog 44 #[aggM (.slice A1 m.ss.length c1) (.slice A2 m.ps.length c2) (.slice A3 m.rs.length c3) (.slice A4 (1 + m.cs.length) c4)] W (NumPost W 0)) := Lib.hid (fun W g => qKind_any m hm hn _ _ _ _ W (h.bw g))
 have CV : Hid (∀ W, Bw w W → Calls Tryz.prog 45 #[aggM (.slice A1 m.ss.length c1) (.slice A2 m.ps.length c2) (.slice A3 m.rs.length c3) (.slice A4 (1 + m.cs.length) c4), .agg #[.int .i64 0, .slice A5 n5 c5]] W (BoolPost W true)) := Lib.hid (fun W g => by
   have := qValid_any m hm hn (cfgV s cs) _ _ _ _ _ W (h.bw g) (h1.bw g)
   rwa [validM hm hv] at this)
 have CQ : Hid (∀ W, Bw w W → Calls Tryz.prog 81 #[aggM (.slice A1 m.ss.length c1) (.slice A2 m.ps.length c2) (.slice A3 m.rs.length c3) (.slice A4 (1 + m.cs.length) c4), .agg #[.int .i64 0, .slice A5 n5 c5]] W (fun e w' => e = .returned (.tuple #[.slice none 0 0, .int .i64 0]) ∧ Bw W w')) := Lib.hid (fun W g => qQuiet_any m hm hn s cs hv _ _ _ _ _ W (h.bw g) (h1.bw g))
 have BX := Lib.hid (box2 w 33 #[.int .i64 1, .slice A1 m.ss.length c1, .slice A2 m.ps.length c2, .slice none 0 0, .slice none 0 0, .int .i64 0, .int .i64 0, .slice A3 m.rs.length c3, .int .i64 0, .slice A4 (1 + m.cs.length) c4] 31 #[.int .i64 0, .slice A5 n5 c5])
 have hi2 : ((-1 : Int)) < (m.rs.length : Int) := by omega
 clear h h1 hm hn hv
 unfold aggM at *
 go_enter Tryz.func46, Tryz.ntmps46
 go_wp2_with (first
   | (go_at_call 44; go_must (refine (CK.out _ BX.out.1).mono ?_; rintro e w1 ⟨rfl, hg1⟩; (have HG1 := Lib.hid hg1); (obtain ⟨hw0, bb0, bb1⟩ := BX.out.2 _ (hg1)); (obtain ⟨ul, u0, u1, u2, u3, u4, u5, u6, u7, u8, u9⟩ := bb0.c10); (obtain ⟨vl, v0, v1⟩ := bb1.c2); (have HW0 := Lib.hid hw0); clear hw0 bb0 bb1; clear hg1))
   | (go_at_call 45; go_must (refine (CV.out _ HW0.out).mono ?_; rintro e w2 ⟨rfl, hg2⟩; (have HG2 := Lib.hid (HG1.out.trans hg2)); (obtain ⟨hw0, bb0, bb1⟩ := BX.out.2 _ (HG1.out.trans hg2)); (obtain ⟨ul, u0, u1, u2, u3, u4, u5, u6, u7, u8, u9⟩ := bb0.c10); (obtain ⟨vl, v0, v1⟩ := bb1.c2); (have HW0 := Lib.hid hw0); clear hw0 bb0 bb1; clear hg2))
   | (go_at_call 81; go_must (refine (CQ.out _ HW0.out).mono ?_; rintro e w3 ⟨rfl, hg3⟩; (have HK3 := Lib.hid (HW0.out.trans hg3)); clear hg3)))
 go_ret2
 exact ⟨_, rfl, KAt.nil _ _ (Nat.zero_le _), HK3.out⟩
def RelA (rs : List Rul) (s : Int) (cs : List Int) (k : Nat) (l : List St) : Prop := allP s cs 0 rs = (allP s cs k (rs.drop k)).map (l ++ ·)
theorem RelA.step {rs : List Rul} {s : Int} {cs : List Int} {k : Nat} {l : List St} (h : RelA rs s cs k l) (hk : k < rs.length) :
   (aplE rs[k] s cs = 0 → RelA rs s cs (k + 1) (l ++ (aplL rs[k] s cs).map (fun x => ⟨(k : Int), x⟩))) ∧ (aplE rs[k] s cs ≠ 0 → allP s cs 0 rs = none) := by
 unfold RelA at *
 rw [List.drop_eq_getElem_cons hk, allP] at h
 unfold aplE aplL
 by_cases h0 : (applyP rs[k] s cs).2 = 0
 · simp only [h0, ↓reduceIte] at h ⊢
   refine ⟨fun _ => ?_, fun h => absurd rfl h⟩
   rw [h, Option.map_map]
   congr 1
   funext x
   simp
 · by_cases h1 : (applyP rs[k] s cs).2 = 18
   · simp only [h0, h1, ↓reduceIte] at h ⊢
     rw [if_neg (by decide)] at h
     refine ⟨fun _ => by simpa using h, fun h => absurd (by simp) h⟩
   · simp only [h0, h1, ↓reduceIte] at h ⊢
     exact ⟨fun h => h.elim, fun _ => by simpa using h⟩
theorem aplL_len (r : Rul) (s : Int) (cs : List Int) : (aplL r s cs).length ≤ 1 := by unfold aplL; split <;> simp
def AllStPost (w : World) (R : Option (List St)) (e : Ending) (w' : World) : Prop := ∃ v er, e = .returned (.tuple #[v, .int .i64 er]) ∧ Bw w w' ∧ ((R = none ∧ er ≠ 0) ∨ ∃ l, R = some l ∧ er = 0 ∧ ∃ ps, EAt encS w' (fun b => w.heap.size ≤ b ∧ b < w'.heap.size) v ps ∧ ps.map (·.1) = l)
theorem qAll_any (m : Mdl) (hm : MdlOk m) (hn : NmOk m) (hr9 : m.rs.length ≤ 200) (s : Int) (cs : List Int) (hv : oneP 8 m.t (cfgV s cs) = true) (sv pv rv kv s1 : Value) (w : World) (h : MB w w.heap.size sv pv rv kv m) (h1 : KB w w.heap.size s1 (cfgV s cs).ks) :
   Calls Tryz.prog 20 #[aggM sv pv rv kv, .agg #[.int .i64 0, s1]] w (AllStPost w (allP s cs 0 m.rs)) := by
 obtain ⟨A1, c1, A2, c2, A3, c3, A4, c4, rfl, rfl, rfl, rfl⟩ := h.form
 obtain ⟨A5, n5, c5, rfl, _, _, _⟩ := h1.form
 have CK : Hid (∀ W, Bw w W → Calls Tryz.prog 44 #[aggM (.slice A1 m.ss.length c1) (.slice A2 m.ps.length c2) (.slice A3 m.rs.length c3) (.slice A4 (1 + m.cs.length) c4)] W (NumPost W 0)) := Lib.hid (fun W g => qKind_any m hm hn _ _ _ _ W (h.bw g))
 have CV : Hid (∀ W, Bw w W → Calls Tryz.prog 45 #[aggM (.slice A1 m.ss.length c1) (.slice A2 m.ps.length c2) (.slice A3 m.rs.length c3) (.slice A4 (1 + m.cs.length) c4), .agg #[.int .i64 0, .slice A5 n5 c5]] W (BoolPost W true)) := Lib.hid (fun W g => by
   have := qValid_any m hm hn (cfgV s cs) _ _ _ _ _ W (h.bw g) (h1.bw g)
   rwa [validM hm hv] at this)
 have CA : Hid (∀ kk, kk ≤ m.rs.length → ∃ lx er, lx.length ≤ 1 ∧ (∀ l, RelA m.rs s cs (kk - 1) l → (er = 0 → RelA m.rs s cs kk (l ++ lx.map (fun x => ⟨(kk : Int) - 1, x⟩))) ∧ (er ≠ 0 → allP s cs 0 m.rs = none)) ∧ ∀ W, Bw w W → Calls Tryz.prog 46 #[aggM (.slice A1 m.ss.length c1) (.slice A2 m.ps.length c2) (.slice A3 m.rs.length c3) (.slice A4 (1 + m.cs.length) c4), .int .i64 ((kk : Int) - 1), .agg #[.int .i64 0, .slice A5 n5 c5]] W (VsEPost W lx er)) := Lib.hid (fun kk hkk => by
   rcases kk with _ | k
   · exact ⟨[], 0, by simp, fun l h => ⟨fun _ => by simpa using h, fun h => absurd rfl h⟩, fun W g => qApply0_any m hm hn s cs hv _ _ _ _ _ W (h.bw g) (h1.bw g)⟩
   · refine ⟨aplL m.rs[k] s cs, aplE m.rs[k] s cs, aplL_len _ _ _, fun l h => ?_, fun W g => ?_⟩
     · have := h.step (by omega)
       simpa using this
     · have := qApply_any m hm hn s cs hv k (by omega) _ _ _ _ _ W (h.bw g) (h1.bw g)
       rwa [show ((k + 1 : Nat) : Int) - 1 = (k : Int) by omega])
 have HR0 : Hid (RelA m.rs s cs 0 []) := Lib.hid (by unfold RelA; simp)
 have HRN : Hid (∀ l, RelA m.rs s cs m.rs.length l → allP s cs 0 m.rs = some l) := Lib.hid (fun l h => by unfold RelA at h; rw [List.drop_length] at h; simpa [allP] using h)
 obtain ⟨i0, hi0, hz0, hz1, hz2⟩ := info_parts infoStepB
 have BX := Lib.hid (box2 w 33 #[.int .i64 1, .slice A1 m.ss.length c1, .slice A2 m.ps.length c2, .slice none 0 0, .slice none 0 0, .int .i64 0, .int .i64 0, .slice A3 m.rs.length c3, .int .i64 0, .slice A4 (1 + m.cs.length) c4] 31 #[.int .i64 0, .slice A5 n5 c5])
 generalize allP s cs 0 m.rs = R at *
 generalize RelA m.rs s cs = RA at *
 clear h h1 hm hn hv
 unfold aggM at *
 generalize m.rs.length = L at *
 go_enter Tryz.func20, Tryz.ntmps20
 go_wp2_with (first
   | (go_at_call 44; go_must (refine (CK.out _ BX.out.1).mono ?_; rintro e w1 ⟨rfl, hg1⟩; (have HG1 := Lib.hid hg1); (obtain ⟨hw0, bb0, bb1⟩ := BX.out.2 _ (hg1)); (obtain ⟨ul, u0, u1, u2, u3, u4, u5, u6, u7, u8, u9⟩ := bb0.c10); (obtain ⟨vl, v0, v1⟩ := bb1.c2); (have HW0 := Lib.hid hw0); clear hw0 bb0 bb1; clear hg1))
   | (go_at_call 45; go_must (refine (CV.out _ HW0.out).mono ?_; rintro e w2 ⟨rfl, hg2⟩; (have HG2 := Lib.hid (HG1.out.trans hg2)); (obtain ⟨hw0, bb0, bb1⟩ := BX.out.2 _ (HG1.out.trans hg2)); (obtain ⟨ul, u0, u1, u2, u3, u4, u5, u6, u7, u8, u9⟩ := bb0.c10); (obtain ⟨vl, v0, v1⟩ := bb1.c2); (have HW0 := Lib.hid hw0); clear hw0 bb0 bb1; clear hg2)))
 clear HG1 ul u0 u1 u2 u3 u4 u5 u6 u7 u8 u9 vl v0 v1 CK CV
 go_loopw [7, 8] (fun s7 i wr => ∃ (kk kn : Nat) (A : Option Addr) (c : Nat), kk ≤ L + 1 ∧ i = .int .i64 ((kk : Int) - 1) ∧ s7 = .slice A kn c ∧ Hid (∃ l, l.length = kn ∧ kn ≤ kk ∧ RA (kk - 1) l ∧ OwnT (w.heap.size + 2) wr (.slice A kn c) l ∧ Bw ((w.alloc (.cells #[.int .i64 1, .slice A1 m.ss.length c1, .slice A2 m.ps.length c2, .slice none 0 0, .slice none 0 0, .int .i64 0, .int .i64 0, .slice A3 L c3, .int .i64 0, .slice A4 (1 + m.cs.length) c4] 33)).alloc (.cells #[.int .i64 0, .slice A5 n5 c5] 31)) wr)) (fun _ i _ => (L - intOf i).toNat)
 case atStart => exact ⟨0, 0, none, 0, by omega, rfl, rfl, Lib.hid ⟨[], rfl, by omega, HR0.out, ⟨[], ERow.nil _ _ _ _, rfl⟩, HG2.out⟩⟩
 case round =>
   clear HG2 HW0 HR0
   obtain ⟨wo, hwo⟩ : ∃ wo, wo = wr := ⟨_, rfl⟩
   subst hwo
   obtain ⟨kk, kn, A, c, hkk, rfl, rfl, HR⟩ := hrel
   obtain ⟨l, hl, hk9, hra, hown, hbw⟩ := HR.out
   obtain ⟨hw0, bb0, bb1⟩ := BX.out.2 _ hbw
   obtain ⟨ul, u0, u1, u2, u3, u4, u5, u6, u7, u8, u9⟩ := bb0.c10
   obtain ⟨vl, v0, v1⟩ := bb1.c2
   have HB := Lib.hid (And.intro hw0 hbw)
   have HO := Lib.hid hown
   have HRA := Lib.hid hra
   clear hw0 bb0 bb1 hown hra hbw
   by_cases hlt : kk ≤ L
   · have hlt' : (kk : Int) - 1 < (L : Int) := by omega
     obtain ⟨lx, er, hx1, hx2, hx3⟩ := CA.out kk hlt
     have CAP := Lib.hid (hx3 _ HB.out.1)
     have HX2 := Lib.hid (hx2 _ HRA.out)
     clear hx2 hx3 CA HRN HR
     by_cases her : er = 0
     · subst her
       go_upto_region 14 with (go_at_call 46; go_must (refine CAP.out.mono ?_; rintro e w3 ⟨tv, rfl, hk3, hg3⟩; obtain ⟨TA, tn, tc, rfl, htl, -⟩ := hk3.form; (have HK3 := Lib.hid (And.intro hk3 hg3)); (obtain ⟨hw0, bb0, bb1⟩ := BX.out.2 _ (HB.out.2.trans hg3)); (obtain ⟨ul, u0, u1, u2, u3, u4, u5, u6, u7, u8, u9⟩ := bb0.c10); (obtain ⟨vl, v0, v1⟩ := bb1.c2); (have HW0 := Lib.hid hw0); clear hw0 bb0 bb1; clear hk3 hg3))
       have HRO := HO
       obtain ⟨psr, hrow, hpe⟩ := HO.out
       have hpl : psr.length = kn := by rw [← hl, ← hpe, List.length_map]
       have HROW := Lib.hid (And.intro hrow hpe)
       have hrl : ∀ r, (Value.slice A kn c).ownBlock = some r → w.heap.size + 2 ≤ r ∧ r < wo.heap.size := fun r e => hrow.own.lt r e
       have HRL := Lib.hid hrl
       clear hrow hpe hrl
       clear ul u0 u1 u2 u3 u4 u5 u6 u7 u8 u9 vl v0 v1
       go_loopw [7, 11] (fun s7 j wi => ∃ (jn q : Nat) (A' : Option Addr) (c' : Nat), jn ≤ lx.length ∧ j = .int .i64 jn ∧ s7 = .slice A' q c' ∧ Hid (q = kn + jn ∧ OwnT (w.heap.size + 2) wi (.slice A' q c') (l ++ (lx.take jn).map (fun x => ⟨(kk : Int) - 1, x⟩)) ∧ Bw ((w.alloc (.cells #[.int .i64 1, .slice A1 m.ss.length c1, .slice A2 m.ps.length c2, .slice none 0 0, .slice none 0 0, .int .i64 0, .int .i64 0, .slice A3 L c3, .int .i64 0, .slice A4 (1 + m.cs.length) c4] 33)).alloc (.cells #[.int .i64 0, .slice A5 n5 c5] 31)) wi ∧ (jn = 0 → wi = w3 ∧ A' = A ∧ c' = c))) (fun _ j _ => lx.length - (intOf j).toNat)
       case atStart => exact ⟨0, kn, A, c, by omega, rfl, rfl, Lib.hid ⟨rfl, by simpa using HO.out.bw HK3.out.2, HB.out.2.trans HK3.out.2, fun _ => ⟨rfl, rfl, rfl⟩⟩⟩
       case round =>
         obtain ⟨wi0, hwi⟩ : ∃ wi0, wi0 = wr := ⟨_, rfl⟩
         subst hwi
         obtain ⟨jn, q, A', c', hjn, rfl, rfl, HJ⟩ := hrel
         obtain ⟨hq, hjo, hjb, hj0⟩ := HJ.out
         by_cases hj : jn < lx.length
         · have hjz : jn = 0 := by omega
           obtain ⟨rfl, rfl, rfl⟩ := hj0 hjz
           have hjt : (jn : Int) < (tn : Int) := by omega
           obtain ⟨ad, xA, xn, xc, rfl, hba, qa0, qa1, -, hkx⟩ := HK3.out.1.at_ hj
           have hlen : ∀ W, Bw wo W → W.ownsRow (w.heap.size + 2) 62 3 (.slice A' kn c') kn (psr.flatMap encS.enc) := fun W g => by
             have := own_kept_below HROW.out.1.own g
             rw [hpl] at this; exact this
           have hq0 : q = kn := by omega
           have HQ := Lib.hid hq
           subst hq0
           have HLEN := Lib.hid hlen
           have HKX := Lib.hid hkx
           have HJB := Lib.hid hjb
           have hJ9 : q ≤ 201 := by omega
           have hs0 : w.heap.size + 2 ≤ wi0.heap.size := by have := hjb.size; simpa using this
           clear hlen hkx hjb hjo HJ hj0
           have HTK : Hid (lx.take (jn + 1) = [lx[jn]]) := Lib.hid (by
             subst hjz
             rcases lx with _ | ⟨y, r⟩
             · simp at hj
             · simp)
           generalize lx[jn] = x at *
           clear hjz hq
           go_wp2_with (at_builtin; go_must (refine wpList_append_any _ rfl _ _ 35 rfl (w.heap.size + 2) 62 i0 _ 3 40 Tryz.underlying35 hi0 hz0 hz1 hz2 rfl (by decide) (.slice A' q c') q (psr.flatMap encS.enc) rfl ((HLEN.out _ HK3.out.2).alloc _) (wi0.heap.size + 1) (some ⟨wi0.heap.size, 0, none⟩) 1 1 [.int .i64 ((kk : Int) - 1), .int .i64 x.n, .slice xA xn xc] rfl (reads_new3 _ _ _ _ _) (stp3 _ _ _ _ _) (by unfold maxLen; omega) (by omega) (by simp; omega) ?_; intro v7 w7 hown7 hgr7 hl7; obtain ⟨A7, c7, rfl⟩ := own_form hown7; (have HO7 := Lib.hid (And.intro hown7 (And.intro hgr7 hl7))); clear hown7 hgr7 hl7))
           go_roundw
           case rel =>
             refine ⟨jn + 1, q + 1, A7, c7, by omega, by go_num, rfl, Lib.hid ⟨by have := HQ.out; omega, ?_, ?_, fun h => by omega⟩⟩
             · rw [HTK.out]
               have hrow2 := HROW.out.1.bw (HK3.out.2.alloc (.cells #[.int .i64 ((kk : Int) - 1), .int .i64 x.n, .slice xA xn xc] 62)) (D' := fun b => w.heap.size + 2 ≤ b ∧ b < (wi0.alloc (.cells #[.int .i64 ((kk : Int) - 1), .int .i64 x.n, .slice xA xn xc] 62)).heap.size ∧ (Value.slice A' q c').ownBlock ≠ some b) (fun b hb => ⟨⟨hb.1, by have := HK3.out.2.size; simp; omega, hb.2.2⟩, hb.2.1⟩)
               exact OwnT.push (x := ⟨(kk : Int) - 1, x⟩) (s1 := .slice xA xn xc) hrow2 HROW.out.2 (HKX.out.keep (fun b hb => ⟨by have := HB.out.2.size; simp at this; omega, by simp; omega, fun e => by have := HRL.out b e; omega⟩) (fun p hp => World.cell?_of_block (Below.heap_alloc _ _ p.block hp.2))) (by rw [hpl]; exact HO7.out.1) HO7.out.2.1 HO7.out.2.2
             · exact bw_gb (HJB.out.alloc _) HO7.out.2.1 (fun r e => by have := HRL.out r e; simp; omega)
           case measure => simp [intOf]; omega
         · obtain rfl : jn = lx.length := by omega
           have hjt : ¬ ((lx.length : Int) < (tn : Int)) := by omega
           go_wp2_with fail
           go_roundw
           case rel =>
             rw [List.take_of_length_le (Nat.le_refl _)] at hjo
             exact ⟨kk + 1, q, A', c', by omega, by go_num, rfl, Lib.hid ⟨_, by simp; omega, by omega, HX2.out.1 trivial, hjo, hjb⟩⟩
           case measure => simp [intOf]; omega
     · have her' : (er != 0) = true := by simpa using her
       go_wp2_with (go_at_call 46; go_must (refine CAP.out.mono ?_; rintro e w3 ⟨tv, rfl, hk3, hg3⟩; obtain ⟨TA, tn, tc, rfl, htl, -⟩ := hk3.form; (have HK3 := Lib.hid (And.intro hk3 hg3)); (obtain ⟨hw0, bb0, bb1⟩ := BX.out.2 _ (HB.out.2.trans hg3)); (obtain ⟨ul, u0, u1, u2, u3, u4, u5, u6, u7, u8, u9⟩ := bb0.c10); (obtain ⟨vl, v0, v1⟩ := bb1.c2); (have HW0 := Lib.hid hw0); clear hw0 bb0 bb1; clear hk3 hg3))
       go_ret2
       exact ⟨_, er, rfl, HW0.out, .inl ⟨HX2.out.2 her, her⟩⟩
   · obtain rfl : kk = L + 1 := by omega
     have hkn : kn ≤ 201 := by omega
     have hge : ¬ (256 : Int) < (kn : Int) := by omega
     have hlt' : ¬ (((L + 1 : Nat) : Int) - 1 < (L : Int)) := by omega
     go_wp2_with fail
     go_ret2
     obtain ⟨ps, h1, h2⟩ := HO.out.eat
     exact ⟨_, 0, rfl, HB.out.1, .inr ⟨l, HRN.out l (by simpa using HRA.out), rfl, ps, h1.keep (fun b hb => ⟨by omega, hb.2⟩) (fun _ _ => rfl), h2⟩⟩
end
end Go.Proofs.YthhbkabdhkdafaaGreat
