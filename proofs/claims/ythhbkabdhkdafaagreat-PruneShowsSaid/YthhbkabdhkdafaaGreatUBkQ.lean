/- Part of a proof of pruneShows_holds. -/
import Derived.Test.YthhbkabdhkdafaaGreatUBiQ
import Derived.Test.YthhbkabdhkdafaaGreatUBjQ
set_option linter.unusedSimpArgs false
set_option linter.unusedVariables false
set_option maxRecDepth 100000
set_option maxHeartbeats 16000000
namespace Go.Proofs.YthhbkabdhkdafaaGreat
section
open Go.RowKit
theorem DetSays.up {M : List (List Int)} {k : Nat} {rows : List Nat} {D E : Nat} (h : DetSays M k rows D) (hDE : D ≤ E) : DetSays M k rows E := fun cols hl hc => ⟨Nat.le_trans (h cols hl hc).1 hDE, (h cols hl hc).2⟩
theorem det_two (M : List (List Int)) (n k : Nat) (ho : MxOk M n k) : ∀ rows : List Nat, rows.length ≤ 2 → (∀ r ∈ rows, r < n) → DetSays M k rows 1024
 | [], _, _ => (det_zero M k).up (by omega)
 | [r], _, h => (det_step M n k ho r (h r (by simp)) [] (by simp) 1 (by omega) (det_zero M k)).up (by simp)
 | [r, s], _, h => (det_step M n k ho r (h r (by simp)) [s] (by simp) 16 (by omega) ((det_step M n k ho s (h s (by simp)) [] (by simp) 1 (by omega) (det_zero M k)).up (by simp))).up (by simp)
 | _ :: _ :: _ :: _, hl, _ => by simp at hl
theorem natI_len (l : List Nat) : (natI l).length = l.length := by simp [natI]
theorem natI_snoc (l : List Nat) (x : Nat) : natI (l ++ [x]) = natI l ++ [(x : Int)] := by simp [natI]
theorem natI_mem {l : List Nat} {x : Nat} : (x : Int) ∈ natI l ↔ x ∈ l := by
 unfold natI
 rw [List.mem_map]
 constructor
 · rintro ⟨y, h, e⟩
   have : y = x := by omega
   rwa [← this]
 · exact fun h => ⟨x, h, rfl⟩
def LeadPost (w : World) (R C : List Nat) (e : Ending) (w' : World) : Prop := ∃ (A1 : Option Addr) (c1 : Nat) (A2 : Option Addr) (c2 : Nat), e = .returned (.tuple #[.slice A1 R.length c1, .slice A2 C.length c2]) ∧ IB w' w'.heap.size (.slice A1 R.length c1) (natI R) ∧ IB w' w'.heap.size (.slice A2 C.length c2) (natI C) ∧ Bw w w'
theorem IAt.len_ {w : World} {S : Nat → Prop} {A : Option Addr} {n c : Nat} {l : List Int} (h : IAt w S (.slice A n c) l) : l.length = n := by
 obtain ⟨A', n', c', e, h1, h2, h3, h4⟩ := h
 injection e with e1 e2 e3
 subst e1 e2 e3
 exact h1
theorem IAt.cap_ {w : World} {S : Nat → Prop} {A : Option Addr} {n c : Nat} {l : List Int} (h : IAt w S (.slice A n c) l) : n ≤ c ∧ c ≤ maxLen := by
 obtain ⟨A', n', c', e, h1, h2, h3, h4⟩ := h
 injection e with e1 e2 e3
 subst e1 e2 e3
 exact ⟨h2, h3⟩
theorem mxLeading_any (M : List (List Int)) (n9 k9 : Nat) (ho : MxOk M n9 k9) (hk2 : k9 ≤ 2) (v : Value) (w : World) (h : MxAt w (· < w.heap.size) v M) : Calls Tryz.prog 273 #[v] w (LeadPost w (leadP M k9).1 (leadP M k9).2) := by
 obtain ⟨A, c, rfl, h3, h4⟩ := h.form
 have n1 := ho.n1
 have k1 := ho.k1
 have hln := ho.ln
 obtain ⟨ad, rA, rcx, rfl, hab, z0, -⟩ := h.at_ (k := 0) (by omega)
 rw [ho.rw _ (List.getElem_mem _)] at z0
 have HZ0 : Hid (∀ W, Bw w W → W.cell? ad = some (.slice rA k9 rcx)) := Lib.hid (fun W g => (g.b.cell hab).trans (by simpa [Addr.add] using z0))
 have HM : Hid (∀ W, Bw w W → MxAt W (· < W.heap.size) (.slice (some ad) n9 c) M) := Lib.hid (fun W g => by have := h.bw g; rwa [hln] at this)
 have DT := Lib.hid (det_two M n9 k9 ho)
 have HLN := Lib.hid hln
 have HOK := Lib.hid (leadP_ok M n9 hln)
 rw [hln] at h3 ⊢
 clear h ho z0 hab hln
 go_enter Tryz.func273, Tryz.ntmps273
 have zw := HZ0.out w (Bw.refl _)
 go_wp2_with fail
 clear zw
 go_loopw [2, 3, 12] (fun s2 s3 s12 wr => ∃ (j : Nat) (RA : Option Addr) (rn rc : Nat) (CA : Option Addr) (cn cc : Nat), j ≤ k9 ∧ s12 = .int .i64 (j : Int) ∧ s2 = .slice RA rn rc ∧ s3 = .slice CA cn cc ∧ Hid (IB wr wr.heap.size (.slice RA rn rc) (natI (leadP M j).1) ∧ IB wr wr.heap.size (.slice CA cn cc) (natI (leadP M j).2) ∧ Bw w wr)) (fun _ _ s12 _ => k9 - (intOf s12).toNat)
 case atStart => exact ⟨0, none, 0, 0, none, 0, 0, by omega, rfl, rfl, rfl, Lib.hid ⟨IAt.nil _ _ (Nat.zero_le _), IAt.nil _ _ (Nat.zero_le _), Bw.refl _⟩⟩
 case round =>
   obtain ⟨wo, hwo⟩ : ∃ wo, wo = wr := ⟨_, rfl⟩
   subst hwo
   obtain ⟨j, RA, rn, rc, CA, cn, cc, hj, rfl, rfl, rfl, HA⟩ := hrel
   have hok := HOK.out j
   by_cases hlt9 : j < k9
   · have hlt9' : (j : Int) < (k9 : Int) := by omega
     have HS : Hid (leadP M (j + 1) = leadR M (leadP M j).1 (leadP M j).2 j (List.range n9)) := Lib.hid (by rw [leadP_succ, HLN.out])
     obtain ⟨rows, cols, hp⟩ : ∃ rows cols, leadP M j = (rows, cols) := ⟨_, _, rfl⟩
     rw [hp] at HS HA hok
     simp only at HS HA
     have hl1 := HA.out.1.len_
     have hl2 := HA.out.2.1.len_
     rw [natI_len] at hl1 hl2
     have hr9 : rows.length ≤ 1 := by have := hok.le; simp at this; omega
     have hrc : rows.length = cols.length := hok.len
     have HRN := Lib.hid (And.intro hok.rn hok.cn)
     have hb1 := HA.out.1.cap_
     have hb2 := HA.out.2.1.cap_
     have HL : Hid (rows.length = rn ∧ cols.length = cn ∧ rn ≤ 1 ∧ cn ≤ 1 ∧ rows.length = cols.length) := Lib.hid (by omega)
     have hrn1 := HL.out.2.2.1
     have hcn1 := HL.out.2.2.2.1
     clear hok hp hl1 hl2 hr9 hrc
     go_wp2_with fail
     go_loopw [2, 3, 17] (fun s2 s3 s17 wr => ∃ i : Nat, i ≤ n9 ∧ s17 = .int .i64 (i : Int) ∧ s2 = .slice RA rn rc ∧ s3 = .slice CA cn cc ∧ Hid (Bw wo wr ∧ leadP M (j + 1) = leadR M rows cols j ((List.range n9).drop i))) (fun _ _ s17 _ => n9 - (intOf s17).toNat)
     case atStart => exact ⟨0, by omega, rfl, rfl, rfl, Lib.hid ⟨Bw.refl _, by rw [HS.out]; rfl⟩⟩
     case round =>
       obtain ⟨wi, hwi⟩ : ∃ wi, wi = wr := ⟨_, rfl⟩
       subst hwi
       obtain ⟨i, hi, rfl, rfl, rfl, HR⟩ := hrel
       by_cases hlt : i < n9
       · have hlt' : (i : Int) < (n9 : Int) := by omega
         have CT := Lib.hid (contI9_any (natI rows) (i : Int) _ wi (HA.out.1.bw HR.out.1))
         have HX := Lib.hid HR.out.2
         have HB := Lib.hid HR.out.1
         clear HR
         by_cases hin : i ∈ rows
         · rw [show decide ((i : Int) ∈ natI rows) = true by simpa [natI_mem] using hin] at CT
           have hin := Lib.hid hin
           go_wp2_with (go_at_call 255; go_must (refine CT.out.mono ?_; rintro e w1 ⟨rfl, hg1⟩; (have HG1 := Lib.hid (HB.out.trans hg1)); clear hg1))
           go_roundw
           case rel =>
             refine ⟨i + 1, by omega, by go_num, rfl, rfl, Lib.hid ⟨HG1.out, ?_⟩⟩
             have h1 := HX.out
             rw [range_drop hlt, leadR, if_pos hin.out] at h1
             exact h1
           case measure => simp [intOf]; omega
         · rw [show decide ((i : Int) ∈ natI rows) = false by simpa [natI_mem] using hin] at CT
           have hin := Lib.hid hin
           have CL1 : Hid (∀ W, Calls Tryz.prog 338 #[.slice RA rn rc] W (fun e w' => e = .returned (.slice RA rn rn) ∧ Bw W w')) := Lib.hid (fun W => clipI_any RA rn rc hb1.1 hb1.2 W)
           have CL2 : Hid (∀ W, Calls Tryz.prog 338 #[.slice CA cn cc] W (fun e w' => e = .returned (.slice CA cn cn) ∧ Bw W w')) := Lib.hid (fun W => clipI_any CA cn cc hb2.1 hb2.2 W)
           have HR1 : Hid (∀ W, Bw wi W → IB W W.heap.size (.slice RA rn rn) (natI rows)) := Lib.hid (fun W g => (HA.out.1.bw (HB.out.trans g)).clip)
           have HC1 : Hid (∀ W, Bw wi W → IB W W.heap.size (.slice CA cn cn) (natI cols)) := Lib.hid (fun W g => (HA.out.2.1.bw (HB.out.trans g)).clip)
           have DC : Hid (∀ u1 u2 W, Bw wi W → IB W W.heap.size u1 (natI (rows ++ [i])) → IB W W.heap.size u2 (natI (cols ++ [j])) → Calls Tryz.prog 274 #[.slice (some ad) n9 c, u1, u2] W (NumPost W (detP M (rows ++ [i]) (cols ++ [j])))) := Lib.hid (fun u1 u2 W g g1 g2 => by
             have hL := HL.out
             refine (DT.out (rows ++ [i]) (by simp; omega) (fun r hr => ?_) (cols ++ [j]) (by simp; omega) (fun r hr => ?_)).2 _ _ _ W (HM.out W (HA.out.2.2.trans (HB.out.trans g))) g1 g2
             · rcases List.mem_append.1 hr with h | h
               · exact HRN.out.1 r h
               · rw [List.mem_singleton.1 h]; exact hlt
             · rcases List.mem_append.1 hr with h | h
               · have := HRN.out.2 r h; omega
               · rw [List.mem_singleton.1 h]; exact hlt9)
           generalize hdd : detP M (rows ++ [i]) (cols ++ [j]) = dd at *
           have HDD := Lib.hid hdd
           clear hdd
           go_upto_region 9 with (first
             | (go_at_call 255; go_must (refine CT.out.mono ?_; rintro e w1 ⟨rfl, hg1⟩; (have HG1 := Lib.hid hg1); clear hg1))
             | (go_at_call 338; (with_reducible refine (CL1.out _).mono ?_); rintro e w2 ⟨rfl, hg2⟩; (have HG2 := Lib.hid (HG1.out.trans hg2)); clear hg2)
             | (go_at_call 338; (with_reducible refine (CL2.out _).mono ?_); rintro e w4 ⟨rfl, hg4⟩; (have HG4 := Lib.hid (HO3.out.2.trans hg4)); (have HW4 := Lib.hid hg4); clear hg4)
             | (at_builtin; refine wpList_clipI rfl (.tmp 24) (.tmp 26) rfl RA rn (natI rows) (HR1.out _ (HG2.out.alloc _)) (by omega) (i : Int) w2.heap.size (Blk.new w2 _ _) rfl rfl ?_; intro v3 w3 hown3 hg3; obtain ⟨A3, c3, rfl⟩ := own_form hown3; (have HO3 := Lib.hid (And.intro hown3 ((HG2.out.alloc (.cells #[.int .i64 (i : Int)] 3)).trans hg3))); clear hown3 hg3)
             | (at_builtin; go_must (refine wpList_clipI rfl (.tmp 29) (.tmp 31) rfl CA cn (natI cols) (HC1.out _ (HG4.out.alloc _)) (by omega) (j : Int) w4.heap.size (Blk.new w4 _ _) rfl rfl ?_; intro v5 w5 hown5 hg5; obtain ⟨A5, c5, rfl⟩ := own_form hown5; (have HO5 := Lib.hid (And.intro hown5 ((HG4.out.alloc (.cells #[.int .i64 (j : Int)] 3)).trans hg5))); (have HQ5 := Lib.hid (And.intro HG4.out hg5)); clear hown5 hg5)))
           have hz5 : IB w5 w5.heap.size (.slice A3 (rn + 1) c3) (natI (rows ++ [i])) ∧ IB w5 w5.heap.size (.slice A5 (cn + 1) c5) (natI (cols ++ [j])) := by
             have t1 := own_iat (cs := natI rows ++ [(i : Int)]) HO3.out.1
             have t2 := own_iat (cs := natI cols ++ [(j : Int)]) HO5.out.1
             rw [← natI_snoc] at t1 t2
             refine ⟨IAt.bw (t1.keep (fun b hb => hb.2) (fun _ _ => rfl)) ?_, t2.keep (fun b hb => hb.2) (fun _ _ => rfl)⟩
             exact (HW4.out.alloc _).trans HQ5.out.2
           have HZ := Lib.hid hz5
           have HG5 := Lib.hid (HB.out.trans HO5.out.2)
           have CD := Lib.hid (DC.out _ _ w5 HO5.out.2 hz5.1 hz5.2)
           clear hz5 DC CL1 CL2 HR1 HC1 CT HO3 HO5 HQ5 HG4 HG2 HG1
           by_cases hd0 : dd = 0
           · have hd1 : (dd != 0) = false := by simpa using hd0
             have HN := Lib.hid hd0
             clear hd0
             go_wp2_with (go_at_call 274; go_must (refine CD.out.mono ?_; rintro e w6 ⟨rfl, hg6⟩; (have HG6 := Lib.hid (HG5.out.trans hg6)); clear hg6))
             go_roundw
             case rel =>
               refine ⟨i + 1, by omega, by go_num, rfl, rfl, Lib.hid ⟨HG6.out, ?_⟩⟩
               have h1 := HX.out
               rw [range_drop hlt, leadR, if_neg hin.out, if_neg (by rw [HDD.out, HN.out]; simp)] at h1
               exact h1
             case measure => simp [intOf]; omega
           · have hd1 : (dd != 0) = true := by simpa using hd0
             have HN := Lib.hid hd0
             clear hd0
             go_wp2_with (go_at_call 274; go_must (refine CD.out.mono ?_; rintro e w6 ⟨rfl, hg6⟩; (have HG6 := Lib.hid hg6); clear hg6))
             have h1 := HX.out
             rw [range_drop hlt, leadR, if_neg hin.out, if_pos (by rw [HDD.out]; exact HN.out)] at h1
             exact ⟨⟨j + 1, A3, rn + 1, c3, A5, cn + 1, c5, by omega, by go_num, rfl, rfl, Lib.hid ⟨by rw [h1]; exact HZ.out.1.bw HG6.out, by rw [h1]; exact HZ.out.2.bw HG6.out, HA.out.2.2.trans (HG5.out.trans HG6.out)⟩⟩, by simp [intOf]; omega⟩
       · obtain rfl : i = n9 := by omega
         go_wp2_with fail
         have h1 := HR.out.2
         rw [range_end, leadR] at h1
         exact ⟨⟨j + 1, RA, rn, rc, CA, cn, cc, by omega, by go_num, rfl, rfl, Lib.hid ⟨by rw [h1]; exact HA.out.1.bw HR.out.1, by rw [h1]; exact HA.out.2.1.bw HR.out.1, HA.out.2.2.trans HR.out.1⟩⟩, by simp [intOf]; omega⟩
   · obtain rfl : j = k9 := by omega
     obtain ⟨h1, h2, h3⟩ := HA.out
     obtain rfl : rn = (leadP M j).1.length := by rw [← natI_len, h1.len_]
     obtain rfl : cn = (leadP M j).2.length := by rw [← natI_len, h2.len_]
     go_wp2_with fail
     go_ret2
     exact ⟨_, _, _, _, rfl, h1, h2, h3⟩
theorem kernPrim_any (M : List (List Int)) (k9 : Nat) (R C : List Nat) (all : Int) (f : Nat) (hk : 1 ≤ k9 ∧ k9 ≤ 6) (hf : f < k9) (hfC : f ∉ C) (h0 : all ≠ 0) (ha : all.natAbs ≤ 1024) (hd : ∀ i, i < C.length → (detP M R (C.set i f)).natAbs ≤ 1024)
   (s : Value) (W : World) (h : IB W W.heap.size s (kernV M k9 R C all f)) : Calls Tryz.prog 276 #[s] W (ColPost W (primP (kernV M k9 R C all f))) := by
 have e : kernV M k9 R C all f = kernS M k9 R C all f C.length := rfl
 have hb : ∀ x ∈ kernV M k9 R C all f, -1024 ≤ x ∧ x ≤ 1024 := by rw [e]; exact kernS_bd ha hd C.length (Nat.le_refl _)
 have hl : (kernV M k9 R C all f).length = k9 := by rw [e]; exact kernS_len M k9 R C all f C.length
 have hm : (all.natAbs : Int) ∈ kernV M k9 R C all f := by rw [e]; exact List.mem_of_getElem? (kernS_f hf hfC C.length (Nat.le_refl _))
 exact mxPrim_any _ (by omega) (by omega) (fun x hx => by have := hb x hx; omega) (gcdL_pos hm (by omega)) (gcdL_all _) (fun k => Nat.le_trans (gcdL_le (B := 1024) (fun x hx => by have := hb x (List.mem_of_mem_take hx); omega)) (by omega)) s W h
theorem set_natI (C : List Nat) (i f : Nat) : (natI C).set i (f : Int) = natI (C.set i f) := by simp [natI, List.map_set]
theorem intVs_set (l : List Int) (i : Nat) (x : Int) : (intVs l).set i (.int .i64 x) = intVs (l.set i x) := by simp [intVs, List.map_set]
theorem intVs_getE {l : List Int} {i : Nat} (h : i < l.length) : (intVs l)[i]? = some (.int .i64 l[i]) := by simp [intVs, h]
theorem mxKernel_any (M : List (List Int)) (n9 k9 : Nat) (ho : MxOk M n9 k9) (hk2 : k9 ≤ 2) (v : Value) (w : World) (h : MxAt w (· < w.heap.size) v M) : Calls Tryz.prog 215 #[v] w (TrPost w (kernP M k9)) := by
 obtain ⟨A, c, rfl, h3, h4⟩ := h.form
 have n1 := ho.n1
 have k1 := ho.k1
 have hln := ho.ln
 obtain ⟨ad, rA, rcx, rfl, hab, z0, -⟩ := h.at_ (k := 0) (by omega)
 rw [ho.rw _ (List.getElem_mem _)] at z0
 have HZ0 : Hid (∀ W, Bw w W → W.cell? ad = some (.slice rA k9 rcx)) := Lib.hid (fun W g => (g.b.cell hab).trans (by simpa [Addr.add] using z0))
 have CK : Hid (∀ W, Bw w W → Calls Tryz.prog 145 #[.slice (some ad) n9 c] W (NumPost W 0)) := Lib.hid (fun W g => by have := mxCheck_any M n9 k9 ho _ W (h.bw g); rwa [hln] at this)
 have CL : Hid (∀ W, Bw w W → Calls Tryz.prog 273 #[.slice (some ad) n9 c] W (LeadPost W (leadP M k9).1 (leadP M k9).2)) := Lib.hid (fun W g => by have := mxLeading_any M n9 k9 ho hk2 _ W (h.bw g); rwa [hln] at this)
 have hok := leadP_ok M n9 hln k9
 obtain ⟨R, C, hp⟩ : ∃ R C, leadP M k9 = (R, C) := ⟨_, _, rfl⟩
 have hkp : kernP M k9 = kernL M k9 R C k9 := by rw [kernP_eq, hp]
 obtain ⟨KP, hKP⟩ : ∃ KP, kernP M k9 = KP := ⟨_, rfl⟩
 rw [hKP] at hkp ⊢
 have HKP := Lib.hid hkp
 clear hkp hKP
 rw [hp] at CL hok
 simp only at CL
 have hRC : R.length = C.length := hok.len
 have hR2 : R.length ≤ 2 := by have := hok.le; simp at this; omega
 have HC2 : Hid (C.length ≤ 2) := Lib.hid (by omega)
 have DT := det_two M n9 k9 ho R hR2 hok.rn
 have HCN : Hid (∀ x ∈ C, x < k9) := Lib.hid hok.cn
 have HNZ : Hid (detP M R C ≠ 0) := Lib.hid hok.nz
 have DC : Hid (∀ (u1 u2 : Value) (cols : List Nat) (W : World), cols.length = C.length → (∀ x ∈ cols, x < k9) → Bw w W → IB W W.heap.size u1 (natI R) → IB W W.heap.size u2 (natI cols) → Calls Tryz.prog 274 #[.slice (some ad) n9 c, u1, u2] W (NumPost W (detP M R cols))) := Lib.hid (fun u1 u2 cols W e1 e2 g g1 g2 => by
   have := (DT cols (e1.trans hRC.symm) e2).2 _ u1 u2 W (h.bw g) g1 g2
   rwa [hln] at this)
 have DB : Hid (∀ cols : List Nat, cols.length = C.length → (∀ x ∈ cols, x < k9) → (detP M R cols).natAbs ≤ 1024) := Lib.hid (fun cols e1 e2 => (DT cols (e1.trans hRC.symm) e2).1)
 have HSC : Hid (∀ i f, f < k9 → (C.set i f).length = C.length ∧ ∀ x ∈ C.set i f, x < k9) := Lib.hid (fun i f hf => ⟨by simp, fun x hx => by
   rcases List.mem_or_eq_of_mem_set hx with h | h
   · exact hok.cn x h
   · omega⟩)
 have hall9 := DB.out C rfl HCN.out
 have PR : Hid (∀ f, f < k9 → f ∉ C → ∀ (s : Value) (W : World), IB W W.heap.size s (kernV M k9 R C (detP M R C) f) → Calls Tryz.prog 276 #[s] W (ColPost W (primP (kernV M k9 R C (detP M R C) f)))) := Lib.hid (fun f hf hfC s W hs => kernPrim_any M k9 R C _ f k1 hf hfC HNZ.out hall9 (fun i hi => DB.out _ (HSC.out i f hf).1 (HSC.out i f hf).2) s W hs)
 have HKL : Hid (∀ f, kernL M k9 R C (f + 1) = if f ∈ C then kernL M k9 R C f else kernL M k9 R C f ++ [primP (kernV M k9 R C (detP M R C) f)]) := Lib.hid (kernL_succ M k9 R C)
 obtain ⟨i0, hi0, hz0, hz1, hz2⟩ := info_parts infoInts
 have AM : Hid (∀ W, Calls Tryz.prog 275 #[.int .i64 (detP M R C)] W (NumPost W ((detP M R C).natAbs : Int))) := Lib.hid (fun W => mxAmount_any _ (by omega) W)
 rw [hln] at h3 ⊢
 clear h ho z0 hab hln hok hp DT hRC hR2 hall9
 go_enter Tryz.func215, Tryz.ntmps215
 go_wp2_with (first
   | (go_at_call 145; go_must (refine (CK.out _ (Bw.refl _)).mono ?_; rintro e w1 ⟨rfl, hg1⟩; (have HG1 := Lib.hid hg1); clear hg1))
   | (go_at_call 273; go_must (refine (CL.out _ HG1.out).mono ?_; rintro e w2 ⟨RA, rc, CA, cc, rfl, hr, hc, hg2⟩; (have HRC := Lib.hid (And.intro hr hc)); (have HG2 := Lib.hid (HG1.out.trans hg2)); clear hr hc hg2))
   | (go_at_call 274; go_must (refine (DC.out _ _ C _ rfl HCN.out HG2.out HRC.out.1 HRC.out.2).mono ?_; rintro e w3 ⟨rfl, hg3⟩; (have HG3 := Lib.hid (HG2.out.trans hg3)); (have z1 := HZ0.out _ HG3.out); (have HR3 : Hid (∀ W, Bw w3 W → IB W W.heap.size (.slice RA R.length rc) (natI R) ∧ IB W W.heap.size (.slice CA C.length cc) (natI C)) := Lib.hid (fun W g => ⟨HRC.out.1.bw (hg3.trans g), HRC.out.2.bw (hg3.trans g)⟩)); clear hg3)))
 clear CK CL HRC HG1 HG2 z1
 generalize hall : detP M R C = all at *
 clear hall
 go_loopw [8, 32] (fun s8 s32 wr => ∃ (f : Nat) (OA : Option Addr) (oc q : Nat), f ≤ k9 ∧ s32 = .int .i64 (f : Int) ∧ s8 = .slice OA q oc ∧ q ≤ f ∧ Hid (Bw w3 wr ∧ ∃ ps, ps.map (·.1) = kernL M k9 R C f ∧ ps.length = q ∧ MxO wr w3.heap.size (.slice OA q oc) ps)) (fun _ s32 _ => k9 - (intOf s32).toNat)
 case atStart => exact ⟨0, none, 0, 0, by omega, rfl, rfl, Nat.le_refl _, Lib.hid ⟨Bw.refl _, [], rfl, rfl, MxO.nil _ _⟩⟩
 case round => as_aux_lemma =>
   obtain ⟨wo, hwo⟩ : ∃ wo, wo = wr := ⟨_, rfl⟩
   subst hwo
   obtain ⟨f, OA, oc, q, hf, rfl, rfl, hqf, HA⟩ := hrel
   by_cases hlt : f < k9
   · have hlt' : (f : Int) < (k9 : Int) := by omega
     have HSL := Lib.hid (HKL.out f)
     have CT := Lib.hid (contI9_any (natI C) (f : Int) _ wo (HR3.out wo HA.out.1).2)
     by_cases hin : f ∈ C
     · rw [show decide ((f : Int) ∈ natI C) = true by simpa [natI_mem] using hin] at CT
       have hin := Lib.hid hin
       go_wp2_with (go_at_call 255; go_must (refine CT.out.mono ?_; rintro e w4 ⟨rfl, hg4⟩; (have HG4 := Lib.hid hg4); clear hg4))
       go_roundw
       case rel =>
         obtain ⟨hb, ps, h1, h2, h3⟩ := HA.out
         refine ⟨f + 1, OA, oc, q, by omega, by go_num, rfl, by omega, Lib.hid ⟨hb.trans HG4.out, ps, ?_, h2, h3.bw HG4.out⟩⟩
         rw [HSL.out, if_pos hin.out]; exact h1
       case measure => simp [intOf]; omega
     · rw [show decide ((f : Int) ∈ natI C) = false by simpa [natI_mem] using hin] at CT
       have hin := Lib.hid hin
       have hmk := mkIntsJ k9 (by omega)
       go_upto_region 12 with (go_at_call 255; go_must (refine CT.out.mono ?_; rintro e w4 ⟨rfl, hg4⟩; (have z1 := HZ0.out _ (HG3.out.trans (HA.out.1.trans hg4))); (have HG4 := Lib.hid hg4); clear hg4))
       refine wp_world (fun W => Hid (W.ownsRow wo.heap.size 3 1 (.slice (some ⟨w4.heap.size, 0, none⟩) k9 k9) k9 (intVs (List.replicate k9 0)) ∧ Bw wo W)) (Lib.hid ⟨own_base (own_new w4 3 (intVs (List.replicate k9 0)).toArray 1 (n := k9) rfl (by simp [intVs])) HG4.out.size, HG4.out.alloc _⟩) ?_
       clear CT z1 hmk
       have hgz : Hid (wo.heap.size ≤ w4.heap.size) := Lib.hid HG4.out.size
       clear HG4
       intro W0 HW0
       generalize hg : w4.heap.size = g at *
       clear hg
       go_upto_region 13 with (go_at_call 275; go_must (refine (AM.out _).mono ?_; rintro e w5 ⟨rfl, hg5⟩; (have HO5 := Lib.hid (And.intro (own_kept_below HW0.out.1 hg5.b) (HW0.out.2.trans hg5))); (have y0 : w5.cell? ⟨g, f, none⟩ = some (.int .i64 0) := (HO5.out.1.cellAt f (by omega)).trans (by simp [intVs, hlt])); (have y1 := HO5.out.1.frozenAt f); (have y2 := (HO5.out.1.lt g rfl).2); clear hg5))
       refine wp_world (fun W => Hid (W.ownsRow wo.heap.size 3 1 (.slice (some ⟨g, 0, none⟩) k9 k9) k9 (intVs (kernS M k9 R C all f 0)) ∧ Bw wo W)) (Lib.hid (by
         have hs := HO5.out.1.stored f (.int .i64 (all.natAbs : Int))
         rw [intVs_set, ← kernS_zero M k9 R C all f] at hs
         exact ⟨hs.1, bw_gbM HO5.out.2 hs.2 (fun r e => (HO5.out.1.lt r e).1)⟩)) ?_
       clear y0 y1 y2
       clear HO5 HW0 W0
       intro W1 HW1
       go_wp2_with fail
       go_loopw [50] (fun s50 wr => ∃ i : Nat, i ≤ C.length ∧ s50 = .int .i64 (i : Int) ∧ Hid (wr.ownsRow wo.heap.size 3 1 (.slice (some ⟨g, 0, none⟩) k9 k9) k9 (intVs (kernS M k9 R C all f i)) ∧ Bw wo wr)) (fun s50 _ => C.length - (intOf s50).toNat)
       case atStart => exact ⟨0, by omega, rfl, HW1⟩
       case round => as_aux_lemma =>
         clear HW1
         have hC2 := HC2.out
         obtain ⟨wi, hwi⟩ : ∃ wi, wi = wr := ⟨_, rfl⟩
         subst hwi
         obtain ⟨i, hi, rfl, HB⟩ := hrel
         by_cases hlti : i < C.length
         · have hlti' : (i : Int) < (C.length : Int) := by omega
           have hcC := HR3.out wi (HA.out.1.trans HB.out.2)
           obtain ⟨ad2, rfl, hb2, z2⟩ := hcC.2.at_ (k := i) (by rw [natI_len]; exact hlti)
           replace z2 : wi.cell? (ad2.add i) = some (.int .i64 (C[i] : Int)) := by simpa [natI] using z2
           have CLN := Lib.hid (clone_any (some ad2) C.length cc (natI C) wi (by unfold IsAt; rw [natI_len]; exact hcC.2.reads) (natI_len C) (by omega) (by have := HC2.out; omega))
           have hci := HCN.out _ (List.getElem_mem hlti)
           have HKS : Hid (kernS M k9 R C all f (i + 1) = (kernS M k9 R C all f i).set C[i] (if all < 0 then detP M R (C.set i f) else -(detP M R (C.set i f)))) := Lib.hid (by
             have := kernS_succ M k9 R C all f i
             rwa [show C.getD i 0 = C[i] by simp [List.getD, hlti]] at this)
           have hkl : Hid ((kernS M k9 R C all f i).length = k9) := Lib.hid (kernS_len M k9 R C all f i)
           have DCi := Lib.hid (fun (u1 u2 : Value) (W : World) => DC.out u1 u2 (C.set i f) W (HSC.out i f hlt).1 (HSC.out i f hlt).2)
           have hdb := DB.out (C.set i f) (HSC.out i f hlt).1 (HSC.out i f hlt).2
           have HNI : Hid ((natI C).set i (f : Int) = natI (C.set i f)) := Lib.hid (set_natI C i f)
           generalize C[i] = ci at *
           clear hcC hb2
           go_upto_region 17 with (go_at_call 29; go_must (refine CLN.out.mono ?_; rintro e w6 ⟨g2, cap2, rfl, ho6, hb6⟩; (have HO6 := Lib.hid (And.intro ho6 hb6)); (have y0 : w6.cell? ⟨g2, i, none⟩ = some (.int .i64 (natI C)[i]!) := (ho6.cellAt i (by omega)).trans (by simp [intVs, natI, hlti])); (have y1 := ho6.frozenAt i); (have y2 := (ho6.lt g2 rfl).2); clear ho6 hb6))
           clear z2 CLN
           go_upto_region 18 with fail
           refine wp_world (fun W => Hid (W.ownsRow wi.heap.size 3 1 (.slice (some ⟨g2, 0, none⟩) C.length cap2) C.length (intVs (natI (C.set i f))) ∧ Bw wi W)) (Lib.hid (by
             have hs := HO6.out.1.stored i (.int .i64 (f : Int))
             rw [intVs_set, HNI.out] at hs
             exact ⟨hs.1, bw_gbM HO6.out.2 hs.2 (fun r e => (HO6.out.1.lt r e).1)⟩)) ?_
           clear y0 y1 y2 HO6
           intro W7 HW7
           have CD7 := Lib.hid (DCi.out _ (.slice (some ⟨g2, 0, none⟩) C.length cap2) W7 (HG3.out.trans (HA.out.1.trans (HB.out.2.trans HW7.out.2))) (HR3.out W7 (HA.out.1.trans (HB.out.2.trans HW7.out.2))).1 ((own_iat (by simpa using HW7.out.1)).keep (fun b hb => hb.2) (fun _ _ => rfl)))
           clear DCi
           generalize detP M R (C.set i f) = dd at *
           have hq1 : IntKind.i64.wrap (-dd) = -dd := IntWalk.i64_in _ (by omega)
           have hq2 : IntKind.i64.wrap (- -dd) = dd := (IntWalk.i64_in _ (by omega)).trans (by omega)
           have hci' : (ci : Int) < (k9 : Int) := by omega
           go_upto_region 19 with (go_at_call 274; go_must (refine CD7.out.mono ?_; rintro e w8 ⟨rfl, hg8⟩; (have HO8 := Lib.hid (And.intro (own_kept_below HB.out.1 (HW7.out.2.trans hg8).b) (HB.out.2.trans (HW7.out.2.trans hg8)))); (have y0 : w8.cell? ⟨g, ci, none⟩ = some (.int .i64 ((kernS M k9 R C all f i)[ci]!)) := (HO8.out.1.cellAt ci (by omega)).trans (by rw [intVs_getE (by rw [hkl.out]; exact hci)]; simp [hkl.out, hci])); (have y1 := HO8.out.1.frozenAt ci); (have y2 := (HO8.out.1.lt g rfl).2); clear hg8))
           refine wp_world (fun W => Hid (W.ownsRow wo.heap.size 3 1 (.slice (some ⟨g, 0, none⟩) k9 k9) k9 (intVs ((kernS M k9 R C all f i).set ci (-dd))) ∧ Bw wo W)) (Lib.hid (by
             have hs := HO8.out.1.stored ci (.int .i64 (-dd))
             rw [intVs_set] at hs
             exact ⟨hs.1, bw_gbM HO8.out.2 hs.2 (fun r e => (HO8.out.1.lt r e).1)⟩)) ?_
           clear y0 y1 y2 HO8 CD7 HW7 HB W7
           intro W9 HW9
           by_cases hneg : all < 0
           · have d1 : decide (all < 0) = true := by simpa using hneg
             have y0 : W9.cell? ⟨g, ci, none⟩ = some (.int .i64 (-dd)) := (HW9.out.1.cellAt ci (by omega)).trans (by
               rw [intVs_getE (by rw [List.length_set, hkl.out]; exact hci)]; simp)
             have y1 := HW9.out.1.frozenAt ci
             have y2 := (HW9.out.1.lt g rfl).2
             have HN := Lib.hid hneg
             have HS2 : Hid (Hid (wi = wi) ∧ (kernS M k9 R C all f i).set ci dd = kernS M k9 R C all f (i + 1)) := Lib.hid ⟨Lib.hid rfl, by rw [HKS.out, if_pos hneg]⟩
             clear hneg
             go_wp2_with fail
             have hs := HW9.out.1.stored ci (.int .i64 dd)
             rw [intVs_set, List.set_set, HS2.out.2] at hs
             exact ⟨⟨i + 1, by omega, by go_num, Lib.hid ⟨hs.1, bw_gbM HW9.out.2 hs.2 (fun r e => (HW9.out.1.lt r e).1)⟩⟩, by simp [intOf]; omega⟩
           · have d1 : decide (all < 0) = false := by simpa using hneg
             have HS2 : Hid ((kernS M k9 R C all f i).set ci (-dd) = kernS M k9 R C all f (i + 1)) := Lib.hid (by rw [HKS.out, if_neg hneg])
             go_wp2_with fail
             have h1 := HW9.out
             rw [HS2.out] at h1
             exact ⟨⟨i + 1, by omega, by go_num, Lib.hid h1⟩, by simp [intOf]; omega⟩
         · obtain rfl : i = C.length := by omega
           have HV := Lib.hid (PR.out f hlt hin.out (.slice (some ⟨g, 0, none⟩) k9 k9) wi ((own_iat (by have := HB.out.1; exact this)).keep (fun b hb => hb.2) (fun _ _ => rfl)))
           obtain ⟨hb, ps, hpe, hpl, hmo⟩ := HA.out
           have HMO := Lib.hid (And.intro hpe (And.intro hmo hpl))
           have HBB := Lib.hid (hb.trans HB.out.2)
           have HOW : Hid (∀ W o, Bw wi W → (W.alloc o).ownsRow w3.heap.size 27 1 (.slice OA q oc) q (ps.map (·.2))) := Lib.hid (fun W o g => by
             have := own_kept_below hmo.own ((HB.out.2.trans g).alloc o).b
             rwa [hpl] at this)
           have hsz := hb.size
           have hsz2 := HB.out.2.size
           generalize hPP : primP (kernV M k9 R C all f) = PP at *
           have HNW : Hid (kernL M k9 R C (f + 1) = kernL M k9 R C f ++ [PP]) := Lib.hid (by rw [HSL.out, if_neg hin.out])
           rw [show ColPost wi PP = fun e w' => ∃ (A : Option Addr) (c : Nat), e = .returned (.slice A PP.length c) ∧ w'.ownsRow wi.heap.size 3 1 (.slice A PP.length c) PP.length (intVs PP) ∧ Bw wi w' from rfl] at HV
           clear hb hpe hpl hmo HSL hPP
           go_wp2_with (first
             | (go_at_call 276; go_must (refine HV.out.mono ?_; rintro e w9 ⟨PA, pc, rfl, ho9, hb9⟩; (have HC9 := Lib.hid (And.intro ho9 hb9)); (have hs9 := hb9.size); clear ho9 hb9))
             | (at_builtin; go_must (refine wpList_append_any _ rfl _ _ 44 rfl w3.heap.size 27 i0 _ 1 24 Tryz.underlying44 hi0 hz0 hz1 hz2 rfl (by decide) (.slice OA q oc) q (ps.map (·.2)) rfl (HOW.out _ _ HC9.out.2) (w9.heap.size + 1) (some ⟨w9.heap.size, 0, none⟩) 1 1 [.slice PA PP.length pc] rfl (reads_newS w9 _) (by simp [Value.oneCell']) (by unfold maxLen; omega) (by omega) (by simp; omega) ?_; intro v7 w7 hown7 hgr7 hl7; obtain ⟨A7, c7, rfl⟩ := own_form hown7; (have HO7 := Lib.hid (And.intro hown7 (And.intro hgr7 hl7))); clear hown7 hgr7 hl7)))
           have hA : Bw wi (w9.alloc (.cells #[.slice PA PP.length pc] 27)) := HC9.out.2.alloc _
           have hrow : ∀ r, (Value.slice OA q oc).ownBlock = some r → w3.heap.size ≤ r ∧ r < wo.heap.size := fun r e => HMO.out.2.1.own.lt r e
           have hpu := (HMO.out.2.1.bw (HB.out.2.trans hA)).push (r := PP) (s := .slice PA PP.length pc) ((own_iat2 HC9.out.1).keep (fun b hb => ⟨by omega, by simp; omega, fun e => by have := hrow b e; omega⟩) (fun p hp => World.cell?_of_block (Below.heap_alloc w9 _ p.block hp.2))) (by rw [HMO.out.2.2]; exact HO7.out.1) HO7.out.2.1 HO7.out.2.2
           exact ⟨⟨f + 1, A7, c7, q + 1, by omega, by go_num, rfl, by omega, Lib.hid ⟨bw_gbM (HBB.out.trans hA) HO7.out.2.1 (fun r e => (hrow r e).1), _, by rw [List.map_append, HMO.out.1, HNW.out]; rfl, by rw [List.length_append, HMO.out.2.2]; rfl, hpu⟩⟩, by simp [intOf]; omega⟩
   · obtain rfl : f = k9 := by omega
     go_wp2_with fail
     go_ret2
     obtain ⟨hb, ps, hpe, hpl, hmo⟩ := HA.out
     have hat := hmo.at_
     have hsz := HG3.out.size
     rw [hpe, ← HKP.out] at hat
     have hl : KP.length = q := by rw [HKP.out, ← hpe, List.length_map, hpl]
     unfold TrPost
     rw [hl]
     exact ⟨_, _, rfl, hat.keep (fun b hb => ⟨by omega, hb.2⟩) (fun _ _ => rfl), HG3.out.trans hb⟩
def IntsV3 (B n : Nat) (v : Value) (W : World) : Prop := ∃ (xs : List Int) (A : Option Addr) (c : Nat), v = .slice A n c ∧ xs.length = n ∧ (∀ x ∈ xs, 0 ≤ x ∧ x ≤ 3) ∧ W.ownsRow B 3 1 (.slice A n c) n (intVs xs)
def CfgV3 (B n1 n2 : Nat) (v : Value) (W : World) : Prop := ∃ (r : Nat) (xs : List Int) (s : Value), v = .agg #[.int .i64 0, s] ∧ r < n1 ∧ xs.length = n2 ∧ (∀ x ∈ xs, 0 ≤ x ∧ x ≤ 3) ∧ KAt W (fun b => B ≤ b ∧ b < W.heap.size) s (cfgV (r : Int) xs).ks
def pcV (w : World) (B b n1 n2 : Nat) (A1 A2 : Option Addr) (c1 c2 : Nat) : Nat → Value → World → Prop
 | 0, v, _ => v = .pointer (some ⟨b, 0, none⟩)
 | 1, v, _ => v = .pointer (some ⟨w.heap.size, 1, none⟩)
 | 2, v, _ => v = .slice A1 n1 c1
 | 3, v, _ => v = .int .i64 (n1 : Int)
 | 4, v, _ => ∃ r : Nat, r < n1 ∧ v = .int .i64 (r : Int)
 | 5, v, _ => v = .pointer (some ⟨b, 0, none⟩)
 | 6, v, _ => v = .pointer (some ⟨w.heap.size, 2, none⟩)
 | 7, v, _ => v = .slice A2 n2 c2
 | 8, v, _ => v = .int .i64 (n2 : Int)
 | 9, v, W => IntsV3 B n2 v W
 | 10, v, W => CfgV3 B n1 n2 v W
 | _, _, _ => True
theorem pcV_st {w W W' : World} {B b n1 n2 : Nat} {A1 A2 : Option Addr} {c1 c2 : Nat} (hb : b < B) (i : Nat) (v : Value) (hi : i < 11) (h : pcV w B b n1 n2 A1 A2 c1 c2 i v W) (g : W.grownBy W' (some b)) : pcV w B b n1 n2 A1 A2 c1 c2 i v W' := by
 rcases (by omega : i = 0 ∨ i = 1 ∨ i = 2 ∨ i = 3 ∨ i = 4 ∨ i = 5 ∨ i = 6 ∨ i = 7 ∨ i = 8 ∨ i = 9 ∨ i = 10) with rfl | rfl | rfl | rfl | rfl | rfl | rfl | rfl | rfl | rfl | rfl
 · exact h
 · exact h
 · exact h
 · exact h
 · exact h
 · exact h
 · exact h
 · exact h
 · exact h
 · obtain ⟨xs, A, c, h1, h2, h3, h4⟩ := h; exact ⟨xs, A, c, h1, h2, h3, own_put h4 g hb⟩
 · obtain ⟨r, xs, s, h1, h2, h3, h4, h5⟩ := h
   exact ⟨r, xs, s, h1, h2, h3, h4, h5.keep (fun q hq => ⟨hq.1, Nat.lt_of_lt_of_le hq.2 g.size⟩) (fun p hp => World.cell?_of_block (g.block p.block hp.2 (fun e => by injection e with e; omega)))⟩
def PCfgPost (w : World) (b n1 n2 : Nat) (e : Ending) (w' : World) : Prop := ∃ (r : Nat) (xs : List Int) (s : Value), e = .returned (.agg #[.int .i64 0, s]) ∧ r < n1 ∧ xs.length = n2 ∧ (∀ x ∈ xs, 0 ≤ x ∧ x ≤ 3) ∧ KAt w' (fun g => w.heap.size ≤ g ∧ g < w'.heap.size) s (cfgV (r : Int) xs).ks ∧ DiceOk w' b ∧ w.grownBy w' (some b)
theorem pconfig_any (w : World) (b : Nat) (hd : DiceOk w b) (A1 A2 A3 A4 : Option Addr) (n1 n2 n3 n4 c1 c2 c3 c4 : Nat) (h1 : 1 ≤ n1) (h2 : n1 ≤ 1000) (h3 : n2 ≤ 1000) : Calls Tryz.prog 12 #[.pointer (some ⟨b, 0, none⟩), aggM (.slice A1 n1 c1) (.slice A2 n2 c2) (.slice A3 n3 c3) (.slice A4 n4 c4)] w (PCfgPost w b n1 n2) := by
 have hbl := hd.lt
 have PKN : Hid (∀ W n, DiceOk W b → 1 ≤ n → n ≤ 100000 → Calls Tryz.prog 10 #[.pointer (some ⟨b, 0, none⟩), .int .i64 n] W (PickPost W b n)) := Lib.hid (fun W n h1 h2 h3 => ppick_any W b h1 n h2 h3)
 have INT : Hid (∀ W (n : Nat) most, DiceOk W b → n ≤ 1000 → 0 ≤ most → most ≤ 1000 → Calls Tryz.prog 31 #[.pointer (some ⟨b, 0, none⟩), .int .i64 (n : Int), .int .i64 most] W (DIntsF W b n most)) := Lib.hid (fun W n most h1 h2 h3 h4 => pints_any W b h1 n h2 most h3 h4)
 have CF : Hid (∀ (r : Nat) cs s W, IB W W.heap.size s cs → cs.length ≤ 1000 → Calls Tryz.prog 30 #[.int .i64 (r : Int), s] W (ValPost W (cfgV (r : Int) cs))) := Lib.hid (fun r cs s W h1 h2 => qconfig_any r cs s W h1 h2)
 have HD := Lib.hid hd
 clear hd
 go_enter Tryz.func12, Tryz.ntmps12
 go_upto_region 3 with fail
 refine wp_world (fun W => Hid (Blk W w.heap.size 33 #[.int .i64 1, .slice A1 n1 c1, .slice A2 n2 c2, .slice none 0 0, .slice none 0 0, .int .i64 0, .int .i64 0, .slice A3 n3 c3, .int .i64 0, .slice A4 n4 c4] ∧ Blk W (w.heap.size + 1) 31 #[.int .i64 0, .slice none 0 0] ∧ DiceOk W b ∧ w.grownBy W (some b) ∧ w.heap.size + 2 ≤ W.heap.size)) (Lib.hid ⟨(Blk.new w _ _).alloc _, by have := Blk.new (w.alloc (.cells #[.int .i64 1, .slice A1 n1 c1, .slice A2 n2 c2, .slice none 0 0, .slice none 0 0, .int .i64 0, .int .i64 0, .slice A3 n3 c3, .int .i64 0, .slice A4 n4 c4] 33)) 31 #[.int .i64 0, .slice none 0 0]; simpa only [World.size_alloc] using this, (HD.out.al _).al _, grownBy_alloc (grownBy_alloc (World.grownBy.refl _ _) _) _, by simp⟩) ?_
 clear HD
 intro W0 HW0
 have hb0 : b < W0.heap.size := by have := HW0.out.2.2.2.2; omega
 have HM := Lib.hid HW0.out.1
 have HZ := Lib.hid HW0.out.2.1
 have hmb : w.heap.size ≠ b := by omega
 have hzb : w.heap.size + 1 ≠ b := by omega
 refine wp_region_prod mixedO 11 (by rfl) (fun i => ([9, 10, 11, 12, 13, 14, 15, 16, 17, 18, 19] : List Nat).getD i 0) (fun i j hi hj => (by decide : ∀ i, i < 11 → ∀ j, j < 11 → ([9, 10, 11, 12, 13, 14, 15, 16, 17, 18, 19] : List Nat).getD i 0 = ([9, 10, 11, 12, 13, 14, 15, 16, 17, 18, 19] : List Nat).getD j 0 → i = j) i hi j hj) (fun i hi => (by decide : ∀ i, i < 11 → ([9, 10, 11, 12, 13, 14, 15, 16, 17, 18, 19] : List Nat).getD i 0 < 47) i hi)
   (fun W => W0.grownBy W (some b) ∧ DiceOk W b) (fun W W' => W.grownBy W' (some b)) (pcV w W0.heap.size b n1 n2 A1 A2 c1 c2) ⟨grownBy_drewN (World.grownBy.refl _ _) 1, HW0.out.2.2.1.drewN 1⟩ (fun i v W W' hi h g => pcV_st hb0 i v hi h g) (by kernel_rfl) (by kernel_rfl) ?hstep ?hlast
 case hstep =>
   intro i hi a W hR hoth hdep K hK
   rcases (by omega : i = 0 ∨ i = 1 ∨ i = 2 ∨ i = 3 ∨ i = 4 ∨ i = 5 ∨ i = 6 ∨ i = 7 ∨ i = 8 ∨ i = 9 ∨ i = 10) with rfl | rfl | rfl | rfl | rfl | rfl | rfl | rfl | rfl | rfl | rfl
   · refine ⟨_, (by simp only [List.getElem?_toArray, List.getElem?_cons_succ, List.getElem?_cons_zero]; exact rfl), rfl, ?_⟩
     have e0 : a.tmps[0]?.getD undef = .pointer (some ⟨b, 0, none⟩) := (hoth 0 (by decide)).trans rfl
     go_simp
     exact hK _ W rfl hR (World.grownBy.refl _ _)
   · refine ⟨_, (by simp only [List.getElem?_toArray, List.getElem?_cons_succ, List.getElem?_cons_zero]; exact rfl), rfl, ?_⟩
     have e3 : a.tmps[3]?.getD undef = .pointer (some ⟨w.heap.size, 0, none⟩) := (hoth 3 (by decide)).trans rfl
     go_simp
     exact hK _ W rfl hR (World.grownBy.refl _ _)
   · refine ⟨_, (by simp only [List.getElem?_toArray, List.getElem?_cons_succ, List.getElem?_cons_zero]; exact rfl), rfl, ?_⟩
     have e1 : a.tmps[10]?.getD undef = .pointer (some ⟨w.heap.size, 1, none⟩) := hdep 1 (by decide) (by kernel_rfl)
     have c1 := (gb_blk HM.out hR.1 hmb).cell 1
     go_simp
     exact hK _ W rfl hR (World.grownBy.refl _ _)
   · refine ⟨_, (by simp only [List.getElem?_toArray, List.getElem?_cons_succ, List.getElem?_cons_zero]; exact rfl), rfl, ?_⟩
     have e1 : a.tmps[11]?.getD undef = .slice A1 n1 c1 := hdep 2 (by decide) (by kernel_rfl)
     go_simp
     exact hK _ W rfl hR (World.grownBy.refl _ _)
   · refine ⟨_, (by simp only [List.getElem?_toArray, List.getElem?_cons_succ, List.getElem?_cons_zero]; exact rfl), rfl, ?_⟩
     have e1 : a.tmps[9]?.getD undef = .pointer (some ⟨b, 0, none⟩) := hdep 0 (by decide) (by kernel_rfl)
     have e2 : a.tmps[12]?.getD undef = .int .i64 (n1 : Int) := hdep 3 (by decide) (by kernel_rfl)
     go_simp
     refine (PKN.out W n1 hR.2 (by omega) (by omega)).mono ?_
     rintro e w2 ⟨r, rfl, hr, hd1, hg1⟩
     exact hK _ w2 ⟨r, by omega, rfl⟩ ⟨grownBy_trans hR.1 hg1, hd1⟩ hg1
   · refine ⟨_, (by simp only [List.getElem?_toArray, List.getElem?_cons_succ, List.getElem?_cons_zero]; exact rfl), rfl, ?_⟩
     have e0 : a.tmps[0]?.getD undef = .pointer (some ⟨b, 0, none⟩) := (hoth 0 (by decide)).trans rfl
     go_simp
     exact hK _ W rfl hR (World.grownBy.refl _ _)
   · refine ⟨_, (by simp only [List.getElem?_toArray, List.getElem?_cons_succ, List.getElem?_cons_zero]; exact rfl), rfl, ?_⟩
     have e3 : a.tmps[3]?.getD undef = .pointer (some ⟨w.heap.size, 0, none⟩) := (hoth 3 (by decide)).trans rfl
     go_simp
     exact hK _ W rfl hR (World.grownBy.refl _ _)
   · refine ⟨_, (by simp only [List.getElem?_toArray, List.getElem?_cons_succ, List.getElem?_cons_zero]; exact rfl), rfl, ?_⟩
     have e1 : a.tmps[15]?.getD undef = .pointer (some ⟨w.heap.size, 2, none⟩) := hdep 6 (by decide) (by kernel_rfl)
     have c1 := (gb_blk HM.out hR.1 hmb).cell 2
     go_simp
     exact hK _ W rfl hR (World.grownBy.refl _ _)
   · refine ⟨_, (by simp only [List.getElem?_toArray, List.getElem?_cons_succ, List.getElem?_cons_zero]; exact rfl), rfl, ?_⟩
     have e1 : a.tmps[16]?.getD undef = .slice A2 n2 c2 := hdep 7 (by decide) (by kernel_rfl)
     go_simp
     exact hK _ W rfl hR (World.grownBy.refl _ _)
   · refine ⟨_, (by simp only [List.getElem?_toArray, List.getElem?_cons_succ, List.getElem?_cons_zero]; exact rfl), rfl, ?_⟩
     have e1 : a.tmps[14]?.getD undef = .pointer (some ⟨b, 0, none⟩) := hdep 5 (by decide) (by kernel_rfl)
     have e2 : a.tmps[17]?.getD undef = .int .i64 (n2 : Int) := hdep 8 (by decide) (by kernel_rfl)
     go_simp
     refine (INT.out W n2 3 hR.2 (by omega) (by omega) (by omega)).mono ?_
     rintro e w2 ⟨xs, A, c, rfl, z1, z2, z3, z4, z5⟩
     exact hK _ w2 ⟨xs, A, c, rfl, z1, z2, own_base z3 hR.1.size⟩ ⟨grownBy_trans hR.1 z5, z4⟩ z5
   · refine ⟨_, (by simp only [List.getElem?_toArray, List.getElem?_cons_succ, List.getElem?_cons_zero]; exact rfl), rfl, ?_⟩
     obtain ⟨r, hr, e1⟩ : ∃ r : Nat, r < n1 ∧ a.tmps[13]?.getD undef = .int .i64 (r : Int) := hdep 4 (by decide) (by kernel_rfl)
     obtain ⟨xs, A, c, e2, z1, z2, z3⟩ : IntsV3 W0.heap.size n2 (a.tmps[18]?.getD undef) W := hdep 9 (by decide) (by kernel_rfl)
     go_simp
     refine (CF.out r xs _ W ((own_iat2 (by rw [z1]; exact z3)).keep (fun g hg => hg.2) (fun _ _ => rfl)) (by rw [z1]; omega)).mono ?_
     rintro e w2 ⟨s3, rfl, hk3, hb3⟩
     exact hK _ w2 ⟨r, xs, s3, rfl, hr, z1, z2, hk3.keep (fun b hb => ⟨Nat.le_trans hR.1.size hb.1, hb.2⟩) (fun _ _ => rfl)⟩ ⟨gb_bw hR.1 hb3, hR.2.bw hb3⟩ (gb_bw (World.grownBy.refl _ _) hb3)
 case hlast =>
   intro a W hdf hsz hR hoth hv
   refine ⟨_, (by simp only [List.getElem?_toArray, List.getElem?_cons_succ, List.getElem?_cons_zero]; exact rfl), rfl, ?_⟩
   have HSZ := Lib.hid hsz
   have HOT := Lib.hid hoth
   obtain ⟨r, xs, s3, x19, hr, h1, h2, h3⟩ := hv 10 (by decide)
   obtain ⟨A6, n6, c6, rfl, -⟩ := h3.form
   have hz := gb_blk HZ.out hR.1 hzb
   have m0 := hz.cell 0
   have m1 := hz.cell 1
   have f0 := hz.frozen 0
   have f1 := hz.frozen 1
   have ml := hz.lt
   have x19 : a.tmps[19]?.getD undef = _ := x19
   have x4 : a.tmps[4]?.getD undef = .pointer (some ⟨w.heap.size + 1, 0, none⟩) := (hoth 4 (by decide)).trans rfl
   have hst := blk2 (v0 := .int .i64 0) (v1 := .slice A6 n6 c6) hz
   have HST := Lib.hid (And.intro hst (And.intro h3 (And.intro h1 h2)))
   clear hsz hoth hv hst
   go_simp
   clear m0 m1 f0 f1 x4
   have ha := fold_all [9, 10, 11, 12, 13, 14, 15, 16, 17, 18, 19] 11 rfl hdf HSZ.out (fun d h => (by decide : ∀ d ∈ ([9, 10, 11, 12, 13, 14, 15, 16, 17, 18, 19] : List Nat), d < 47) d h) HOT.out
   simp only [List.map_cons, List.map_nil, List.foldl_cons, List.foldl_nil, x19, put_mk, List.setIfInBounds_toArray, List.set_cons_succ, List.set_cons_zero] at ha
   generalize a.tmps[9]?.getD undef = u9 at ha
   generalize a.tmps[10]?.getD undef = u10 at ha
   generalize a.tmps[11]?.getD undef = u11 at ha
   generalize a.tmps[12]?.getD undef = u12 at ha
   generalize a.tmps[13]?.getD undef = u13 at ha
   generalize a.tmps[14]?.getD undef = u14 at ha
   generalize a.tmps[15]?.getD undef = u15 at ha
   generalize a.tmps[16]?.getD undef = u16 at ha
   generalize a.tmps[17]?.getD undef = u17 at ha
   generalize a.tmps[18]?.getD undef = u18 at ha
   clear x19 HSZ HOT hdf
   subst ha
   go_wp2_with fail
   refine bodyPost_ret (results_cell_row (p := 4) (ty := 31) rfl _ _ (w.heap.size + 1) 31 _ (0, 0) _ rfl HST.out.1.1 Tryz.underlying31 rfl (by kernel_rfl)) rfl ?_
   have hg := HST.out.1.2
   have hgz := hg.size
   have hw0 := HW0.out.2.2.2.2
   exact ⟨r, xs, _, rfl, hr, h1, h2, h3.keep (fun q hq => ⟨by omega, by omega⟩) (fun q hq => World.cell?_of_block (hg.block q.block hq.2 (fun e => by injection e with e; omega))), hR.2.grown hg (fun r e => by injection e with e; omega), gb_past (grownBy_trans HW0.out.2.2.2.1 hR.1) hg (fun r e => by injection e with e; omega)⟩
end
end Go.Proofs.YthhbkabdhkdafaaGreat
