/- tipstavelaw15.LogicInside: the walk. -/
import Derived.Test.YtainigjbjfpoaaaGreatDoorCAlive
import Derived.Test.YtainigjbjfpoaaaGreatDoorCInsP
import Derived.Test.YtainigjbjfpoaaaGreatDoorCRhas
import Derived.Test.YtainigjbjfpoaaaGreatDoorCSames
namespace Go.Proofs.YtainigjbjfpoaaaGreatDoor
open Go.RowKit Go.Shelf Go.Maps

theorem keep3 {W0 : World} {P : Pers} {a b c : Nat} {L M N : List Value} {W W' : World} {A1 A2 : Option Addr} {F Z : List ByteArray} (hb : Below W.heap.size W W')
    (h : (∀ j v, L[j]? = some v → W.cell? ⟨a, j, none⟩ = some v) ∧ (∀ j v, M[j]? = some v → W.cell? ⟨b, j, none⟩ = some v) ∧ (∀ j v, N[j]? = some v → W.cell? ⟨c, j, none⟩ = some v)) (hB : Below W0.heap.size W0 W) (hs : Sat P W) (s1 : StrsAt W.heap.size W A1 F) (s2 : StrsAt W.heap.size W A2 Z)  :
    ((∀ j v, L[j]? = some v → W'.cell? ⟨a, j, none⟩ = some v) ∧ (∀ j v, M[j]? = some v → W'.cell? ⟨b, j, none⟩ = some v) ∧ (∀ j v, N[j]? = some v → W'.cell? ⟨c, j, none⟩ = some v)) ∧ Below W0.heap.size W0 W' ∧ Sat P W' ∧ StrsAt W'.heap.size W' A1 F ∧ StrsAt W'.heap.size W' A2 Z :=
  ⟨⟨fun j v hj => Cells.below hb _ _ (h.1 j v hj), fun j v hj => Cells.below hb _ _ (h.2.1 j v hj), fun j v hj => Cells.below hb _ _ (h.2.2 j v hj)⟩, hB.trans (hb.mono hB.size), hs.below hb, s1.cells (Cells.below hb) hb.size, s2.cells (Cells.below hb) hb.size⟩

set_option maxRecDepth 100000 in
set_option maxHeartbeats 8000000 in
theorem inside_calls (P : Pers) (G : Glob P) (x : Lo) (ca : List Value) (w : World) (hx : Lo.Rep P x ca) (hs : Sat P w) (hw : x.wt ≤ 549755813888) :
    Calls Tryz.prog 3 #[.agg ca.toArray] w fun e w' => e = .returned (.bool true) ∧ Below w.heap.size w w' := by
  have HX := As.mk hx
  have HG := As.mk G
  have HAL := As.mk (fun w hs => alive_calls P G w hs)
  obtain ⟨A3, c3, A4, c4, A6, c6, A7, c7, A8, c8, A9, c9, A10, c10, rfl, l3, r3, l4, r4, l6, r6, l7, r7, l8, r8, l9, r9, l10, r10, z2, z5, zk, zk2⟩ := hx.open
  have HS := As.mk hs
  have HW := As.mk hw
  clear hx hs hw r3 r4 r6 r7 r8 r9 r10 zk zk2 z2 z5 G
  go_enter Tryz.func3, Tryz.ntmps3
  go_wp2_with fail
  refine calls_abs ?_
  intro w0 hw0
  have HK0 : As (RowAt w0 w.heap.size _) := As.mk (row_at hw0 rfl)
  have HB0 := As.mk (show Below w.heap.size w w0 by rw [hw0]; exact (Below.refl _ _).alloc (Nat.le_refl _) _)
  have HS0 := As.mk (HS.out.below HB0.out)
  clear hw0
  refine (HAL.out _ HS0.out).mono ?_
  rintro e w1 ⟨rfl, hb1⟩
  have HB1 := As.mk (HB0.out.trans (hb1.mono HB0.out.size))
  have HS1 := As.mk (HS0.out.below hb1)
  have HK1 := As.mk (HK0.out.below hb1)
  obtain ⟨p0, p1, p2, p3, p4, p5, p6, p7, p8, p9, p10⟩ := cells11 HK1.out
  clear hb1
  go_wp2_with fail
  refine calls_abs ?_
  intro V1 hV1
  have hr := row_at hV1 rfl
  have hbv := show Below w1.heap.size w1 V1 by rw [hV1]; exact (Below.refl _ _).alloc (Nat.le_refl _) _
  have HBV := As.mk (HB1.out.trans (hbv.mono HB1.out.size))
  have HGR := As.mk (great_calls (P.snap V1) (some ⟨w1.heap.size, 0, none⟩) 1 [x] V1 (Row.one (HX.out.mono (Pers.le_snap _ _)) (fun j v h => .inr (hr j v h))) (Sat.snap (HS1.out.below hbv)) (fun y hy => by simp at hy; subst hy; exact HW.out))
  have HSV := As.mk (HS1.out.below hbv)
  have HKV := As.mk (HK1.out.below hbv)
  clear hV1 hr hbv p0 p1 p2 p3 p4 p5 p6 p7 p8 p9 p10
  refine HGR.out.mono ?_
  rintro e w2 ⟨h, hb2⟩
  have HB2 := As.mk (HBV.out.trans (hb2.mono HBV.out.size))
  have HS2 := As.mk (HSV.out.below hb2)
  have HK2 := As.mk (HKV.out.below hb2)
  clear hb2
  rcases h with rfl | ⟨rfl, hwt⟩
  · go_wp2_with fail
    refine (HAL.out _ HS2.out).mono ?_
    rintro e w3 ⟨rfl, hb3⟩
    have HF := As.mk (HB2.out.trans (hb3.mono HB2.out.size))
    clear hb3
    go_wp2_with fail
    go_ret
    exact ⟨rfl, HF.out⟩
  · have HWT := As.mk (hwt x (by simp))
    have HC := As.mk (logicCheck_calls P HG.out x _ w2 HX.out HS2.out)
    obtain ⟨p0, p1, p2, p3, p4, p5, p6, p7, p8, p9, p10⟩ := cells11 HK2.out
    clear hwt
    obtain ⟨n, hn⟩ : ∃ n, As (loErr x = n) := ⟨_, ⟨rfl⟩⟩
    rw [hn.out] at HC
    rcases Nat.eq_zero_or_pos n with h0 | h0
    · have HN := As.mk (hn.out.trans h0)
      rw [h0] at HC
      clear h0 hn
      go_wp2_with fail
      refine HC.out.mono ?_
      rintro e w3 ⟨rfl, hb3⟩
      have HB3 := As.mk (HB2.out.trans (hb3.mono HB2.out.size))
      have HS3 := As.mk (HS2.out.below hb3)
      have HK3 := As.mk (HK2.out.below hb3)
      clear hb3 p0 p1 p2 p3 p4 p5 p6 p7 p8 p9 p10
      obtain ⟨p0, p1, p2, p3, p4, p5, p6, p7, p8, p9, p10⟩ := cells11 HK3.out
      have hz3 : w.heap.size < w3.heap.size := World.block_lt_of_cell? w3 _ p0
      go_upto_region 5 with fail
      refine wp_abs ?_
      intro w4 hw4
      have hb34 := show Below w3.heap.size w3 w4 by rw [hw4]; exact ((((Below.refl _ _).alloc (Nat.le_refl _) _).alloc (by simp) _).alloc (by simp; omega) _).alloc (by simp; omega) _
      have HKn := As.mk (show RowAt w4 w3.heap.size _ from row_in hw4 ((((Below.refl _ _).alloc (by simp) _).alloc (by simp) _).alloc (by simp) _) rfl)
      have HKs := As.mk (show RowAt w4 (w3.heap.size + 1) _ from row_in hw4 (((Below.refl _ _).alloc (by simp) _).alloc (by simp) _) (by simp))
      have HKl := As.mk (show RowAt w4 (w3.heap.size + 1 + 1) _ from row_in hw4 ((Below.refl _ _).alloc (by simp) _) (by simp))
      have HKa := As.mk (show RowAt w4 (w3.heap.size + 1 + 1 + 1) _ from row_in hw4 (Below.refl _ _) (by simp))
      have HB4 := As.mk (HB3.out.trans (hb34.mono HB3.out.size))
      have HS4 := As.mk (HS3.out.below hb34)
      have HK4 := As.mk (HK3.out.below hb34)
      clear hw4 hb34 p0 p1 p2 p3 p4 p5 p6 p7 p8 p9 p10 hz3
      obtain ⟨p0, p1, p2, p3, p4, p5, p6, p7, p8, p9, p10⟩ := cells11 HK4.out
      obtain ⟨q0, q1, q2, q3⟩ := cells4 HKn.out
      have hz4 : w.heap.size < w4.heap.size := World.block_lt_of_cell? w4 _ p0
      have hz5 : w3.heap.size < w4.heap.size := World.block_lt_of_cell? w4 _ q0
      go_upto_region 6 with fail
      refine wp_abs ?_
      intro w5 hw5
      have hb45 := show Below w4.heap.size w4 w5 by rw [hw5]; exact (((Below.refl _ _).alloc (Nat.le_refl _) _).alloc (by simp) _).alloc (by simp; omega) _
      have HKt := As.mk (show RowAt w5 w4.heap.size _ from row_in hw5 (((Below.refl _ _).alloc (by simp) _).alloc (by simp) _) rfl)
      have HKm := As.mk (show RowAt w5 (w4.heap.size + 1) _ from row_in hw5 ((Below.refl _ _).alloc (by simp) _) (by simp))
      have HKb := As.mk (show RowAt w5 (w4.heap.size + 1 + 1) _ from row_in hw5 (Below.refl _ _) (by simp))
      have HB5 := As.mk (HB4.out.trans (hb45.mono HB4.out.size))
      have HS5 := As.mk (HS4.out.below hb45)
      have HK5 := As.mk (HK4.out.below hb45)
      have HKn5 := As.mk (HKn.out.below hb45)
      have HKs5 := As.mk (HKs.out.below hb45)
      have HKl5 := As.mk (HKl.out.below hb45)
      have HKa5 := As.mk (HKa.out.below hb45)
      clear hw5 hb45 p0 p1 p2 p3 p4 p5 p6 p7 p8 p9 p10 q0 q1 q2 q3 hz4 hz5 HKn HKs HKl HKa
      have i0 : inI64 0 := by unfold inI64; omega
      have i2 : inI64 2 := by unfold inI64; omega
      have i3 : inI64 3 := by unfold inI64; omega
      have z4 : zzz.size ≤ maxStr := by decide
      have z0 : (⟨#[]⟩ : ByteArray).size ≤ maxStr := by decide
      have z1 : (⟨#[112]⟩ : ByteArray).size ≤ maxStr := by decide
      have rX := HX.out.mono (Pers.le_snap P w5)
      have rN2 : Strs (P.snap w5) (some ⟨w3.heap.size + 1, 0, none⟩) [zzz, ⟨#[]⟩] := Row.two rfl ⟨rfl, z4⟩ ⟨rfl, z0⟩ (fun j v h => .inr (HKs5.out j v h))
      have rL2 : Los (P.snap w5) (some ⟨w3.heap.size + 1 + 1, 0, none⟩) [x, loLit exZ] := Row.two rfl rX
        (loLit_rep (P.snap w5) exZ (A3 := none) (c3 := 0) (Nat.le_refl _) (Row.nil _ _ _ _) (A4 := none) (c4 := 0) (Nat.le_refl _) (Row.nil _ _ _ _) z4 i3) (fun j v h => .inr (HKl5.out j v h))
      have rN1 : Strs (P.snap w5) (some ⟨w4.heap.size, 0, none⟩) [⟨#[112]⟩] := Row.one ⟨rfl, z1⟩ (fun j v h => .inr (HKt.out j v h))
      have rL1 : Los (P.snap w5) (some ⟨w4.heap.size + 1, 0, none⟩) [x] := Row.one rX (fun j v h => .inr (HKm.out j v h))
      have rA := Lo.Rep.shut (P := P.snap w5) (inA x) (A3 := none) (c3 := 0) (Nat.le_refl _) (Row.nil _ _ _ _) (A4 := none) (c4 := 0) (Nat.le_refl _) (Row.nil _ _ _ _) (A6 := none) (c6 := 0) (Nat.le_refl _) (Row.nil _ _ _ _) (A7 := none) (c7 := 0) (Nat.le_refl _) (Row.nil _ _ _ _) (A8 := none) (c8 := 0) (Nat.le_refl _) (Row.nil _ _ _ _) (c9 := 2) (Nat.le_refl _) rN2 (c10 := 2) (Nat.le_refl _) rL2 z0 z0 i2 i0
      have rB := Lo.Rep.shut (P := P.snap w5) (inB x) (A3 := none) (c3 := 0) (Nat.le_refl _) (Row.nil _ _ _ _) (A4 := none) (c4 := 0) (Nat.le_refl _) (Row.nil _ _ _ _) (A6 := none) (c6 := 0) (Nat.le_refl _) (Row.nil _ _ _ _) (A7 := none) (c7 := 0) (Nat.le_refl _) (Row.nil _ _ _ _) (A8 := none) (c8 := 0) (Nat.le_refl _) (Row.nil _ _ _ _) (c9 := 1) (Nat.le_refl _) rN1 (c10 := 1) (Nat.le_refl _) rL1 z4 z0 i3 i3
      have RA := As.mk (show Lo.Rep (P.snap w5) (inA x) [.int .i64 2, .int .i64 0, .string ⟨#[]⟩, .slice none 0 0, .slice none 0 0, .string ⟨#[]⟩, .slice none 0 0, .slice none 0 0, .slice none 0 0, .slice (some ⟨w3.heap.size + 1, 0, none⟩) 2 2, .slice (some ⟨w3.heap.size + 1 + 1, 0, none⟩) 2 2] from rA)
      have RB := As.mk (show Lo.Rep (P.snap w5) (inB x) [.int .i64 3, .int .i64 3, .string ⟨#[122, 122, 32, 122]⟩, .slice none 0 0, .slice none 0 0, .string ⟨#[]⟩, .slice none 0 0, .slice none 0 0, .slice none 0 0, .slice (some ⟨w4.heap.size, 0, none⟩) 1 1, .slice (some ⟨w4.heap.size + 1, 0, none⟩) 1 1] from rB)
      clear rX rN2 rL2 rN1 rL1 rA rB i0 i2 i3 z4 z0 z1
      have HSQ5 := As.mk (Sat.snap HS5.out)
      have HFEW := As.mk (freeOf_few x HWT.out)
      have HFR := As.mk (fun W hs => lgFreeAll_calls P x _ W HX.out hs (by have := HWT.out; omega))
      have HFRA := As.mk (fun W hs => lgFreeAll_calls (P.snap w5) (inA x) _ W RA.out hs (by have := HWT.out; have := inA_wt x; omega))
      have HFRB := As.mk (fun W hs => lgFreeAll_calls (P.snap w5) (inB x) _ W RB.out hs (by have := HWT.out; have := inB_wt x; omega))
      have HCA := As.mk (fun W hs => logicCheck_calls (P.snap w5) (HG.out.mono (Pers.le_snap _ _)) (inA x) _ W RA.out hs)
      have HCB := As.mk (fun W hs => logicCheck_calls (P.snap w5) (HG.out.mono (Pers.le_snap _ _)) (inB x) _ W RB.out hs)
      have hdep := (loErr_zero HN.out).1
      have HDA := As.mk (fun W hs => depth_calls (P.snap w5) _ (inA x) _ W (Nat.le_refl _) (by rw [inA_depth]; omega) RA.out hs)
      have HDX := As.mk (fun W hs => depth_calls P _ x _ W (Nat.le_refl _) (by omega) HX.out hs)
      rw [inA_err HN.out] at HCA
      rw [inB_err HN.out] at HCB
      rw [inA_depth] at HDA
      rw [inA_free] at HFRA
      rw [inB_free] at HFRB
      obtain ⟨F, hF⟩ : ∃ F, As (freeOf (Lo.fv x []) = F) := ⟨_, ⟨rfl⟩⟩
      rw [hF.out] at HFR HFRA HFRB HFEW
      generalize x.depth = d at *
      clear hF
      obtain ⟨p0, p1, p2, p3, p4, p5, p6, p7, p8, p9, p10⟩ := cells11 HK5.out
      go_wp2_with fail
      refine (HFR.out _ HS5.out).mono ?_
      rintro e w6 ⟨⟨AF, cF, rfl, hcF, hst⟩, hb6⟩
      have HST := As.mk hst
      have HB6 := As.mk (HB5.out.trans (hb6.mono HB5.out.size))
      have HSQ6 := As.mk (HSQ5.out.below hb6)
      clear hst hb6 p0 p1 p2 p3 p4 p5 p6 p7 p8 p9 p10
      obtain ⟨p0, p1, p2, p3, p4, p5, p6, p7, p8, p9, p10⟩ := cells11 (HK5.out.sat HSQ6.out)
      have hfl := HFEW.out.1
      by_cases hd : d = 30
      · have hq : ((d : Int) == 30) = true := by rw [hd]; rfl
        rw [if_pos hd] at HCA HCB
        clear hd
        go_wp2_with fail
        refine (HDX.out _ (HSQ6.out.le (Pers.le_snap _ _))).mono ?_
        rintro e w7 ⟨rfl, hb7⟩
        have HB7 := As.mk (HB6.out.trans (hb7.mono HB6.out.size))
        have HSQ7 := As.mk (HSQ6.out.below hb7)
        clear hb7 p0 p1 p2 p3 p4 p5 p6 p7 p8 p9 p10
        obtain ⟨p0, p1, p2, p3, p4, p5, p6, p7, p8, p9, p10⟩ := cells11 (HKa5.out.sat HSQ7.out)
        go_wp2_with fail
        refine (HCA.out _ HSQ7.out).mono ?_
        rintro e w8 ⟨rfl, hb8⟩
        have HB8 := As.mk (HB7.out.trans (hb8.mono HB7.out.size))
        have HSQ8 := As.mk (HSQ7.out.below hb8)
        clear hb8 p0 p1 p2 p3 p4 p5 p6 p7 p8 p9 p10
        obtain ⟨p0, p1, p2, p3, p4, p5, p6, p7, p8, p9, p10⟩ := cells11 (HKb.out.sat HSQ8.out)
        go_wp2_with fail
        refine (HCB.out _ HSQ8.out).mono ?_
        rintro e w9 ⟨rfl, hb9⟩
        have HB9 := As.mk (HB8.out.trans (hb9.mono HB8.out.size))
        clear hb9 p0 p1 p2 p3 p4 p5 p6 p7 p8 p9 p10
        go_wp2_with fail
        go_ret
        exact ⟨rfl, HB9.out⟩
      · have hq : ((d : Int) == 30) = false := beq_eq_false_iff_ne.2 (by omega)
        rw [if_neg hd] at HCA HCB
        clear hd
        go_wp2_with fail
        refine (HDX.out _ (HSQ6.out.le (Pers.le_snap _ _))).mono ?_
        rintro e w7 ⟨rfl, hb7⟩
        have HB7 := As.mk (HB6.out.trans (hb7.mono HB6.out.size))
        have HSQ7 := As.mk (HSQ6.out.below hb7)
        have HST7 := As.mk (HST.out.cells (Cells.below hb7) hb7.size)
        clear hb7 p0 p1 p2 p3 p4 p5 p6 p7 p8 p9 p10
        obtain ⟨p0, p1, p2, p3, p4, p5, p6, p7, p8, p9, p10⟩ := cells11 (HKa5.out.sat HSQ7.out)
        go_wp2_with fail
        refine (HCA.out _ HSQ7.out).mono ?_
        rintro e w8 ⟨rfl, hb8⟩
        have HB8 := As.mk (HB7.out.trans (hb8.mono HB7.out.size))
        have HSQ8 := As.mk (HSQ7.out.below hb8)
        have HST8 := As.mk (HST7.out.cells (Cells.below hb8) hb8.size)
        clear hb8 p0 p1 p2 p3 p4 p5 p6 p7 p8 p9 p10
        obtain ⟨p0, p1, p2, p3, p4, p5, p6, p7, p8, p9, p10⟩ := cells11 (HKb.out.sat HSQ8.out)
        go_wp2_with fail
        refine (HCB.out _ HSQ8.out).mono ?_
        rintro e w9 ⟨rfl, hb9⟩
        have HB9 := As.mk (HB8.out.trans (hb9.mono HB8.out.size))
        have HSQ9 := As.mk (HSQ8.out.below hb9)
        have HST9 := As.mk (HST8.out.cells (Cells.below hb9) hb9.size)
        clear hb9 p0 p1 p2 p3 p4 p5 p6 p7 p8 p9 p10
        go_wp2_with fail
        refine calls_abs ?_
        intro wa hwa
        have hba := show Below w9.heap.size w9 wa by rw [hwa]; exact (Below.refl _ _).alloc (Nat.le_refl _) _
        have hz1 : StrsAt wa.heap.size wa (some ⟨w9.heap.size, 0, none⟩) [zzz] := by rw [hwa]; exact StrsAt.one _ _ _
        have hfa := StrsAt.strs (HST9.out.cells (Cells.below hba) hba.size) (by unfold maxRow; omega) (fun s hs => Nat.le_trans (HFEW.out.2 s hs) (by decide))
        have hfz := StrsAt.strs hz1 (show 1 ≤ maxRow by decide) (fun s hs => by simp at hs; subst hs; decide)
        have HWI := As.mk (rwith_calls _ AF (some ⟨w9.heap.size, 0, none⟩) cF 1 F [zzz] wa hfa hfz (Sat.snap (fun _ _ h => h.elim)) (by omega) (by decide))
        have HBa := As.mk (HB9.out.trans (hba.mono HB9.out.size))
        have HSQa := As.mk (HSQ9.out.below hba)
        have HSTa := As.mk (HST9.out.cells (Cells.below hba) hba.size)
        clear hwa hba hz1 hfa hfz
        refine HWI.out.mono ?_
        rintro e wb ⟨hwith, hbb⟩
        have hbd : bad [zzz] = false := by simp [bad, right_z]
        have hal := addAll_length [zzz] F
        simp only [List.length_singleton] at hal
        obtain ⟨AW, cW, rfl, hcW, hsw⟩ : ∃ A c, e = .returned (.tuple #[.slice A (addAll F [zzz]).length c, .int .i64 0]) ∧ (addAll F [zzz]).length ≤ c ∧ StrsAt wb.heap.size wb A (addAll F [zzz]) := by
          rcases hwith with ⟨h, _⟩ | ⟨_, h, _⟩ | ⟨_, _, h⟩
          · rw [hbd] at h; cases h
          · omega
          · exact h
        have HSW := As.mk hsw
        have HBb := As.mk (HBa.out.trans (hbb.mono HBa.out.size))
        have HSQb := As.mk (HSQa.out.below hbb)
        have HSTb := As.mk (HSTa.out.cells (Cells.below hbb) hbb.size)
        clear hwith hbb hbd hsw
        have hzf := HFEW.out.2
        have HZS := As.mk (show ∀ s ∈ addAll F [zzz], s.size ≤ maxStr from fun s hs => by
          rcases addAll_mem.1 hs with h | h
          · exact Nat.le_trans (hzf s h) (by decide)
          · simp at h; subst h; decide)
        have HFS := As.mk (show ∀ s ∈ F, s.size ≤ maxStr from fun s hs => Nat.le_trans (hzf s hs) (by decide))
        clear hzf HFEW
        have hal2 : (addAll F [zzz]).length ≤ 2501 := by omega
        clear hal
        generalize addAll F [zzz] = Z at *
        have HE1 := (strsEq_iff F F).2 rfl
        have HE2 := (strsEq_iff Z Z).2 rfl
        have HSF := As.mk (fun (A1 A2 : Option Addr) (k1 k2 : Nat) (W : World) (s1 : StrsAt W.heap.size W A1 F) (s2 : StrsAt W.heap.size W A2 F) => sameAt A1 A2 k1 k2 F F W s1 s2 (by unfold maxRow; omega) (by unfold maxRow; omega) HFS.out HFS.out)
        have HSZ := As.mk (fun (A1 A2 : Option Addr) (k1 k2 : Nat) (W : World) (s1 : StrsAt W.heap.size W A1 Z) (s2 : StrsAt W.heap.size W A2 Z) => sameAt A1 A2 k1 k2 Z Z W s1 s2 (by unfold maxRow; omega) (by unfold maxRow; omega) HZS.out HZS.out)
        rw [HE1] at HSF
        rw [HE2] at HSZ
        clear HE1 HE2
        go_upto_region 15 with fail
        have c0 := And.intro (HK5.out.sat HSQb.out) (And.intro (HKa5.out.sat HSQb.out) (HKb.out.sat HSQb.out))
        have b0 := HBb.out
        have s0 := HSQb.out
        have t0 := HSTb.out
        have u0 := HSW.out
        unfold RowAt at c0
        have hd30 : d ≤ 30 := hdep
        have hwr : IntKind.i64.wrap ((d : Int) + 1) = (d : Int) + 1 := IntWalk.i64_in _ (by omega)
        have hbb : Below wb.heap.size wb wb.drew := pw_below_drewN' (Below.refl _ _) 1
        go_region_held3 (fun W => ((∀ j v, ([.int .i64 x.k, .int .i64 x.e.k, .string x.e.s, .slice A3 x.e.ns.length c3, .slice A4 x.e.l.length c4, .string x.pol, .slice A6 x.inp.length c6, .slice A7 x.out.length c7, .slice A8 x.ru.length c8, .slice A9 x.ns.length c9, .slice A10 x.l.length c10] : List Value)[j]? = some v → W.cell? ⟨w.heap.size, j, none⟩ = some v) ∧ (∀ j v, ([.int .i64 2, .int .i64 0, .string ⟨#[]⟩, .slice none 0 0, .slice none 0 0, .string ⟨#[]⟩, .slice none 0 0, .slice none 0 0, .slice none 0 0, .slice (some ⟨w3.heap.size + 1, 0, none⟩) 2 2, .slice (some ⟨w3.heap.size + 1 + 1, 0, none⟩) 2 2] : List Value)[j]? = some v → W.cell? ⟨w3.heap.size + 1 + 1 + 1, j, none⟩ = some v) ∧ (∀ j v, ([.int .i64 3, .int .i64 3, .string ⟨#[122, 122, 32, 122]⟩, .slice none 0 0, .slice none 0 0, .string ⟨#[]⟩, .slice none 0 0, .slice none 0 0, .slice none 0 0, .slice (some ⟨w4.heap.size, 0, none⟩) 1 1, .slice (some ⟨w4.heap.size + 1, 0, none⟩) 1 1] : List Value)[j]? = some v → W.cell? ⟨w4.heap.size + 1 + 1, j, none⟩ = some v)) ∧ Below w.heap.size w W ∧ Sat (P.snap w5) W ∧ StrsAt W.heap.size W AF F ∧ StrsAt W.heap.size W AW Z)
          (first
            | exact keep3 hbb c0 b0 s0 t0 u0
            | (go_split_ands
               first
                 | (refine ⟨⟨?_, ?_, ?_⟩, ?_, ?_, ?_, ?_⟩ <;> assumption)
                 | exact keep3 hb' ⟨by assumption, by assumption, by assumption⟩ (by assumption) (by assumption) (by assumption) (by assumption)))
          (first
            | (go_at_call 10; first
                | ((with_reducible refine (HFRA.out _ ?_).mono ?_); (go_split_ands; assumption); rintro e w' ⟨⟨Aq, cq, rfl, hcq, hstq⟩, hb'⟩)
                | ((with_reducible refine (HFRB.out _ ?_).mono ?_); (go_split_ands; assumption); rintro e w' ⟨⟨Aq, cq, rfl, hcq, hstq⟩, hb'⟩))
            | (go_at_call 11; first
                | ((with_reducible refine (HDA.out _ ?_).mono ?_); (go_split_ands; assumption); rintro e w' ⟨rfl, hb'⟩)
                | ((with_reducible refine (HDX.out _ ?_).mono ?_); (go_split_ands; exact Sat.le (by assumption) (Pers.le_snap _ _)); rintro e w' ⟨rfl, hb'⟩))
            | (go_at_call 13; first
                | ((with_reducible refine (HSF.out _ _ _ _ _ ?_ ?_).mono ?_); (go_split_ands; assumption); (go_split_ands; assumption); rintro e w' ⟨rfl, hb'⟩)
                | ((with_reducible refine (HSZ.out _ _ _ _ _ ?_ ?_).mono ?_); (go_split_ands; assumption); (go_split_ands; assumption); rintro e w' ⟨rfl, hb'⟩)))
        rename_i hh
        clear hwr
        go_wp2_with fail
        go_ret
        exact ⟨rfl, by go_split_ands; assumption⟩
    · have hq : ((n : Int) != 0) = true := by rw [bne_iff_ne]; omega
      clear h0
      go_wp2_with fail
      refine HC.out.mono ?_
      rintro e w3 ⟨rfl, hb3⟩
      have HB3 := As.mk (HB2.out.trans (hb3.mono HB2.out.size))
      have HS3 := As.mk (HS2.out.below hb3)
      clear hb3 p0 p1 p2 p3 p4 p5 p6 p7 p8 p9 p10
      go_wp2_with fail
      refine (HAL.out _ HS3.out).mono ?_
      rintro e w4 ⟨rfl, hb4⟩
      have HF := As.mk (HB3.out.trans (hb4.mono HB3.out.size))
      clear hb4
      go_wp2_with fail
      go_ret
      exact ⟨rfl, HF.out⟩
end Go.Proofs.YtainigjbjfpoaaaGreatDoor
