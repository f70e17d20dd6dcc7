/- tipstavelaw15.alive: the walk. -/
import Derived.Test.YtainigjbjfpoaaaGreatDoorCAlive
import Derived.Deep.RegionHeld3
import Derived.RangeFuncBox
import Derived.RangeFuncLeaves
import Derived.RangeFuncNested
namespace Go.Proofs.YtainigjbjfpoaaaGreatDoor
open Go.RowKit Go.Shelf Go.Maps

attribute [local go_sem] Oper.semAt_some

theorem policies0_calls (w : World) : Calls Tryz.prog 23 #[] w fun e w' => e = .returned (.func (.func 58) #[] #[]) ∧ w' = w := by
  go_enter Tryz.func23, Tryz.ntmps23
  go_wp2
  go_ret
  exact ⟨rfl, rfl⟩
theorem rpolicies_calls (w : World) : Calls Tryz.prog 24 #[] w fun e w' => e = .returned (.slice (some ⟨w.heap.size, 0, none⟩) policies.length 7) ∧ StrsAt w'.heap.size w' (some ⟨w.heap.size, 0, none⟩) policies ∧ Below w.heap.size w w' := by
  go_enter Tryz.func24, Tryz.ntmps24
  go_wp2
  go_ret
  refine ⟨rfl, fun j x hj => ⟨w.heap.size, 0, rfl, by simp, ?_⟩, (Below.refl _ _).alloc (Nat.le_refl _) _⟩
  rw [Nat.zero_add]
  refine (World.cell?_alloc_mark ..).trans ?_
  have : (policies.map Value.string)[j]? = some (.string x) := by rw [List.getElem?_map, hj]; rfl
  rw [← this]
  simp [policies, bs]
theorem policies_sizes : ∀ s ∈ policies, s.size ≤ maxStr := by
  intro s hs
  simp only [policies, List.mem_cons, List.not_mem_nil, or_false] at hs
  rcases hs with rfl | rfl | rfl | rfl | rfl | rfl | rfl <;> decide

theorem keepP {W X X' : World} {p : Addr} {v : Value} (hb : Below X.heap.size X X') (hc : X.cell? p = some v) (hB : Below W.heap.size W X) : X'.cell? p = some v ∧ Below W.heap.size W X' :=
  ⟨Cells.below hb _ _ hc, hB.trans (hb.mono hB.size)⟩

set_option maxRecDepth 100000 in
set_option maxHeartbeats 4000000 in
theorem alive_calls (P : Pers) (G : Glob P) (w : World) (hs : Sat P w) : Calls Tryz.prog 7 #[] w fun e w' => e = .returned (.bool true) ∧ Below w.heap.size w w' := by
  have HG := As.mk G
  have HS := As.mk hs
  clear G hs
  refine (callsIn_wide (n := 6)).1 ?_
  refine callsIn_of_wp_marks Tryz.func7 rfl trivial ?_ rfl
  simp only [Tryz.ntmps7, List.size_toArray, List.length_nil, Nat.reduceSub, Array.replicate_succ, Array.replicate_zero, List.push_toArray, List.append_toArray, List.nil_append, List.cons_append]
  refine wpIn_wide.2 ?_
  go_wp2_with (go_at_call 22; refine (alive1_calls _ _).mono ?_; rintro e w' ⟨rfl, rfl⟩)
  have hN := row_later (V := w) (cs := [.string ⟨#[97]⟩, .string ⟨#[]⟩]) (t := 9) (W := ((((((w.alloc (.cells #[.string ⟨#[97]⟩, .string ⟨#[]⟩] 9)).alloc (.cells #[.int .i64 3, .string ⟨#[97]⟩, .slice none 0 0, .slice none 0 0] 25)).alloc (.cells #[.int .i64 3, .string ⟨#[98]⟩, .slice none 0 0, .slice none 0 0] 25)).alloc (.cells #[.int .i64 3, .string ⟨#[97]⟩, .slice none 0 0, .slice none 0 0, .int .i64 3, .string ⟨#[98]⟩, .slice none 0 0, .slice none 0 0] 25)).alloc (.cells #[.int .i64 0, .int .i64 0, .string ⟨#[49]⟩, .slice none 0 0, .slice none 0 0, .string ⟨#[]⟩, .slice none 0 0, .slice none 0 0, .slice none 0 0, .slice none 0 0, .slice none 0 0, .int .i64 0, .int .i64 5, .string ⟨#[43]⟩, .slice none 0 0, .slice (some ⟨w.heap.size + 1 + 1 + 1, 0, none⟩) 2 2, .string ⟨#[]⟩, .slice none 0 0, .slice none 0 0, .slice none 0 0, .slice none 0 0, .slice none 0 0] 29)).alloc (.cells #[.int .i64 2, .int .i64 0, .string ⟨#[]⟩, .slice none 0 0, .slice none 0 0, .string ⟨#[]⟩, .slice none 0 0, .slice none 0 0, .slice none 0 0, .slice (some ⟨w.heap.size, 0, none⟩) 2 2, .slice (some ⟨w.heap.size + 1 + 1 + 1 + 1, 0, none⟩) 2 2] 29))) (by repeat (first | exact Below.refl _ _ | refine Below.alloc ?_ (by simp; try omega) _)) rfl
  have hE := row_later (V := (((w.alloc (.cells #[.string ⟨#[97]⟩, .string ⟨#[]⟩] 9)).alloc (.cells #[.int .i64 3, .string ⟨#[97]⟩, .slice none 0 0, .slice none 0 0] 25)).alloc (.cells #[.int .i64 3, .string ⟨#[98]⟩, .slice none 0 0, .slice none 0 0] 25))) (cs := [.int .i64 3, .string ⟨#[97]⟩, .slice none 0 0, .slice none 0 0, .int .i64 3, .string ⟨#[98]⟩, .slice none 0 0, .slice none 0 0]) (t := 25) (W := ((((((w.alloc (.cells #[.string ⟨#[97]⟩, .string ⟨#[]⟩] 9)).alloc (.cells #[.int .i64 3, .string ⟨#[97]⟩, .slice none 0 0, .slice none 0 0] 25)).alloc (.cells #[.int .i64 3, .string ⟨#[98]⟩, .slice none 0 0, .slice none 0 0] 25)).alloc (.cells #[.int .i64 3, .string ⟨#[97]⟩, .slice none 0 0, .slice none 0 0, .int .i64 3, .string ⟨#[98]⟩, .slice none 0 0, .slice none 0 0] 25)).alloc (.cells #[.int .i64 0, .int .i64 0, .string ⟨#[49]⟩, .slice none 0 0, .slice none 0 0, .string ⟨#[]⟩, .slice none 0 0, .slice none 0 0, .slice none 0 0, .slice none 0 0, .slice none 0 0, .int .i64 0, .int .i64 5, .string ⟨#[43]⟩, .slice none 0 0, .slice (some ⟨w.heap.size + 1 + 1 + 1, 0, none⟩) 2 2, .string ⟨#[]⟩, .slice none 0 0, .slice none 0 0, .slice none 0 0, .slice none 0 0, .slice none 0 0] 29)).alloc (.cells #[.int .i64 2, .int .i64 0, .string ⟨#[]⟩, .slice none 0 0, .slice none 0 0, .string ⟨#[]⟩, .slice none 0 0, .slice none 0 0, .slice none 0 0, .slice (some ⟨w.heap.size, 0, none⟩) 2 2, .slice (some ⟨w.heap.size + 1 + 1 + 1 + 1, 0, none⟩) 2 2] 29))) (by repeat (first | exact Below.refl _ _ | refine Below.alloc ?_ (by simp; try omega) _)) (n := w.heap.size + 1 + 1 + 1) (by simp)
  have hL := row_later (V := ((((w.alloc (.cells #[.string ⟨#[97]⟩, .string ⟨#[]⟩] 9)).alloc (.cells #[.int .i64 3, .string ⟨#[97]⟩, .slice none 0 0, .slice none 0 0] 25)).alloc (.cells #[.int .i64 3, .string ⟨#[98]⟩, .slice none 0 0, .slice none 0 0] 25)).alloc (.cells #[.int .i64 3, .string ⟨#[97]⟩, .slice none 0 0, .slice none 0 0, .int .i64 3, .string ⟨#[98]⟩, .slice none 0 0, .slice none 0 0] 25))) (cs := [.int .i64 0, .int .i64 0, .string ⟨#[49]⟩, .slice none 0 0, .slice none 0 0, .string ⟨#[]⟩, .slice none 0 0, .slice none 0 0, .slice none 0 0, .slice none 0 0, .slice none 0 0, .int .i64 0, .int .i64 5, .string ⟨#[43]⟩, .slice none 0 0, .slice (some ⟨w.heap.size + 1 + 1 + 1, 0, none⟩) 2 2, .string ⟨#[]⟩, .slice none 0 0, .slice none 0 0, .slice none 0 0, .slice none 0 0, .slice none 0 0]) (t := 29) (W := ((((((w.alloc (.cells #[.string ⟨#[97]⟩, .string ⟨#[]⟩] 9)).alloc (.cells #[.int .i64 3, .string ⟨#[97]⟩, .slice none 0 0, .slice none 0 0] 25)).alloc (.cells #[.int .i64 3, .string ⟨#[98]⟩, .slice none 0 0, .slice none 0 0] 25)).alloc (.cells #[.int .i64 3, .string ⟨#[97]⟩, .slice none 0 0, .slice none 0 0, .int .i64 3, .string ⟨#[98]⟩, .slice none 0 0, .slice none 0 0] 25)).alloc (.cells #[.int .i64 0, .int .i64 0, .string ⟨#[49]⟩, .slice none 0 0, .slice none 0 0, .string ⟨#[]⟩, .slice none 0 0, .slice none 0 0, .slice none 0 0, .slice none 0 0, .slice none 0 0, .int .i64 0, .int .i64 5, .string ⟨#[43]⟩, .slice none 0 0, .slice (some ⟨w.heap.size + 1 + 1 + 1, 0, none⟩) 2 2, .string ⟨#[]⟩, .slice none 0 0, .slice none 0 0, .slice none 0 0, .slice none 0 0, .slice none 0 0] 29)).alloc (.cells #[.int .i64 2, .int .i64 0, .string ⟨#[]⟩, .slice none 0 0, .slice none 0 0, .string ⟨#[]⟩, .slice none 0 0, .slice none 0 0, .slice none 0 0, .slice (some ⟨w.heap.size, 0, none⟩) 2 2, .slice (some ⟨w.heap.size + 1 + 1 + 1 + 1, 0, none⟩) 2 2] 29))) (by repeat (first | exact Below.refl _ _ | refine Below.alloc ?_ (by simp; try omega) _)) (n := w.heap.size + 1 + 1 + 1 + 1) (by simp)
  have hB := row_later (V := (((((w.alloc (.cells #[.string ⟨#[97]⟩, .string ⟨#[]⟩] 9)).alloc (.cells #[.int .i64 3, .string ⟨#[97]⟩, .slice none 0 0, .slice none 0 0] 25)).alloc (.cells #[.int .i64 3, .string ⟨#[98]⟩, .slice none 0 0, .slice none 0 0] 25)).alloc (.cells #[.int .i64 3, .string ⟨#[97]⟩, .slice none 0 0, .slice none 0 0, .int .i64 3, .string ⟨#[98]⟩, .slice none 0 0, .slice none 0 0] 25)).alloc (.cells #[.int .i64 0, .int .i64 0, .string ⟨#[49]⟩, .slice none 0 0, .slice none 0 0, .string ⟨#[]⟩, .slice none 0 0, .slice none 0 0, .slice none 0 0, .slice none 0 0, .slice none 0 0, .int .i64 0, .int .i64 5, .string ⟨#[43]⟩, .slice none 0 0, .slice (some ⟨w.heap.size + 1 + 1 + 1, 0, none⟩) 2 2, .string ⟨#[]⟩, .slice none 0 0, .slice none 0 0, .slice none 0 0, .slice none 0 0, .slice none 0 0] 29))) (cs := [.int .i64 2, .int .i64 0, .string ⟨#[]⟩, .slice none 0 0, .slice none 0 0, .string ⟨#[]⟩, .slice none 0 0, .slice none 0 0, .slice none 0 0, .slice (some ⟨w.heap.size, 0, none⟩) 2 2, .slice (some ⟨w.heap.size + 1 + 1 + 1 + 1, 0, none⟩) 2 2]) (t := 29) (W := ((((((w.alloc (.cells #[.string ⟨#[97]⟩, .string ⟨#[]⟩] 9)).alloc (.cells #[.int .i64 3, .string ⟨#[97]⟩, .slice none 0 0, .slice none 0 0] 25)).alloc (.cells #[.int .i64 3, .string ⟨#[98]⟩, .slice none 0 0, .slice none 0 0] 25)).alloc (.cells #[.int .i64 3, .string ⟨#[97]⟩, .slice none 0 0, .slice none 0 0, .int .i64 3, .string ⟨#[98]⟩, .slice none 0 0, .slice none 0 0] 25)).alloc (.cells #[.int .i64 0, .int .i64 0, .string ⟨#[49]⟩, .slice none 0 0, .slice none 0 0, .string ⟨#[]⟩, .slice none 0 0, .slice none 0 0, .slice none 0 0, .slice none 0 0, .slice none 0 0, .int .i64 0, .int .i64 5, .string ⟨#[43]⟩, .slice none 0 0, .slice (some ⟨w.heap.size + 1 + 1 + 1, 0, none⟩) 2 2, .string ⟨#[]⟩, .slice none 0 0, .slice none 0 0, .slice none 0 0, .slice none 0 0, .slice none 0 0] 29)).alloc (.cells #[.int .i64 2, .int .i64 0, .string ⟨#[]⟩, .slice none 0 0, .slice none 0 0, .string ⟨#[]⟩, .slice none 0 0, .slice none 0 0, .slice none 0 0, .slice (some ⟨w.heap.size, 0, none⟩) 2 2, .slice (some ⟨w.heap.size + 1 + 1 + 1 + 1, 0, none⟩) 2 2] 29))) (Below.refl _ _) (n := w.heap.size + 1 + 1 + 1 + 1 + 1) (by simp)
  have hb2 : Below w.heap.size w ((((((w.alloc (.cells #[.string ⟨#[97]⟩, .string ⟨#[]⟩] 9)).alloc (.cells #[.int .i64 3, .string ⟨#[97]⟩, .slice none 0 0, .slice none 0 0] 25)).alloc (.cells #[.int .i64 3, .string ⟨#[98]⟩, .slice none 0 0, .slice none 0 0] 25)).alloc (.cells #[.int .i64 3, .string ⟨#[97]⟩, .slice none 0 0, .slice none 0 0, .int .i64 3, .string ⟨#[98]⟩, .slice none 0 0, .slice none 0 0] 25)).alloc (.cells #[.int .i64 0, .int .i64 0, .string ⟨#[49]⟩, .slice none 0 0, .slice none 0 0, .string ⟨#[]⟩, .slice none 0 0, .slice none 0 0, .slice none 0 0, .slice none 0 0, .slice none 0 0, .int .i64 0, .int .i64 5, .string ⟨#[43]⟩, .slice none 0 0, .slice (some ⟨w.heap.size + 1 + 1 + 1, 0, none⟩) 2 2, .string ⟨#[]⟩, .slice none 0 0, .slice none 0 0, .slice none 0 0, .slice none 0 0, .slice none 0 0] 29)).alloc (.cells #[.int .i64 2, .int .i64 0, .string ⟨#[]⟩, .slice none 0 0, .slice none 0 0, .string ⟨#[]⟩, .slice none 0 0, .slice none 0 0, .slice none 0 0, .slice (some ⟨w.heap.size, 0, none⟩) 2 2, .slice (some ⟨w.heap.size + 1 + 1 + 1 + 1, 0, none⟩) 2 2] 29)) := by repeat (first | exact Below.refl _ _ | refine Below.alloc ?_ (by simp; try omega) _)
  obtain ⟨W2, hW2⟩ : ∃ W2, W2 = ((((((w.alloc (.cells #[.string ⟨#[97]⟩, .string ⟨#[]⟩] 9)).alloc (.cells #[.int .i64 3, .string ⟨#[97]⟩, .slice none 0 0, .slice none 0 0] 25)).alloc (.cells #[.int .i64 3, .string ⟨#[98]⟩, .slice none 0 0, .slice none 0 0] 25)).alloc (.cells #[.int .i64 3, .string ⟨#[97]⟩, .slice none 0 0, .slice none 0 0, .int .i64 3, .string ⟨#[98]⟩, .slice none 0 0, .slice none 0 0] 25)).alloc (.cells #[.int .i64 0, .int .i64 0, .string ⟨#[49]⟩, .slice none 0 0, .slice none 0 0, .string ⟨#[]⟩, .slice none 0 0, .slice none 0 0, .slice none 0 0, .slice none 0 0, .slice none 0 0, .int .i64 0, .int .i64 5, .string ⟨#[43]⟩, .slice none 0 0, .slice (some ⟨w.heap.size + 1 + 1 + 1, 0, none⟩) 2 2, .string ⟨#[]⟩, .slice none 0 0, .slice none 0 0, .slice none 0 0, .slice none 0 0, .slice none 0 0] 29)).alloc (.cells #[.int .i64 2, .int .i64 0, .string ⟨#[]⟩, .slice none 0 0, .slice none 0 0, .string ⟨#[]⟩, .slice none 0 0, .slice none 0 0, .slice none 0 0, .slice (some ⟨w.heap.size, 0, none⟩) 2 2, .slice (some ⟨w.heap.size + 1 + 1 + 1 + 1, 0, none⟩) 2 2] 29)) := ⟨_, rfl⟩
  rw [← hW2] at hN hE hL hB hb2 ⊢
  have HS2 := As.mk (HS.out.below hb2)
  have HB2 := As.mk hb2
  have HB := As.mk hB
  have hrep := loEx_rep (P.snap W2) w.heap.size (fun j v h => .inr (hN j v h)) (fun j v h => .inr (hE j v h)) (fun j v h => .inr (hL j v h))
  have hck := logicCheck_calls (P.snap W2) (HG.out.mono (Pers.le_snap _ _)) loEx _ W2 hrep (Sat.snap HS2.out)
  rw [loEx_right] at hck
  have hfr := fun W hs => lgFreeAll_calls (P.snap W2) loEx _ W hrep hs (Nat.le_trans loEx_wt (by decide))
  rw [loEx_free] at hfr
  have HFR := As.mk hfr
  clear hN hE hL hB hb2 hrep hfr hW2
  refine hck.mono ?_
  rintro e w3 ⟨rfl, hb3⟩
  have HB3 := As.mk (HB2.out.trans (hb3.mono HB2.out.size))
  have HS3 := As.mk ((Sat.snap HS2.out).below hb3)
  have y := fun j v h => Cells.below hb3 _ _ (HB.out j v h)
  have Y0 := y 0 _ rfl
  have Y1 := y 1 _ rfl
  have Y2 := y 2 _ rfl
  have Y3 := y 3 _ rfl
  have Y4 := y 4 _ rfl
  have Y5 := y 5 _ rfl
  have Y6 := y 6 _ rfl
  have Y7 := y 7 _ rfl
  have Y8 := y 8 _ rfl
  have Y9 := y 9 _ rfl
  have Y10 := y 10 _ rfl
  clear hck hb3 y
  go_wp2_with fail
  refine (HFR.out _ HS3.out).mono ?_
  rintro e w4 ⟨⟨AF, cF, rfl, hcF, hst⟩, hb4⟩
  have HB4 := As.mk (HB3.out.trans (hb4.mono HB3.out.size))
  have HS4 := As.mk (HS3.out.below hb4)
  have hsm := sameAt AF (some ⟨w4.heap.size, 0, none⟩) cF 1 [⟨#[98]⟩] [⟨#[98]⟩] (w4.alloc (.cells #[.string ⟨#[98]⟩] 9)) (hst.cells (Cells.below ((Below.refl _ _).alloc (Nat.le_refl _) _)) (by simp)) (StrsAt.one _ _ _) (by decide) (by decide) (fun s h => by simp at h; subst h; decide) (fun s h => by simp at h; subst h; decide)
  have HSM := As.mk hsm
  clear hst hb4 Y0 Y1 Y2 Y3 Y4 Y5 Y6 Y7 Y8 Y9 Y10 hsm
  go_wp2_with fail
  refine HSM.out.mono ?_
  rintro e w5 ⟨rfl, hb5⟩
  have heq : strsEq [⟨#[98]⟩] [⟨#[98]⟩] = true := by kernel_rfl
  have HB5 := As.mk ((HB4.out.alloc HB4.out.size (.cells #[.string ⟨#[98]⟩] 9)).trans (hb5.mono (by have := HB4.out.size; simp; omega)))
  have HS5 := As.mk ((HS4.out.alloc (.cells #[.string ⟨#[98]⟩] 9)).below hb5)
  clear hb5 HSM
  go_wp2_with (go_at_call 23; refine (policies0_calls _).mono ?_; rintro e w' ⟨rfl, rfl⟩)
  obtain ⟨i0, hi, hz0, hz1, hz2⟩ := info_parts infoStr
  have bO := Boxed.new w5 22 (.slice none 0 0)
  have hBx : Below w5.heap.size w5 (w5.alloc (.cells #[.slice none 0 0] 22)) := (Below.refl _ w5).alloc (Nat.le_refl _) _
  have hpol := PolAt.of (HG.out.mono (Pers.le_snap P W2)) HS5.out
  refine (wpIn_wide (n := 6)).1 ?_
  refine wpIn_rangeFunc_ownG rfl (by omega) (gf := 58) (lb := #[]) rfl trivial (enters_of Tryz.func58 (by kernel_rfl) rfl)
    (pol_stops Fence.wide 5 trivial rfl (by omega) w5.heap.size w5 hpol hpol.lt (Nat.le_refl _)) belowK_t (belowK_b (by simp)) hBx (fun _ => rfl)
    (fun pre W => (∃ v, Boxed W w5.heap.size 22 v ∧ W.ownsRow w5.heap.size 9 1 v pre.length (pre.map Value.string) ∧ True) ∧ Below w5.heap.size w5 W)
    (fun _ _ _ => False)
    (OwnFrom.and (Own.from (holdsRow_own w5.heap.size w5.heap.size 22 9 1 (fun pre : List ByteArray => pre.length) (fun pre => pre.map Value.string) (fun _ _ => True)) _) (ownFrom_below (Nat.le_refl _) (by simp)))
    (fun _ _ _ _ _ hs _ _ => hs)
    ⟨⟨_, bO, World.ownsRow_nil _ _ _ _, trivial⟩, hBx⟩
    ?fr ?assign ?body ?done ?stop
  case assign =>
    intro l x W K hK
    gi_wp2
    exact hK
  case body =>
    rintro l pre x W ⟨⟨v, hv, hrow, _⟩, hB⟩ hlt
    have hc := hv.cell
    have hlt7 : pre.length < 7 := hlt
    gi_wp2_with (gi_at_builtin; refine wpListIn_append_own _ rfl _ _ 22 rfl w5.heap.size 9 i0 (.string ⟨#[]⟩) 1 16 Tryz.underlying22 hi hz0 hz1 hz2 rfl (by decide) _ _ _ rfl (hrow.alloc _) ⟨W.heap.size, 0, none⟩ 1 1 [.string x] rfl rfl (cell_one_new _ _ _) (by simp [Value.oneCell']) (by unfold maxLen; omega) (by omega) (by have := hB.size; simp; omega) ?_; intro v' w1 hown' hgrow _; obtain ⟨g', cap', rfl⟩ := ownsRow_succ hown'; obtain ⟨hv1, hv2, hr2, hk2, hb2⟩ := hv.appended (by decide) hrow hB.size (Nat.le_refl _) hown' hgrow; have hc1 := hv1.cell; have hf1 := hv1.frozen)
    exact ⟨hk2.from _, hb2, ⟨_, hv2, by simpa using hr2, trivial⟩, hB.trans hb2⟩
  case done =>
    rintro D ys W hD rfl ⟨⟨v, hv, hrow, _⟩, hB⟩ hK
    have hc := hv.cell
    obtain ⟨A, c, rfl, hcl, hst⟩ := StrsAt.of_row hrow
    have HST := As.mk hst
    have HBW := As.mk hB
    have HD := As.mk (And.intro hD hK)
    have hDlt : D < W.heap.size := (Array.getElem?_eq_some_iff.1 hK).1
    have hid : strsEq policies policies = true := by kernel_rfl
    have hb0 : Below W.heap.size W W.drew := pw_below_drewN' (Below.refl _ _) 1
    clear hv hrow hB hst hD hK hDlt
    go_wp2_with fail
    go_region_held3 (fun X => X.cell? ⟨w5.heap.size, 0, none⟩ = some (.slice A policies.length c) ∧ Below W.heap.size W X)
      (first
        | exact ⟨hc, hb0⟩
        | (go_split_ands
           first
             | (refine ⟨?_, ?_⟩ <;> assumption)
             | exact keepP hb7 (by assumption) (by assumption)
             | exact keepP hb6 (by assumption) (by assumption)))
      (first
        | (go_at_call 24; refine (rpolicies_calls _).mono ?_; rintro e w6 ⟨rfl, hst6, hb6⟩)
        | (go_at_call 13; refine (sameAt A _ c 7 policies policies _ (by go_split_ands; exact HST.out.cells (Cells.below (by assumption)) (Below.size (by assumption))) (by assumption) (by decide) (by decide) policies_sizes policies_sizes).mono ?_; rintro e w7 ⟨rfl, hb7⟩))
    rename_i hh
    obtain ⟨_, hB7⟩ := hh
    have hD5 : w5.heap.size ≤ D := by have := HD.out.1; simp at this; omega
    have hK7 : w7.heap[D]? = some (.deferred (some [])) := (hB7.block D (Array.getElem?_eq_some_iff.1 HD.out.2).1).trans HD.out.2
    have HK7 := As.mk hK7
    have HF : As (∀ o', Below w.heap.size w (w7.putObj D o')) := ⟨fun o' => HB5.out.trans (((HBW.out.trans (hB7.mono HBW.out.size)).trans (belowK_b (w := w5) (Nat.le_refl _) w7 D _ o' hD5 hK7 rfl rfl)).mono HB5.out.size)⟩
    clear hB7 hK7 hb7 hb6 hst6 hc hb0
    go_wp2_with fail
    refine ⟨by simp, .inl ⟨_, _, rfl, run_takeDeferred HK7.out, ?_⟩⟩
    exact ⟨_, results_tmp rfl _ _ _, rfl, HF.out _⟩
  case stop =>
    rintro D c pre W _ _ h _
    exact h.elim
end Go.Proofs.YtainigjbjfpoaaaGreatDoor
