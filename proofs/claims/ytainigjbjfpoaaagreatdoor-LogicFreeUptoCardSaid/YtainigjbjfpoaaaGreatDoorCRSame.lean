/- tipstaveref10.Same. Printed by wip/tools/gen_ref10same.py (own tool). -/
/- tipstaveref13.Same, tipstaveref15.sameRules. Printed by wip/tools/gen_ref13same.py (own tool). -/
import Derived.Test.YtainigjbjfpoaaaGreatDoorCSame3
import Derived.Test.YtainigjbjfpoaaaGreatDoorCCntLo
namespace Go.Proofs.YtainigjbjfpoaaaGreatDoor
open Go.RowKit Go.Shelf Go.Maps

set_option maxRecDepth 100000 in
set_option maxHeartbeats 8000000 in
theorem rsame_calls (P : Pers) : ∀ (m : Nat) (a b : Ex) (ca cb : List Value) (w : World), a.sz ≤ m → Ex.Rep P a ca → Ex.Rep P b cb → Sat P w →
    Calls Tryz.prog 40 #[.agg ca.toArray, .agg cb.toArray] w fun e w' => e = .returned (.bool (Ex.same a b)) ∧ Below w.heap.size w w' := by
  intro m
  induction m with
  | zero => intro a b ca cb w h; cases a; simp [Ex.sz] at h
  | succ m ih =>
    intro a b ca cb w hn ha hb hs
    have IH := As.mk (fun (x : Ex) (hx : x ∈ a.l) (y : Ex) cx cy w => ih x y cx cy w (by have := Ex.lt_of_mem hx; omega))
    obtain ⟨A2, c2, A3, c3, rfl, l2, r2, l3, r3, _⟩ := ha.open
    obtain ⟨B2, d2, B3, d3, rfl, m2, t2, m3, t3, _⟩ := hb.open
    have HQ := As.mk (Ex.same_eq a b)
    have HB : As (Below w.heap.size w ((w.alloc (.cells #[.int .i64 a.k, .string a.s, .slice A2 a.ns.length c2, .slice A3 a.l.length c3] 25)).alloc (.cells #[.int .i64 b.k, .string b.s, .slice B2 b.ns.length d2, .slice B3 b.l.length d3] 25))) := ⟨((Below.refl _ _).alloc (Nat.le_refl _) _).alloc (by simp) _⟩
    have HS : As (Sat P ((w.alloc (.cells #[.int .i64 a.k, .string a.s, .slice A2 a.ns.length c2, .slice A3 a.l.length c3] 25)).alloc (.cells #[.int .i64 b.k, .string b.s, .slice B2 b.ns.length d2, .slice B3 b.l.length d3] 25))) := ⟨(hs.alloc _).alloc _⟩
    have HNA := As.mk r2
    have HNB := As.mk t2
    have HRA := As.mk r3
    have HRB := As.mk t3
    have hla := r2.len
    have hlb := r3.len
    have hlc := t2.len
    have hld := t3.len
    have hka : ∀ j, ((w.alloc (.cells #[.int .i64 a.k, .string a.s, .slice A2 a.ns.length c2, .slice A3 a.l.length c3] 25)).alloc (.cells #[.int .i64 b.k, .string b.s, .slice B2 b.ns.length d2, .slice B3 b.l.length d3] 25)).cell? ⟨w.heap.size, j, none⟩ = (#[.int .i64 a.k, .string a.s, .slice A2 a.ns.length c2, .slice A3 a.l.length c3] : Array Value)[j]? := fun j => cell_first w #[.int .i64 a.k, .string a.s, .slice A2 a.ns.length c2, .slice A3 a.l.length c3] 25 (.cells #[.int .i64 b.k, .string b.s, .slice B2 b.ns.length d2, .slice B3 b.l.length d3] 25) j
    have hkb : ∀ j, ((w.alloc (.cells #[.int .i64 a.k, .string a.s, .slice A2 a.ns.length c2, .slice A3 a.l.length c3] 25)).alloc (.cells #[.int .i64 b.k, .string b.s, .slice B2 b.ns.length d2, .slice B3 b.l.length d3] 25)).cell? ⟨w.heap.size + 1, j, none⟩ = (#[.int .i64 b.k, .string b.s, .slice B2 b.ns.length d2, .slice B3 b.l.length d3] : Array Value)[j]? := fun j => by
      rw [show w.heap.size + 1 = (w.alloc (.cells #[.int .i64 a.k, .string a.s, .slice A2 a.ns.length c2, .slice A3 a.l.length c3] 25)).heap.size by simp]
      exact World.cell?_alloc_mark ..
    have KA2 := As.mk (show ((w.alloc (.cells #[.int .i64 a.k, .string a.s, .slice A2 a.ns.length c2, .slice A3 a.l.length c3] 25)).alloc (.cells #[.int .i64 b.k, .string b.s, .slice B2 b.ns.length d2, .slice B3 b.l.length d3] 25)).cell? ⟨w.heap.size, 2, none⟩ = some (.slice A2 a.ns.length c2) from hka 2)
    have KA3 := As.mk (show ((w.alloc (.cells #[.int .i64 a.k, .string a.s, .slice A2 a.ns.length c2, .slice A3 a.l.length c3] 25)).alloc (.cells #[.int .i64 b.k, .string b.s, .slice B2 b.ns.length d2, .slice B3 b.l.length d3] 25)).cell? ⟨w.heap.size, 3, none⟩ = some (.slice A3 a.l.length c3) from hka 3)
    have KB2 := As.mk (show ((w.alloc (.cells #[.int .i64 a.k, .string a.s, .slice A2 a.ns.length c2, .slice A3 a.l.length c3] 25)).alloc (.cells #[.int .i64 b.k, .string b.s, .slice B2 b.ns.length d2, .slice B3 b.l.length d3] 25)).cell? ⟨w.heap.size + 1, 2, none⟩ = some (.slice B2 b.ns.length d2) from hkb 2)
    have KB3 := As.mk (show ((w.alloc (.cells #[.int .i64 a.k, .string a.s, .slice A2 a.ns.length c2, .slice A3 a.l.length c3] 25)).alloc (.cells #[.int .i64 b.k, .string b.s, .slice B2 b.ns.length d2, .slice B3 b.l.length d3] 25)).cell? ⟨w.heap.size + 1, 3, none⟩ = some (.slice B3 b.l.length d3) from hkb 3)
    clear ha hb hs ih r2 r3 t2 t3 hka hkb
    cases q0 : (a.k == b.k)
    · have h0 : (a.k != b.k) = true := by rw [bne, q0]; rfl
      have HF := As.mk (show Ex.same a b = false by rw [HQ.out, q0]; rfl)
      go_enter Tryz.func40, Tryz.ntmps40
      go_wp2_with fail
      go_ret
      exact ⟨by rw [HF.out]; rfl, HB.out⟩
    · have h0 : (a.k != b.k) = false := by rw [bne, q0]; rfl
      by_cases q1 : a.s = b.s
      · have h1 : (!(a.s.toList == b.s.toList)) = false := by rw [q1]; simp
        by_cases q2 : a.ns.length = b.ns.length
        · have h2 : ((a.ns.length : Int) != (b.ns.length : Int)) = false := by simp [q2]
          by_cases q3 : a.l.length = b.l.length
          · have h3 : ((a.l.length : Int) != (b.l.length : Int)) = false := by simp [q3]
            have HSE := As.mk (show Ex.same a b = (strsEq a.ns b.ns && eqBy Ex.same a.l b.l) by rw [HQ.out, q0, decide_eq_true q1]; rfl)
            have HL1 := As.mk q2
            have HL2 := As.mk q3
            clear HQ q0 q1 q2 q3
            go_enter Tryz.func40, Tryz.ntmps40
            go_wp2_with fail
            go_loopw [5] (fun i wr => ∃ k : Nat, k ≤ a.ns.length ∧ i = .int .i64 k ∧ As (∃ q, wr = ((w.alloc (.cells #[.int .i64 a.k, .string a.s, .slice A2 a.ns.length c2, .slice A3 a.l.length c3] 25)).alloc (.cells #[.int .i64 b.k, .string b.s, .slice B2 b.ns.length d2, .slice B3 b.l.length d3] 25)).drewN q) ∧ As (∀ j x y, j < k → a.ns[j]? = some x → b.ns[j]? = some y → decide (x = y) = true)) (fun i _ => a.ns.length - (intOf i).toNat)
            case atStart => exact ⟨0, Nat.zero_le _, rfl, ⟨0, rfl⟩, As.mk (fun j x y h => absurd h (Nat.not_lt_zero _))⟩
            case round =>
              obtain ⟨k, hk, rfl, hq, hall⟩ := hrel
              obtain ⟨q, rfl⟩ := hq.out
              have k2 := KA2.out
              have m2 := KB2.out
              by_cases hlt : k < a.ns.length
              · obtain ⟨x, hx⟩ : ∃ x, As (a.ns[k]? = some x) := ⟨_, ⟨List.getElem?_eq_getElem hlt⟩⟩
                obtain ⟨y, hy⟩ : ∃ y, As (b.ns[k]? = some y) := ⟨_, ⟨List.getElem?_eq_getElem (HL1.out ▸ hlt)⟩⟩
                have hlt2 : k < b.ns.length := HL1.out ▸ hlt
                have hz1 : (k : Int) < (a.ns.length : Int) := by omega
                have hz2 : (k : Int) < (b.ns.length : Int) := by omega
                obtain ⟨b1, o1, rfl, px, _⟩ := Row.str HNA.out hx.out
                obtain ⟨b2, o2, rfl, py, _⟩ := Row.str HNB.out hy.out
                have d1 := HS.out _ _ px
                have d2 := HS.out _ _ py
                clear px py
                by_cases hxy : x = y
                · have HFX := As.mk hxy
                  have hq : (!(x.toList == y.toList)) = false := by rw [hxy]; simp
                  clear hxy
                  go_wp2_with fail
                  go_quiet (fail)
                  go_wp2_with fail
                  go_roundw
                  case rel => exact ⟨k + 1, by omega, by go_num, ⟨q + nq, by first | rfl | rw [World.drewN_drewN]⟩, As.mk (fun j x' y' hj hx' hy' => by
                    by_cases hjk : j = k
                    · subst hjk
                      rw [hx.out] at hx'
                      rw [hy.out] at hy'
                      cases hx'
                      cases hy'
                      exact decide_eq_true HFX.out
                    · exact hall.out j x' y' (by omega) hx' hy')⟩
                  case measure => simp [intOf]; omega
                · have HFX := As.mk hxy
                  have hq : (!(x.toList == y.toList)) = true := by rw [beq_eq_false_iff_ne.2 (fun e => hxy (toList_inj.1 e))]; rfl
                  have HF := As.mk (show Ex.same a b = false by rw [Ex.same_eq, show strsEq a.ns b.ns = false from eqBy_false hx.out hy.out (decide_eq_false hxy), Bool.and_false, Bool.false_and])
                  clear hxy
                  go_wp2_with fail
                  go_quiet (fail)
                  go_wp2_with fail
                  go_ret
                  exact ⟨by rw [HF.out]; rfl, pw_below_drewN' (pw_below_drewN' HB.out _) _⟩
              · obtain rfl : k = a.ns.length := by omega
                have HNS := As.mk (show strsEq a.ns b.ns = true from eqBy_true HL1.out hall.out)
                have hA3 : (((w.alloc (.cells #[.int .i64 a.k, .string a.s, .slice A2 a.ns.length c2, .slice A3 a.l.length c3] 25)).alloc (.cells #[.int .i64 b.k, .string b.s, .slice B2 b.ns.length d2, .slice B3 b.l.length d3] 25)).drewN q).cell? ⟨w.heap.size, 3, none⟩ = some (.slice A3 a.l.length c3) := KA3.out
                have hB3 : (((w.alloc (.cells #[.int .i64 a.k, .string a.s, .slice A2 a.ns.length c2, .slice A3 a.l.length c3] 25)).alloc (.cells #[.int .i64 b.k, .string b.s, .slice B2 b.ns.length d2, .slice B3 b.l.length d3] 25)).drewN q).cell? ⟨w.heap.size + 1, 3, none⟩ = some (.slice B3 b.l.length d3) := KB3.out
                have HBn := As.mk (pw_below_drewN' HB.out q)
                have HSn := As.mk (HS.out.drewN q)
                go_wp2_with fail
                go_loopw [6] (fun i wr => ∃ k : Nat, k ≤ a.l.length ∧ i = .int .i64 k ∧ wr.cell? ⟨w.heap.size, 3, none⟩ = some (.slice A3 a.l.length c3) ∧ wr.cell? ⟨w.heap.size + 1, 3, none⟩ = some (.slice B3 b.l.length d3) ∧ As (Below w.heap.size w wr) ∧ As (Sat P wr) ∧ As (∀ j x y, j < k → a.l[j]? = some x → b.l[j]? = some y → Ex.same x y = true)) (fun i _ => a.l.length - (intOf i).toNat)
                case atStart => exact ⟨0, Nat.zero_le _, rfl, hA3, hB3, HBn, HSn, As.mk (fun j x y h => absurd h (Nat.not_lt_zero _))⟩
                case round =>
                  clear hA3 hB3 HBn HSn
                  obtain ⟨k, hk, rfl, hA3, hB3, hBr, hSr, hall⟩ := hrel
                  by_cases hlt : k < a.l.length
                  · obtain ⟨x, hx⟩ : ∃ x, As (a.l[k]? = some x) := ⟨_, ⟨List.getElem?_eq_getElem hlt⟩⟩
                    obtain ⟨y, hy⟩ : ∃ y, As (b.l[k]? = some y) := ⟨_, ⟨List.getElem?_eq_getElem (HL2.out ▸ hlt)⟩⟩
                    have hlt2 : k < b.l.length := HL2.out ▸ hlt
                    have hz1 : (k : Int) < (a.l.length : Int) := by omega
                    have hz2 : (k : Int) < (b.l.length : Int) := by omega
                    obtain ⟨be, oe, E2, f2, E3, f3, rfl, hbe, hrx, e0, e1, e2, e3⟩ := HRA.out.at hSr.out (i := k) (x := x) hx.out
                    obtain ⟨bg, og, G2, g2, G3, g3, rfl, hbg, hry, j0, j1, j2, j3⟩ := HRB.out.at hSr.out (i := k) (x := y) hy.out
                    have IY := As.mk (IH.out x (List.mem_of_getElem? hx.out) y _ _ wr.drew hrx hry (hSr.out.drew))
                    have hzA := cell_block hA3
                    have hzB := cell_block hB3
                    clear hrx hry
                    cases hs : Ex.same x y
                    · rw [hs] at IY
                      have HF := As.mk (show Ex.same a b = false by rw [Ex.same_eq, eqBy_false hx.out hy.out hs, Bool.and_false])
                      clear hs
                      go_wp2_with fail
                      refine wp_region_still_tail 10 (by kernel_rfl) (by kernel_rfl) ?_
                      change wpStill _ _ (World.drew _) (fun a' => wpList _ _ _ _ a' (World.drew _)) _ _
                      simp only [List.take_succ_cons, List.take_zero, List.drop_succ_cons, List.drop_zero]
                      repeat still_step
                      refine wpStill_nil ?_
                      go_wp2_with (go_at_call 40; refine IY.out.mono ?_; rintro e w3 ⟨rfl, hb3⟩)
                      go_ret
                      exact ⟨by rw [HF.out]; rfl, hBr.out.trans ((pw_below_drewN' (Below.refl _ _) 1).trans (hb3.mono hBr.out.size))⟩
                    · rw [hs] at IY
                      have HT := As.mk hs
                      clear hs
                      go_wp2_with fail
                      refine wp_region_still_tail 10 (by kernel_rfl) (by kernel_rfl) ?_
                      change wpStill _ _ (World.drew _) (fun a' => wpList _ _ _ _ a' (World.drew _)) _ _
                      simp only [List.take_succ_cons, List.take_zero, List.drop_succ_cons, List.drop_zero]
                      repeat still_step
                      refine wpStill_nil ?_
                      go_wp2_with (go_at_call 40; refine IY.out.mono ?_; rintro e w3 ⟨rfl, hb3⟩; have hb4 := As.mk ((pw_below_drewN' (Below.refl wr.heap.size wr) 1).trans hb3); have n3 := (bcell hb4.out _ _ hzA).trans hA3; have m3 := (bcell hb4.out _ _ hzB).trans hB3; clear hb3)
                      go_roundw
                      case rel => exact ⟨k + 1, by omega, by go_num, n3, m3, ⟨hBr.out.trans (hb4.out.mono hBr.out.size)⟩, ⟨hSr.out.below hb4.out⟩, As.mk (fun j x' y' hj hx' hy' => by
                        by_cases hjk : j = k
                        · subst hjk
                          rw [hx.out] at hx'
                          rw [hy.out] at hy'
                          cases hx'
                          cases hy'
                          exact HT.out
                        · exact hall.out j x' y' (by omega) hx' hy')⟩
                      case measure => simp [intOf]; omega
                  · obtain rfl : k = a.l.length := by omega
                    have HT := As.mk (show Ex.same a b = true by rw [HSE.out, HNS.out, eqBy_true HL2.out hall.out]; rfl)
                    go_wp2_with fail
                    go_ret
                    exact ⟨by rw [HT.out]; rfl, hBr.out⟩
          · have h3 : ((a.l.length : Int) != (b.l.length : Int)) = true := by rw [bne_iff_ne]; omega
            have HF := As.mk (show Ex.same a b = false by rw [HQ.out, eqBy_len q3, Bool.and_false])
            clear q0 q1 q2 q3
            go_enter Tryz.func40, Tryz.ntmps40
            go_wp2_with fail
            go_ret
            exact ⟨by rw [HF.out]; rfl, HB.out⟩
        · have h2 : ((a.ns.length : Int) != (b.ns.length : Int)) = true := by rw [bne_iff_ne]; omega
          have HF := As.mk (show Ex.same a b = false by rw [HQ.out, show strsEq a.ns b.ns = false from eqBy_len q2, Bool.and_false, Bool.false_and])
          clear q0 q1 q2
          go_enter Tryz.func40, Tryz.ntmps40
          go_wp2_with fail
          go_ret
          exact ⟨by rw [HF.out]; rfl, HB.out⟩
      · have h1 : (!(a.s.toList == b.s.toList)) = true := by rw [beq_eq_false_iff_ne.2 (fun e => q1 (toList_inj.1 e))]; rfl
        have HF := As.mk (show Ex.same a b = false by rw [HQ.out, decide_eq_false q1, Bool.and_false, Bool.false_and, Bool.false_and])
        clear q0 q1
        go_enter Tryz.func40, Tryz.ntmps40
        go_wp2_with fail
        go_ret
        exact ⟨by rw [HF.out]; rfl, HB.out⟩
end Go.Proofs.YtainigjbjfpoaaaGreatDoor

namespace Go.Proofs.YtainigjbjfpoaaaGreatDoor
open Go.RowKit Go.Shelf Go.Maps

set_option maxRecDepth 100000 in
set_option maxHeartbeats 8000000 in
theorem rteSame_calls (P : Pers) (a b : Te) (ca cb : List Value) (w : World) (ha : Te.Rep P a ca) (hb : Te.Rep P b cb) (hs : Sat P w) :
    Calls Tryz.prog 79 #[.agg ca.toArray, .agg cb.toArray] w fun e w' => e = .returned (.bool (Te.same a b)) ∧ Below w.heap.size w w' := by
  obtain ⟨A2, c2, rfl, l2, r2⟩ := ha.open
  obtain ⟨B2, d2, rfl, m2, t2⟩ := hb.open
  have HB : As (Below w.heap.size w ((w.alloc (.cells #[.bool a.any, .bool a.no, .slice A2 a.l.length c2] 68)).alloc (.cells #[.bool b.any, .bool b.no, .slice B2 b.l.length d2] 68))) := ⟨((Below.refl _ _).alloc (Nat.le_refl _) _).alloc (by simp) _⟩
  have HS : As (Sat P ((w.alloc (.cells #[.bool a.any, .bool a.no, .slice A2 a.l.length c2] 68)).alloc (.cells #[.bool b.any, .bool b.no, .slice B2 b.l.length d2] 68))) := ⟨(hs.alloc _).alloc _⟩
  have HRA := As.mk r2
  have HRB := As.mk t2
  have hla := r2.len
  have hlc := t2.len
  have hka : ∀ j, ((w.alloc (.cells #[.bool a.any, .bool a.no, .slice A2 a.l.length c2] 68)).alloc (.cells #[.bool b.any, .bool b.no, .slice B2 b.l.length d2] 68)).cell? ⟨w.heap.size, j, none⟩ = (#[.bool a.any, .bool a.no, .slice A2 a.l.length c2] : Array Value)[j]? := fun j => cell_first w #[.bool a.any, .bool a.no, .slice A2 a.l.length c2] 68 (.cells #[.bool b.any, .bool b.no, .slice B2 b.l.length d2] 68) j
  have hkb : ∀ j, ((w.alloc (.cells #[.bool a.any, .bool a.no, .slice A2 a.l.length c2] 68)).alloc (.cells #[.bool b.any, .bool b.no, .slice B2 b.l.length d2] 68)).cell? ⟨w.heap.size + 1, j, none⟩ = (#[.bool b.any, .bool b.no, .slice B2 b.l.length d2] : Array Value)[j]? := fun j => by
    rw [show w.heap.size + 1 = (w.alloc (.cells #[.bool a.any, .bool a.no, .slice A2 a.l.length c2] 68)).heap.size by simp]
    exact World.cell?_alloc_mark ..
  have KA2 := As.mk (show ((w.alloc (.cells #[.bool a.any, .bool a.no, .slice A2 a.l.length c2] 68)).alloc (.cells #[.bool b.any, .bool b.no, .slice B2 b.l.length d2] 68)).cell? ⟨w.heap.size, 2, none⟩ = some (.slice A2 a.l.length c2) from hka 2)
  have KB2 := As.mk (show ((w.alloc (.cells #[.bool a.any, .bool a.no, .slice A2 a.l.length c2] 68)).alloc (.cells #[.bool b.any, .bool b.no, .slice B2 b.l.length d2] 68)).cell? ⟨w.heap.size + 1, 2, none⟩ = some (.slice B2 b.l.length d2) from hkb 2)
  clear ha hb hs r2 t2 hka hkb
  by_cases q0 : a.any = b.any
  · by_cases q1 : a.no = b.no
    · obtain ⟨aa, an, al⟩ := a
      obtain ⟨ba, bn, bl⟩ := b
      dsimp only at q0 q1
      subst q0
      subst q1
      dsimp only at *
      by_cases q3 : al.length = bl.length
      · have h3 : ((al.length : Int) != (bl.length : Int)) = false := by simp [q3]
        have HSE := As.mk (show Te.same ⟨aa, an, al⟩ ⟨aa, an, bl⟩ = eqBy Ex.same al bl by simp [Te.same])
        have HL2 := As.mk q3
        have hA3 := KA2.out
        have hB3 := KB2.out
        have HBn := HB
        have HSn := HS
        clear q3
        go_enter Tryz.func79, Tryz.ntmps79
        go_wp2_with fail
        go_loopw [5] (fun i wr => ∃ k : Nat, k ≤ al.length ∧ i = .int .i64 k ∧ wr.cell? ⟨w.heap.size, 2, none⟩ = some (.slice A2 al.length c2) ∧ wr.cell? ⟨w.heap.size + 1, 2, none⟩ = some (.slice B2 bl.length d2) ∧ As (Below w.heap.size w wr) ∧ As (Sat P wr) ∧ As (∀ j x y, j < k → al[j]? = some x → bl[j]? = some y → Ex.same x y = true)) (fun i _ => al.length - (intOf i).toNat)
        case atStart => exact ⟨0, Nat.zero_le _, rfl, hA3, hB3, HBn, HSn, As.mk (fun j x y h => absurd h (Nat.not_lt_zero _))⟩
        case round =>
          clear hA3 hB3 HBn HSn
          obtain ⟨k, hk, rfl, hA3, hB3, hBr, hSr, hall⟩ := hrel
          by_cases hlt : k < al.length
          · obtain ⟨x, hx⟩ : ∃ x, As (al[k]? = some x) := ⟨_, ⟨List.getElem?_eq_getElem hlt⟩⟩
            obtain ⟨y, hy⟩ : ∃ y, As (bl[k]? = some y) := ⟨_, ⟨List.getElem?_eq_getElem (HL2.out ▸ hlt)⟩⟩
            have hlt2 : k < bl.length := HL2.out ▸ hlt
            have hz1 : (k : Int) < (al.length : Int) := by omega
            have hz2 : (k : Int) < (bl.length : Int) := by omega
            obtain ⟨be, oe, E2, f2, E3, f3, rfl, hbe, hrx, e0, e1, e2, e3⟩ := HRA.out.at hSr.out (i := k) (x := x) hx.out
            obtain ⟨bg, og, G2, g2, G3, g3, rfl, hbg, hry, j0, j1, j2, j3⟩ := HRB.out.at hSr.out (i := k) (x := y) hy.out
            have IY := As.mk (rsame_calls P _ x y _ _ wr.drew (Nat.le_refl _) hrx hry (hSr.out.drew))
            have hzA := cell_block hA3
            have hzB := cell_block hB3
            clear hrx hry
            cases hs : Ex.same x y
            · rw [hs] at IY
              have HF := As.mk (show Te.same ⟨aa, an, al⟩ ⟨aa, an, bl⟩ = false by rw [HSE.out, eqBy_false hx.out hy.out hs])
              clear hs
              go_wp2_with fail
              refine wp_region_still_tail 10 (by kernel_rfl) (by kernel_rfl) ?_
              change wpStill _ _ (World.drew _) (fun a' => wpList _ _ _ _ a' (World.drew _)) _ _
              simp only [List.take_succ_cons, List.take_zero, List.drop_succ_cons, List.drop_zero]
              repeat still_step
              refine wpStill_nil ?_
              go_wp2_with (go_at_call 40; refine IY.out.mono ?_; rintro e w3 ⟨rfl, hb3⟩)
              go_ret
              exact ⟨by rw [HF.out]; rfl, hBr.out.trans ((pw_below_drewN' (Below.refl _ _) 1).trans (hb3.mono hBr.out.size))⟩
            · rw [hs] at IY
              have HT := As.mk hs
              clear hs
              go_wp2_with fail
              refine wp_region_still_tail 10 (by kernel_rfl) (by kernel_rfl) ?_
              change wpStill _ _ (World.drew _) (fun a' => wpList _ _ _ _ a' (World.drew _)) _ _
              simp only [List.take_succ_cons, List.take_zero, List.drop_succ_cons, List.drop_zero]
              repeat still_step
              refine wpStill_nil ?_
              go_wp2_with (go_at_call 40; refine IY.out.mono ?_; rintro e w3 ⟨rfl, hb3⟩; have hb4 := As.mk ((pw_below_drewN' (Below.refl wr.heap.size wr) 1).trans hb3); have n3 := (bcell hb4.out _ _ hzA).trans hA3; have m3 := (bcell hb4.out _ _ hzB).trans hB3; clear hb3)
              go_roundw
              case rel => exact ⟨k + 1, by omega, by go_num, n3, m3, ⟨hBr.out.trans (hb4.out.mono hBr.out.size)⟩, ⟨hSr.out.below hb4.out⟩, As.mk (fun j x' y' hj hx' hy' => by
                by_cases hjk : j = k
                · subst hjk
                  rw [hx.out] at hx'
                  rw [hy.out] at hy'
                  cases hx'
                  cases hy'
                  exact HT.out
                · exact hall.out j x' y' (by omega) hx' hy')⟩
              case measure => simp [intOf]; omega
          · obtain rfl : k = al.length := by omega
            have HT := As.mk (show Te.same ⟨aa, an, al⟩ ⟨aa, an, bl⟩ = true by rw [HSE.out, eqBy_true HL2.out hall.out])
            go_wp2_with fail
            go_ret
            exact ⟨by rw [HT.out]; rfl, hBr.out⟩
      · have h3 : ((al.length : Int) != (bl.length : Int)) = true := by rw [bne_iff_ne]; omega
        have HF := As.mk (show Te.same ⟨aa, an, al⟩ ⟨aa, an, bl⟩ = false by rw [Te.same, eqBy_len q3, Bool.and_false])
        clear q3
        go_enter Tryz.func79, Tryz.ntmps79
        go_wp2_with fail
        go_ret
        exact ⟨by rw [HF.out]; rfl, HB.out⟩
    · have HF := As.mk (show Te.same a b = false by rw [Te.same, beq_eq_false_iff_ne.2 q1, Bool.and_false, Bool.false_and])
      obtain ⟨aa, an, al⟩ := a
      obtain ⟨ba, bn, bl⟩ := b
      dsimp only at *
      subst q0
      cases an <;> cases bn <;> first | exact absurd rfl q1 | skip
      all_goals clear q1
      all_goals go_enter Tryz.func79, Tryz.ntmps79
      all_goals go_wp2_with fail
      all_goals go_ret
      all_goals exact ⟨by rw [HF.out]; rfl, HB.out⟩
  · have HF := As.mk (show Te.same a b = false by rw [Te.same, beq_eq_false_iff_ne.2 q0]; rfl)
    obtain ⟨aa, an, al⟩ := a
    obtain ⟨ba, bn, bl⟩ := b
    dsimp only at *
    cases aa <;> cases ba <;> first | exact absurd rfl q0 | skip
    all_goals clear q0
    all_goals go_enter Tryz.func79, Tryz.ntmps79
    all_goals go_wp2_with fail
    all_goals go_ret
    all_goals exact ⟨by rw [HF.out]; rfl, HB.out⟩

theorem same_bare (l l' : List Ex) : Ex.same ⟨0, ⟨#[]⟩, [], l⟩ ⟨0, ⟨#[]⟩, [], l'⟩ = eqBy Ex.same l l' := by
  rw [Ex.same_eq]
  show ((true && decide _) && true && _) = _
  rw [decide_eq_true rfl]
  rfl

set_option maxRecDepth 100000 in
set_option maxHeartbeats 8000000 in
theorem sameRules_calls (P : Pers) (A B : Option Addr) (ca cb : Nat) (xs ys : List Ru) (w : World) (ha : Rus P A xs) (hb : Rus P B ys) (hs : Sat P w) :
    Calls Tryz.prog 42 #[.slice A xs.length ca, .slice B ys.length cb] w fun e w' => e = .returned (.bool (eqBy Ru.same xs ys)) ∧ Below w.heap.size w w' := by
  have HA := As.mk ha
  have HB := As.mk hb
  have HS := As.mk hs
  have hla := ha.len
  have hlb := hb.len
  clear ha hb hs
  by_cases q0 : xs.length = ys.length
  · have h0 : ((xs.length : Int) != (ys.length : Int)) = false := by simp [q0]
    have HL := As.mk q0
    clear q0
    go_enter Tryz.func42, Tryz.ntmps42
    go_wp2_with fail
    go_loopw [5] (fun i wr => ∃ k : Nat, k ≤ xs.length ∧ i = .int .i64 k ∧ As (Below w.heap.size w wr) ∧ As (Sat P wr) ∧ As (∀ j x y, j < k → xs[j]? = some x → ys[j]? = some y → Ru.same x y = true)) (fun i _ => xs.length - (intOf i).toNat)
    case atStart => exact ⟨0, Nat.zero_le _, rfl, ⟨Below.refl _ _⟩, HS, As.mk (fun j x y h => absurd h (Nat.not_lt_zero _))⟩
    case round =>
      obtain ⟨k, hk, rfl, hBr, hSr, hall⟩ := hrel
      by_cases hlt : k < xs.length
      · obtain ⟨x, hx⟩ : ∃ x, As (xs[k]? = some x) := ⟨_, ⟨List.getElem?_eq_getElem hlt⟩⟩
        obtain ⟨y, hy⟩ : ∃ y, As (ys[k]? = some y) := ⟨_, ⟨List.getElem?_eq_getElem (HL.out ▸ hlt)⟩⟩
        have hlt2 : k < ys.length := HL.out ▸ hlt
        have hz1 : (k : Int) < (xs.length : Int) := by omega
        have hz2 : (k : Int) < (ys.length : Int) := by omega
        obtain ⟨bx, ox, csx, rfl, hrx, hpx⟩ := Row.get HA.out hx.out (fun cs h => by obtain ⟨_, _, _, _, rfl, _⟩ := Ru.Rep.open h; simp)
        obtain ⟨E0, f0, E1, f1, rfl, hx0, tx0, hx1, tx1⟩ := hrx.open
        obtain ⟨by', oy, csy, rfl, hry, hpy⟩ := Row.get HB.out hy.out (fun cs h => by obtain ⟨_, _, _, _, rfl, _⟩ := Ru.Rep.open h; simp)
        obtain ⟨G0, g0, G1, g1, rfl, hy0, ty0, hy1, ty1⟩ := hry.open
        have HPX := As.mk hpx
        have HPY := As.mk hpy
        have HXI := As.mk tx0
        have HYI := As.mk ty0
        have hli := tx0.len
        have hlj := ty0.len
        have px0 : wr.cell? ⟨bx, ox + k * 2, none⟩ = some (.slice E0 x.ins.length f0) := hSr.out _ _ (HPX.out 0 _ rfl)
        have px1 := hSr.out _ _ (HPX.out 1 _ rfl)
        have py0 : wr.cell? ⟨by', oy + k * 2, none⟩ = some (.slice G0 y.ins.length g0) := hSr.out _ _ (HPY.out 0 _ rfl)
        have py1 := hSr.out _ _ (HPY.out 1 _ rfl)
        have IU := As.mk (rsame_calls P _ ⟨0, ⟨#[]⟩, [], x.out⟩ ⟨0, ⟨#[]⟩, [], y.out⟩ _ _ wr.drew (Nat.le_refl _) (bareEx_rep hx1 tx1) (bareEx_rep hy1 ty1) hSr.out.drew)
        rw [same_bare] at IU
        clear hrx hry hpx hpy tx0 tx1 ty0 ty1
        by_cases q1 : x.ins.length = y.ins.length
        · have h1 : ((x.ins.length : Int) != (y.ins.length : Int)) = false := by simp [q1]
          have HIL := As.mk q1
          clear q1
          cases hv : eqBy Ex.same x.out y.out
          · rw [hv] at IU
            have HF := As.mk (show eqBy Ru.same xs ys = false from eqBy_false hx.out hy.out (by rw [Ru.same, hv, Bool.and_false]))
            clear hv
            go_wp2_with fail
            refine wp_region_still_tail 26 (by kernel_rfl) (by kernel_rfl) ?_
            change wpStill _ _ (World.drew _) (fun a' => wpList _ _ _ _ a' (World.drew _)) _ _
            simp only [List.take_succ_cons, List.take_zero, List.drop_succ_cons, List.drop_zero]
            repeat still_step
            refine wpStill_nil ?_
            go_wp2_with (go_at_call 40; refine IU.out.mono ?_; rintro e w3 ⟨rfl, hb3⟩)
            go_ret
            exact ⟨by rw [HF.out]; rfl, hBr.out.trans ((pw_below_drewN' (Below.refl _ _) 1).trans (hb3.mono hBr.out.size))⟩
          · rw [hv] at IU
            have HOS := As.mk hv
            clear hv
            go_wp2_with fail
            refine wp_region_still_tail 26 (by kernel_rfl) (by kernel_rfl) ?_
            change wpStill _ _ (World.drew _) (fun a' => wpList _ _ _ _ a' (World.drew _)) _ _
            simp only [List.take_succ_cons, List.take_zero, List.drop_succ_cons, List.drop_zero]
            repeat still_step
            refine wpStill_nil ?_
            go_wp2_with (go_at_call 40; refine IU.out.mono ?_; rintro e w3 ⟨rfl, hb3⟩; have hb4 := As.mk ((pw_below_drewN' (Below.refl wr.heap.size wr) 1).trans hb3); clear hb3; clear px0 px1 py0 py1; have px0 : w3.cell? ⟨bx, ox + k * 2, none⟩ = some (.slice E0 x.ins.length f0) := (hSr.out.below hb4.out) _ _ (HPX.out 0 _ rfl))
            have HB4 := As.mk (hBr.out.trans (hb4.out.mono hBr.out.size))
            have HS4 := As.mk (hSr.out.below hb4.out)
            clear px0
            go_loopw [6] (fun i wr => ∃ j : Nat, j ≤ x.ins.length ∧ i = .int .i64 j ∧ As (Below w.heap.size w wr) ∧ As (Sat P wr) ∧ As (∀ i s t, i < j → x.ins[i]? = some s → y.ins[i]? = some t → Te.same s t = true)) (fun i _ => x.ins.length - (intOf i).toNat)
            case atStart => exact ⟨0, Nat.zero_le _, rfl, HB4, HS4, As.mk (fun j x y h => absurd h (Nat.not_lt_zero _))⟩
            case round =>
              clear HB4 HS4
              obtain ⟨j, hj, rfl, hBq, hSq, hallq⟩ := hrel
              have px0 : wr.cell? ⟨bx, ox + k * 2, none⟩ = some (.slice E0 x.ins.length f0) := hSq.out _ _ (HPX.out 0 _ rfl)
              have py0 : wr.cell? ⟨by', oy + k * 2, none⟩ = some (.slice G0 y.ins.length g0) := hSq.out _ _ (HPY.out 0 _ rfl)
              by_cases hltj : j < x.ins.length
              · obtain ⟨s, hs⟩ : ∃ s, As (x.ins[j]? = some s) := ⟨_, ⟨List.getElem?_eq_getElem hltj⟩⟩
                obtain ⟨t, ht⟩ : ∃ t, As (y.ins[j]? = some t) := ⟨_, ⟨List.getElem?_eq_getElem (HIL.out ▸ hltj)⟩⟩
                have hlt3 : j < y.ins.length := HIL.out ▸ hltj
                have hz3 : (j : Int) < (x.ins.length : Int) := by omega
                have hz4 : (j : Int) < (y.ins.length : Int) := by omega
                obtain ⟨bs, os, S2, sf, rfl, hbs, hrs, m0, m1, m2⟩ := HXI.out.at hSq.out (i := j) (x := s) hs.out
                obtain ⟨bt, ot, T2, tf, rfl, hbt, hrt, l0, l1, l2⟩ := HYI.out.at hSq.out (i := j) (x := t) ht.out
                have IT := As.mk (rteSame_calls P s t _ _ wr.drew hrs hrt hSq.out.drew)
                clear hrs hrt
                cases hv : Te.same s t
                · rw [hv] at IT
                  have HF := As.mk (show eqBy Ru.same xs ys = false from eqBy_false hx.out hy.out (by rw [Ru.same, eqBy_false hs.out ht.out hv]; rfl))
                  clear hv
                  go_wp2_with fail
                  refine wp_region_still_tail 16 (by kernel_rfl) (by kernel_rfl) ?_
                  change wpStill _ _ (World.drew _) (fun a' => wpList _ _ _ _ a' (World.drew _)) _ _
                  simp only [List.take_succ_cons, List.take_zero, List.drop_succ_cons, List.drop_zero]
                  repeat still_step
                  refine wpStill_nil ?_
                  go_wp2_with (go_at_call 79; refine IT.out.mono ?_; rintro e w3 ⟨rfl, hb3⟩)
                  go_ret
                  exact ⟨by rw [HF.out]; rfl, hBq.out.trans ((pw_below_drewN' (Below.refl _ _) 1).trans (hb3.mono hBq.out.size))⟩
                · rw [hv] at IT
                  have HT := As.mk hv
                  clear hv
                  go_wp2_with fail
                  refine wp_region_still_tail 16 (by kernel_rfl) (by kernel_rfl) ?_
                  change wpStill _ _ (World.drew _) (fun a' => wpList _ _ _ _ a' (World.drew _)) _ _
                  simp only [List.take_succ_cons, List.take_zero, List.drop_succ_cons, List.drop_zero]
                  repeat still_step
                  refine wpStill_nil ?_
                  go_wp2_with (go_at_call 79; refine IT.out.mono ?_; rintro e w3 ⟨rfl, hb3⟩; have hb4 := As.mk ((pw_below_drewN' (Below.refl wr.heap.size wr) 1).trans hb3); clear hb3)
                  go_roundw
                  case rel => exact ⟨j + 1, by omega, by go_num, ⟨hBq.out.trans (hb4.out.mono hBq.out.size)⟩, ⟨hSq.out.below hb4.out⟩, As.mk (fun i x' y' hi hx' hy' => by
                    by_cases hij : i = j
                    · subst hij
                      rw [hs.out] at hx'
                      rw [ht.out] at hy'
                      cases hx'
                      cases hy'
                      exact HT.out
                    · exact hallq.out i x' y' (by omega) hx' hy')⟩
                  case measure => simp [intOf]; omega
              · obtain rfl : j = x.ins.length := by omega
                have HRT := As.mk (show Ru.same x y = true by rw [Ru.same, eqBy_true HIL.out hallq.out, HOS.out]; rfl)
                go_wp2_with fail
                go_roundw
                case rel => exact ⟨k + 1, by omega, by go_num, hBq, hSq, As.mk (fun i x' y' hi hx' hy' => by
                  by_cases hik : i = k
                  · subst hik
                    rw [hx.out] at hx'
                    rw [hy.out] at hy'
                    cases hx'
                    cases hy'
                    exact HRT.out
                  · exact hall.out i x' y' (by omega) hx' hy')⟩
                case measure => simp [intOf]; omega
        · have h1 : ((x.ins.length : Int) != (y.ins.length : Int)) = true := by rw [bne_iff_ne]; omega
          have HF := As.mk (show eqBy Ru.same xs ys = false from eqBy_false hx.out hy.out (by rw [Ru.same, eqBy_len q1, Bool.false_and]))
          clear q1
          go_wp2_with fail
          go_quiet (fail)
          go_wp2_with fail
          go_ret
          exact ⟨by rw [HF.out]; rfl, pw_below_drewN' hBr.out _⟩
      · obtain rfl : k = xs.length := by omega
        have HT := As.mk (show eqBy Ru.same xs ys = true from eqBy_true HL.out hall.out)
        go_wp2_with fail
        go_ret
        exact ⟨by rw [HT.out]; rfl, hBr.out⟩
  · have h0 : ((xs.length : Int) != (ys.length : Int)) = true := by rw [bne_iff_ne]; omega
    have HF := As.mk (show eqBy Ru.same xs ys = false from eqBy_len q0)
    clear q0
    go_enter Tryz.func42, Tryz.ntmps42
    go_wp2_with fail
    go_ret
    exact ⟨by rw [HF.out]; rfl, Below.refl _ _⟩
end Go.Proofs.YtainigjbjfpoaaaGreatDoor
