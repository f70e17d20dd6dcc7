/- tipstavelaw15.same, tipstaveref15.texts, great and small. Printed by wip/tools/gen_same3.py (own tool). -/
import Derived.Test.YtainigjbjfpoaaaGreatDoorCLgFree
namespace Go.Proofs.YtainigjbjfpoaaaGreatDoor
open Go.RowKit

set_option maxHeartbeats 400000 in
/-- law15.same -/
theorem same15_calls (P : Pers) (A1 A2 : Option Addr) (c1 c2 : Nat) (xs ys : List ByteArray) (w : World) (h1 : Strs P A1 xs) (h2 : Strs P A2 ys) (hs : Sat P w) :
    Calls Tryz.prog 13 #[.slice A1 xs.length c1, .slice A2 ys.length c2] w fun e w' => e = .returned (.bool (strsEq xs ys)) ∧ Below w.heap.size w w' := by
  have hm := h1.len63
  by_cases hl : xs.length = ys.length
  · have hlb : ((xs.length : Int) != (ys.length : Int)) = false := by simp [hl]
    have hlH := As.mk hl
    clear hl
    go_enter Tryz.func13, Tryz.ntmps13
    go_wp2
    go_loopw [13] (fun i wr => ∃ k : Nat, k ≤ xs.length ∧ i = .int .i64 k ∧ Below w.heap.size w wr ∧ As (∀ j x y, j < k → xs[j]? = some x → ys[j]? = some y → decide (x = y) = true)) (fun i _ => xs.length - (intOf i).toNat)
    case atStart => exact ⟨0, Nat.zero_le _, rfl, Below.refl _ _, As.mk (fun j x y h => absurd h (Nat.not_lt_zero _))⟩
    case round =>
      obtain ⟨k, hk, rfl, hb, hall⟩ := hrel
      by_cases hlt : k < xs.length
      · obtain ⟨x, hx⟩ : ∃ x, xs[k]? = some x := ⟨_, List.getElem?_eq_getElem hlt⟩
        obtain ⟨y, hy⟩ : ∃ y, ys[k]? = some y := ⟨_, List.getElem?_eq_getElem (hlH.out ▸ hlt)⟩
        have hsr : Sat P wr := hs.below hb
        obtain ⟨b1, o1, rfl, px, _⟩ := Row.str h1 hx
        obtain ⟨b2, o2, rfl, py, _⟩ := Row.str h2 hy
        have d1 := hsr _ _ px
        have d2 := hsr _ _ py
        have hlt2 : k < ys.length := hlH.out ▸ hlt
        have hz1 : (k : Int) < (xs.length : Int) := by omega
        have hz2 : (k : Int) < (ys.length : Int) := by omega
        have HX := As.mk hx
        have HY := As.mk hy
        clear hx hy px py
        by_cases hxy : x = y
        · have HFX := As.mk hxy
          have hq : (!(x.toList == y.toList)) = false := by rw [hxy]; simp
          clear hxy
          go_wp2
          go_quiet (fail)
          go_wp2
          refine ⟨⟨k + 1, by omega, by go_num, pw_below_drewN' hb _, As.mk (fun j x' y' hj hx' hy' => ?_)⟩, by simp [intOf]; omega⟩
          by_cases hjk : j = k
          · subst hjk
            rw [HX.out] at hx'
            rw [HY.out] at hy'
            cases hx'
            cases hy'
            exact decide_eq_true HFX.out
          · exact hall.out j x' y' (by omega) hx' hy'
        · have HFX := As.mk hxy
          have hq : (!(x.toList == y.toList)) = true := by rw [beq_eq_false_iff_ne.2 (fun e => hxy (toList_inj.1 e))]; rfl
          clear hxy
          go_wp2
          go_quiet (fail)
          go_wp2
          go_ret
          exact ⟨by unfold strsEq; rw [eqBy_false HX.out HY.out (decide_eq_false HFX.out)]; rfl, pw_below_drewN' hb _⟩
      · obtain rfl : k = xs.length := by omega
        go_wp2
        go_ret
        exact ⟨by unfold strsEq; rw [eqBy_true hlH.out hall.out]; rfl, hb⟩
  · have hlb : ((xs.length : Int) != (ys.length : Int)) = true := by simpa [bne_iff_ne] using (by omega : ¬ (xs.length : Int) = ys.length)
    go_enter Tryz.func13, Tryz.ntmps13
    go_wp2
    go_ret
    exact ⟨by unfold strsEq; rw [eqBy_len hl]; rfl, Below.refl _ _⟩


set_option maxHeartbeats 400000 in
/-- ref15.texts -/
theorem texts15_calls (P : Pers) (A1 A2 : Option Addr) (c1 c2 : Nat) (xs ys : List ByteArray) (w : World) (h1 : Strs P A1 xs) (h2 : Strs P A2 ys) (hs : Sat P w) :
    Calls Tryz.prog 41 #[.slice A1 xs.length c1, .slice A2 ys.length c2] w fun e w' => e = .returned (.bool (strsEq xs ys)) ∧ Below w.heap.size w w' := by
  have hm := h1.len63
  by_cases hl : xs.length = ys.length
  · have hlb : ((xs.length : Int) != (ys.length : Int)) = false := by simp [hl]
    have hlH := As.mk hl
    clear hl
    go_enter Tryz.func41, Tryz.ntmps41
    go_wp2
    go_loopw [5] (fun i wr => ∃ k : Nat, k ≤ xs.length ∧ i = .int .i64 k ∧ Below w.heap.size w wr ∧ As (∀ j x y, j < k → xs[j]? = some x → ys[j]? = some y → decide (x = y) = true)) (fun i _ => xs.length - (intOf i).toNat)
    case atStart => exact ⟨0, Nat.zero_le _, rfl, Below.refl _ _, As.mk (fun j x y h => absurd h (Nat.not_lt_zero _))⟩
    case round =>
      obtain ⟨k, hk, rfl, hb, hall⟩ := hrel
      by_cases hlt : k < xs.length
      · obtain ⟨x, hx⟩ : ∃ x, xs[k]? = some x := ⟨_, List.getElem?_eq_getElem hlt⟩
        obtain ⟨y, hy⟩ : ∃ y, ys[k]? = some y := ⟨_, List.getElem?_eq_getElem (hlH.out ▸ hlt)⟩
        have hsr : Sat P wr := hs.below hb
        obtain ⟨b1, o1, rfl, px, _⟩ := Row.str h1 hx
        obtain ⟨b2, o2, rfl, py, _⟩ := Row.str h2 hy
        have d1 := hsr _ _ px
        have d2 := hsr _ _ py
        have hlt2 : k < ys.length := hlH.out ▸ hlt
        have hz1 : (k : Int) < (xs.length : Int) := by omega
        have hz2 : (k : Int) < (ys.length : Int) := by omega
        have HX := As.mk hx
        have HY := As.mk hy
        clear hx hy px py
        by_cases hxy : x = y
        · have HFX := As.mk hxy
          have hq : (!(x.toList == y.toList)) = false := by rw [hxy]; simp
          clear hxy
          go_wp2
          go_quiet (fail)
          go_wp2
          refine ⟨⟨k + 1, by omega, by go_num, pw_below_drewN' hb _, As.mk (fun j x' y' hj hx' hy' => ?_)⟩, by simp [intOf]; omega⟩
          by_cases hjk : j = k
          · subst hjk
            rw [HX.out] at hx'
            rw [HY.out] at hy'
            cases hx'
            cases hy'
            exact decide_eq_true HFX.out
          · exact hall.out j x' y' (by omega) hx' hy'
        · have HFX := As.mk hxy
          have hq : (!(x.toList == y.toList)) = true := by rw [beq_eq_false_iff_ne.2 (fun e => hxy (toList_inj.1 e))]; rfl
          clear hxy
          go_wp2
          go_quiet (fail)
          go_wp2
          go_ret
          exact ⟨by unfold strsEq; rw [eqBy_false HX.out HY.out (decide_eq_false HFX.out)]; rfl, pw_below_drewN' hb _⟩
      · obtain rfl : k = xs.length := by omega
        go_wp2
        go_ret
        exact ⟨by unfold strsEq; rw [eqBy_true hlH.out hall.out]; rfl, hb⟩
  · have hlb : ((xs.length : Int) != (ys.length : Int)) = true := by simpa [bne_iff_ne] using (by omega : ¬ (xs.length : Int) = ys.length)
    go_enter Tryz.func41, Tryz.ntmps41
    go_wp2
    go_ret
    exact ⟨by unfold strsEq; rw [eqBy_len hl]; rfl, Below.refl _ _⟩


theorem sameAt (A1 A2 : Option Addr) (c1 c2 : Nat) (xs ys : List ByteArray) (w : World) (h1 : StrsAt w.heap.size w A1 xs) (h2 : StrsAt w.heap.size w A2 ys) (l1 : xs.length ≤ maxRow) (l2 : ys.length ≤ maxRow) (z1 : ∀ s ∈ xs, s.size ≤ maxStr) (z2 : ∀ s ∈ ys, s.size ≤ maxStr) :
    Calls Tryz.prog 13 #[.slice A1 xs.length c1, .slice A2 ys.length c2] w fun e w' => e = .returned (.bool (strsEq xs ys)) ∧ Below w.heap.size w w' :=
  same15_calls _ A1 A2 c1 c2 xs ys w (StrsAt.strs h1 l1 z1) (StrsAt.strs h2 l2 z2) (Sat.snap (fun _ _ h => h.elim))
end Go.Proofs.YtainigjbjfpoaaaGreatDoor
