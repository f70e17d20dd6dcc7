/- Contracts of slices.EqualFunc, IndexFunc, ContainsFunc at the program's types. Printed by wip/tools/gen_slices.py (own tool). -/
/- slices.Equal, Index, Contains of texts. -/
import Derived.Test.YtainigjbjfpoaaaGreatDoorCBase
import Derived.Deep.QuietTactic
import Derived.BigQuiet
namespace Go.Proofs.YtainigjbjfpoaaaGreatDoor
open Go.RowKit

def eqBy {α : Type} (f : α → α → Bool) : List α → List α → Bool
  | [], [] => true
  | x :: xs, y :: ys => f x y && eqBy f xs ys
  | _, _ => false
theorem eqBy_len {α : Type} {f : α → α → Bool} : ∀ {xs ys : List α}, ¬ xs.length = ys.length → eqBy f xs ys = false
  | [], [], h => absurd rfl h
  | [], _ :: _, _ => rfl
  | _ :: _, [], _ => rfl
  | x :: xs, y :: ys, h => by simp only [eqBy]; rw [eqBy_len (by simpa using h), Bool.and_false]
theorem eqBy_false {α : Type} {f : α → α → Bool} : ∀ {xs ys : List α} {k : Nat} {x y : α}, xs[k]? = some x → ys[k]? = some y → f x y = false → eqBy f xs ys = false
  | [], _, k, x, y, h, _, _ => by simp at h
  | _ :: _, [], k, x, y, _, h, _ => by simp at h
  | a :: xs, b :: ys, 0, x, y, hx, hy, h => by simp at hx hy; subst hx hy; simp [eqBy, h]
  | a :: xs, b :: ys, k + 1, x, y, hx, hy, h => by simp at hx hy; simp only [eqBy]; rw [eqBy_false hx hy h, Bool.and_false]
theorem eqBy_true {α : Type} {f : α → α → Bool} : ∀ {xs ys : List α}, xs.length = ys.length → (∀ j x y, j < xs.length → xs[j]? = some x → ys[j]? = some y → f x y = true) → eqBy f xs ys = true
  | [], [], _, _ => rfl
  | [], _ :: _, h, _ => by simp at h
  | _ :: _, [], h, _ => by simp at h
  | x :: xs, y :: ys, h, hf => by
    simp only [eqBy]
    rw [hf 0 x y (by simp) rfl rfl, eqBy_true (by simpa using h) (fun j x' y' hj hx hy => hf (j + 1) x' y' (by simpa using hj) hx hy)]
    rfl
/-- the first place, or -1 -/
def idxFrom {α : Type} (f : α → Bool) : List α → Nat → Int
  | [], _ => -1
  | x :: xs, i => if f x then i else idxFrom f xs (i + 1)
def idxBy {α : Type} (f : α → Bool) (xs : List α) : Int := idxFrom f xs 0
theorem idxFrom_none {α : Type} {f : α → Bool} : ∀ {xs : List α} {i : Nat}, (∀ j x, j < xs.length → xs[j]? = some x → f x = false) → idxFrom f xs i = -1
  | [], _, _ => rfl
  | x :: xs, i, h => by
    have h0 := h 0 x (by simp) rfl
    simp only [idxFrom, h0]
    exact idxFrom_none (fun j y hj hy => h (j + 1) y (by simpa using hj) hy)
theorem idxFrom_at {α : Type} {f : α → Bool} : ∀ {xs : List α} {i k : Nat} {x : α}, xs[k]? = some x → f x = true → (∀ j x, j < k → xs[j]? = some x → f x = false) → idxFrom f xs i = (i + k : Nat)
  | [], _, _, _, h, _, _ => by simp at h
  | a :: xs, i, 0, x, hx, hf, _ => by simp at hx; subst hx; simp [idxFrom, hf]
  | a :: xs, i, k + 1, x, hx, hf, h => by
    have h0 := h 0 a (by omega) rfl
    simp only [idxFrom, h0]
    have := idxFrom_at (i := i + 1) (k := k) (x := x) (by simpa using hx) hf (fun j y hj hy => h (j + 1) y (by omega) (by simpa using hy))
    simp only [Bool.false_eq_true, if_false]
    rw [this]; congr 1; omega
theorem idxBy_none {α : Type} {f : α → Bool} {xs : List α} (h : ∀ j x, j < xs.length → xs[j]? = some x → f x = false) : idxBy f xs = -1 := idxFrom_none h
theorem idxBy_at {α : Type} {f : α → Bool} {xs : List α} {k : Nat} {x : α} (hx : xs[k]? = some x) (hf : f x = true) (h : ∀ j x, j < k → xs[j]? = some x → f x = false) : idxBy f xs = (k : Nat) := by
  have := idxFrom_at (i := 0) hx hf h
  rw [Nat.zero_add] at this
  exact this
theorem idxFrom_range {α : Type} (f : α → Bool) : ∀ (xs : List α) (i : Nat), (xs.any f = true ↔ 0 ≤ idxFrom f xs i) ∧ (xs.any f = false → idxFrom f xs i < 0)
  | [], i => by simp [idxFrom]
  | x :: xs, i => by
    have ih := idxFrom_range f xs (i + 1)
    cases hx : f x <;> simp [idxFrom, hx] <;> simpa using ih
theorem idxBy_range {α : Type} (f : α → Bool) (xs : List α) : (xs.any f = true ↔ 0 ≤ idxBy f xs) ∧ (xs.any f = false → idxBy f xs < 0) := idxFrom_range f xs 0
theorem any_idx {α : Type} (f : α → Bool) (xs : List α) : xs.any f = decide (0 ≤ idxBy f xs) := by
  cases h : xs.any f with
  | true => exact (decide_eq_true ((idxBy_range f xs).1.1 h)).symm
  | false => exact (decide_eq_false (by have := (idxBy_range f xs).2 h; omega)).symm


set_option maxHeartbeats 400000 in
/-- slices.EqualFunc[api.Expr] -/
theorem eqFuncEx_calls (P : Pers) (f : Ex → Ex → Bool) (A1 A2 : Option Addr) (c1 c2 : Nat) (xs ys : List Ex) (w : World) (h1 : Exs P A1 xs) (h2 : Exs P A2 ys) (hs : Sat P w)
    (hf : ∀ x y cx cy w', x ∈ xs → y ∈ ys → Ex.Rep P x cx → Ex.Rep P y cy → Sat P w' → Calls Tryz.prog 32 #[.agg cx.toArray, .agg cy.toArray] w' fun e w'' => e = .returned (.bool (f x y)) ∧ Below w'.heap.size w' w'') :
    Calls Tryz.prog 33 #[.slice A1 xs.length c1, .slice A2 ys.length c2, .func (.func 32) #[] #[]] w fun e w' => e = .returned (.bool (eqBy f xs ys)) ∧ Below w.heap.size w w' := by
  have HF := As.mk hf
  have hm := h1.len63
  clear hf
  by_cases hl : xs.length = ys.length
  · have hlb : ((xs.length : Int) != (ys.length : Int)) = false := by simp [hl]
    have hlH := As.mk hl
    clear hl
    go_enter Tryz.func33, Tryz.ntmps33
    go_wp2
    go_loopw [17] (fun i wr => ∃ k : Nat, k ≤ xs.length ∧ i = .int .i64 k ∧ Below w.heap.size w wr ∧ As (∀ j x y, j < k → xs[j]? = some x → ys[j]? = some y → f x y = true)) (fun i _ => xs.length - (intOf i).toNat)
    case atStart => exact ⟨0, Nat.zero_le _, rfl, Below.refl _ _, As.mk (fun j x y h => absurd h (Nat.not_lt_zero _))⟩
    case round =>
      obtain ⟨k, hk, rfl, hb, hall⟩ := hrel
      by_cases hlt : k < xs.length
      · obtain ⟨x, hx⟩ : ∃ x, xs[k]? = some x := ⟨_, List.getElem?_eq_getElem hlt⟩
        obtain ⟨y, hy⟩ : ∃ y, ys[k]? = some y := ⟨_, List.getElem?_eq_getElem (hlH.out ▸ hlt)⟩
        have hsr : Sat P wr := hs.below hb
        obtain ⟨b1, o1, xA2, xc2, xA3, xc3, rfl, q1, hr1, xd0, xd1, xd2, xd3⟩ := h1.at hsr hx
        obtain ⟨b2, o2, yA2, yc2, yA3, yc3, rfl, q2, hr2, yd0, yd1, yd2, yd3⟩ := h2.at hsr hy
        have hlt2 : k < ys.length := hlH.out ▸ hlt
        have HX := As.mk hx
        have HY := As.mk hy
        clear hx hy
        go_wp2_with fail
        refine (HF.out x y _ _ _ (List.mem_of_getElem? HX.out) (List.mem_of_getElem? HY.out) hr1 hr2 ((hsr.alloc _).alloc _)).mono ?_
        rintro e w2 ⟨rfl, hb2⟩
        have hb3 : Below w.heap.size w w2 := hb.trans ((((Below.refl _ _).alloc hb.size _).alloc (by have := hb.size; simp; omega) _).trans (hb2.mono (by have := hb.size; simp; omega)))
        cases hfx : f x y with
        | true =>
          have HFX := As.mk hfx
          clear hfx
          go_wp2
          go_roundw
          case rel =>
            refine ⟨k + 1, by omega, by go_num, hb3, As.mk (fun j x' y' hj hx' hy' => ?_)⟩
            by_cases hjk : j = k
            · subst hjk
              rw [HX.out] at hx'
              rw [HY.out] at hy'
              cases hx'
              cases hy'
              exact HFX.out
            · exact hall.out j x' y' (by omega) hx' hy'
          case measure => simp [intOf]; omega
        | false =>
          have HFX := As.mk hfx
          clear hfx
          go_wp2
          go_ret
          exact ⟨by rw [eqBy_false HX.out HY.out HFX.out]; rfl, hb3⟩
      · obtain rfl : k = xs.length := by omega
        go_wp2
        go_ret
        exact ⟨by rw [eqBy_true hlH.out hall.out]; rfl, hb⟩
  · have hlb : ((xs.length : Int) != (ys.length : Int)) = true := by simpa [bne_iff_ne] using (by omega : ¬ (xs.length : Int) = ys.length)
    go_enter Tryz.func33, Tryz.ntmps33
    go_wp2
    go_ret
    exact ⟨by rw [eqBy_len hl]; rfl, Below.refl _ _⟩


set_option maxHeartbeats 400000 in
/-- slices.EqualFunc[api.Tests] -/
theorem eqFuncTe_calls (P : Pers) (f : Te → Te → Bool) (A1 A2 : Option Addr) (c1 c2 : Nat) (xs ys : List Te) (w : World) (h1 : Tes P A1 xs) (h2 : Tes P A2 ys) (hs : Sat P w)
    (hf : ∀ x y cx cy w', x ∈ xs → y ∈ ys → Te.Rep P x cx → Te.Rep P y cy → Sat P w' → Calls Tryz.prog 38 #[.agg cx.toArray, .agg cy.toArray] w' fun e w'' => e = .returned (.bool (f x y)) ∧ Below w'.heap.size w' w'') :
    Calls Tryz.prog 37 #[.slice A1 xs.length c1, .slice A2 ys.length c2, .func (.func 38) #[] #[]] w fun e w' => e = .returned (.bool (eqBy f xs ys)) ∧ Below w.heap.size w w' := by
  have HF := As.mk hf
  have hm := h1.len63
  clear hf
  by_cases hl : xs.length = ys.length
  · have hlb : ((xs.length : Int) != (ys.length : Int)) = false := by simp [hl]
    have hlH := As.mk hl
    clear hl
    go_enter Tryz.func37, Tryz.ntmps37
    go_wp2
    go_loopw [17] (fun i wr => ∃ k : Nat, k ≤ xs.length ∧ i = .int .i64 k ∧ Below w.heap.size w wr ∧ As (∀ j x y, j < k → xs[j]? = some x → ys[j]? = some y → f x y = true)) (fun i _ => xs.length - (intOf i).toNat)
    case atStart => exact ⟨0, Nat.zero_le _, rfl, Below.refl _ _, As.mk (fun j x y h => absurd h (Nat.not_lt_zero _))⟩
    case round =>
      obtain ⟨k, hk, rfl, hb, hall⟩ := hrel
      by_cases hlt : k < xs.length
      · obtain ⟨x, hx⟩ : ∃ x, xs[k]? = some x := ⟨_, List.getElem?_eq_getElem hlt⟩
        obtain ⟨y, hy⟩ : ∃ y, ys[k]? = some y := ⟨_, List.getElem?_eq_getElem (hlH.out ▸ hlt)⟩
        have hsr : Sat P wr := hs.below hb
        obtain ⟨b1, o1, xA2, xc2, rfl, q1, hr1, xd0, xd1, xd2⟩ := h1.at hsr hx
        obtain ⟨b2, o2, yA2, yc2, rfl, q2, hr2, yd0, yd1, yd2⟩ := h2.at hsr hy
        have hlt2 : k < ys.length := hlH.out ▸ hlt
        have HX := As.mk hx
        have HY := As.mk hy
        clear hx hy
        go_wp2_with fail
        refine (HF.out x y _ _ _ (List.mem_of_getElem? HX.out) (List.mem_of_getElem? HY.out) hr1 hr2 ((hsr.alloc _).alloc _)).mono ?_
        rintro e w2 ⟨rfl, hb2⟩
        have hb3 : Below w.heap.size w w2 := hb.trans ((((Below.refl _ _).alloc hb.size _).alloc (by have := hb.size; simp; omega) _).trans (hb2.mono (by have := hb.size; simp; omega)))
        cases hfx : f x y with
        | true =>
          have HFX := As.mk hfx
          clear hfx
          go_wp2
          go_roundw
          case rel =>
            refine ⟨k + 1, by omega, by go_num, hb3, As.mk (fun j x' y' hj hx' hy' => ?_)⟩
            by_cases hjk : j = k
            · subst hjk
              rw [HX.out] at hx'
              rw [HY.out] at hy'
              cases hx'
              cases hy'
              exact HFX.out
            · exact hall.out j x' y' (by omega) hx' hy'
          case measure => simp [intOf]; omega
        | false =>
          have HFX := As.mk hfx
          clear hfx
          go_wp2
          go_ret
          exact ⟨by rw [eqBy_false HX.out HY.out HFX.out]; rfl, hb3⟩
      · obtain rfl : k = xs.length := by omega
        go_wp2
        go_ret
        exact ⟨by rw [eqBy_true hlH.out hall.out]; rfl, hb⟩
  · have hlb : ((xs.length : Int) != (ys.length : Int)) = true := by simpa [bne_iff_ne] using (by omega : ¬ (xs.length : Int) = ys.length)
    go_enter Tryz.func37, Tryz.ntmps37
    go_wp2
    go_ret
    exact ⟨by rw [eqBy_len hl]; rfl, Below.refl _ _⟩


set_option maxHeartbeats 400000 in
/-- slices.EqualFunc[api.Rule] -/
theorem eqFuncRu_calls (P : Pers) (f : Ru → Ru → Bool) (A1 A2 : Option Addr) (c1 c2 : Nat) (xs ys : List Ru) (w : World) (h1 : Rus P A1 xs) (h2 : Rus P A2 ys) (hs : Sat P w)
    (hf : ∀ x y cx cy w', x ∈ xs → y ∈ ys → Ru.Rep P x cx → Ru.Rep P y cy → Sat P w' → Calls Tryz.prog 36 #[.agg cx.toArray, .agg cy.toArray] w' fun e w'' => e = .returned (.bool (f x y)) ∧ Below w'.heap.size w' w'') :
    Calls Tryz.prog 35 #[.slice A1 xs.length c1, .slice A2 ys.length c2, .func (.func 36) #[] #[]] w fun e w' => e = .returned (.bool (eqBy f xs ys)) ∧ Below w.heap.size w w' := by
  have HF := As.mk hf
  have hm := h1.len63
  clear hf
  by_cases hl : xs.length = ys.length
  · have hlb : ((xs.length : Int) != (ys.length : Int)) = false := by simp [hl]
    have hlH := As.mk hl
    clear hl
    go_enter Tryz.func35, Tryz.ntmps35
    go_wp2
    go_loopw [17] (fun i wr => ∃ k : Nat, k ≤ xs.length ∧ i = .int .i64 k ∧ Below w.heap.size w wr ∧ As (∀ j x y, j < k → xs[j]? = some x → ys[j]? = some y → f x y = true)) (fun i _ => xs.length - (intOf i).toNat)
    case atStart => exact ⟨0, Nat.zero_le _, rfl, Below.refl _ _, As.mk (fun j x y h => absurd h (Nat.not_lt_zero _))⟩
    case round =>
      obtain ⟨k, hk, rfl, hb, hall⟩ := hrel
      by_cases hlt : k < xs.length
      · obtain ⟨x, hx⟩ : ∃ x, xs[k]? = some x := ⟨_, List.getElem?_eq_getElem hlt⟩
        obtain ⟨y, hy⟩ : ∃ y, ys[k]? = some y := ⟨_, List.getElem?_eq_getElem (hlH.out ▸ hlt)⟩
        have hsr : Sat P wr := hs.below hb
        obtain ⟨b1, o1, xA0, xc0, xA1, xc1, rfl, q1, hr1, xd0, xd1⟩ := h1.at hsr hx
        obtain ⟨b2, o2, yA0, yc0, yA1, yc1, rfl, q2, hr2, yd0, yd1⟩ := h2.at hsr hy
        have hlt2 : k < ys.length := hlH.out ▸ hlt
        have HX := As.mk hx
        have HY := As.mk hy
        clear hx hy
        go_wp2_with fail
        refine (HF.out x y _ _ _ (List.mem_of_getElem? HX.out) (List.mem_of_getElem? HY.out) hr1 hr2 ((hsr.alloc _).alloc _)).mono ?_
        rintro e w2 ⟨rfl, hb2⟩
        have hb3 : Below w.heap.size w w2 := hb.trans ((((Below.refl _ _).alloc hb.size _).alloc (by have := hb.size; simp; omega) _).trans (hb2.mono (by have := hb.size; simp; omega)))
        cases hfx : f x y with
        | true =>
          have HFX := As.mk hfx
          clear hfx
          go_wp2
          go_roundw
          case rel =>
            refine ⟨k + 1, by omega, by go_num, hb3, As.mk (fun j x' y' hj hx' hy' => ?_)⟩
            by_cases hjk : j = k
            · subst hjk
              rw [HX.out] at hx'
              rw [HY.out] at hy'
              cases hx'
              cases hy'
              exact HFX.out
            · exact hall.out j x' y' (by omega) hx' hy'
          case measure => simp [intOf]; omega
        | false =>
          have HFX := As.mk hfx
          clear hfx
          go_wp2
          go_ret
          exact ⟨by rw [eqBy_false HX.out HY.out HFX.out]; rfl, hb3⟩
      · obtain rfl : k = xs.length := by omega
        go_wp2
        go_ret
        exact ⟨by rw [eqBy_true hlH.out hall.out]; rfl, hb⟩
  · have hlb : ((xs.length : Int) != (ys.length : Int)) = true := by simpa [bne_iff_ne] using (by omega : ¬ (xs.length : Int) = ys.length)
    go_enter Tryz.func35, Tryz.ntmps35
    go_wp2
    go_ret
    exact ⟨by rw [eqBy_len hl]; rfl, Below.refl _ _⟩


set_option maxHeartbeats 400000 in
/-- slices.EqualFunc[api.Logic] -/
theorem eqFuncLo_calls (P : Pers) (f : Lo → Lo → Bool) (A1 A2 : Option Addr) (c1 c2 : Nat) (xs ys : List Lo) (w : World) (h1 : Los P A1 xs) (h2 : Los P A2 ys) (hs : Sat P w)
    (hf : ∀ x y cx cy w', x ∈ xs → y ∈ ys → Lo.Rep P x cx → Lo.Rep P y cy → Sat P w' → Calls Tryz.prog 14 #[.agg cx.toArray, .agg cy.toArray] w' fun e w'' => e = .returned (.bool (f x y)) ∧ Below w'.heap.size w' w'') :
    Calls Tryz.prog 39 #[.slice A1 xs.length c1, .slice A2 ys.length c2, .func (.func 14) #[] #[]] w fun e w' => e = .returned (.bool (eqBy f xs ys)) ∧ Below w.heap.size w w' := by
  have HF := As.mk hf
  have hm := h1.len63
  clear hf
  by_cases hl : xs.length = ys.length
  · have hlb : ((xs.length : Int) != (ys.length : Int)) = false := by simp [hl]
    have hlH := As.mk hl
    clear hl
    go_enter Tryz.func39, Tryz.ntmps39
    go_wp2
    go_loopw [17] (fun i wr => ∃ k : Nat, k ≤ xs.length ∧ i = .int .i64 k ∧ Below w.heap.size w wr ∧ As (∀ j x y, j < k → xs[j]? = some x → ys[j]? = some y → f x y = true)) (fun i _ => xs.length - (intOf i).toNat)
    case atStart => exact ⟨0, Nat.zero_le _, rfl, Below.refl _ _, As.mk (fun j x y h => absurd h (Nat.not_lt_zero _))⟩
    case round =>
      obtain ⟨k, hk, rfl, hb, hall⟩ := hrel
      by_cases hlt : k < xs.length
      · obtain ⟨x, hx⟩ : ∃ x, xs[k]? = some x := ⟨_, List.getElem?_eq_getElem hlt⟩
        obtain ⟨y, hy⟩ : ∃ y, ys[k]? = some y := ⟨_, List.getElem?_eq_getElem (hlH.out ▸ hlt)⟩
        have hsr : Sat P wr := hs.below hb
        obtain ⟨b1, o1, xA3, xc3, xA4, xc4, xA6, xc6, xA7, xc7, xA8, xc8, xA9, xc9, xA10, xc10, rfl, q1, hr1, xd0, xd1, xd2, xd3, xd4, xd5, xd6, xd7, xd8, xd9, xd10⟩ := h1.at hsr hx
        obtain ⟨b2, o2, yA3, yc3, yA4, yc4, yA6, yc6, yA7, yc7, yA8, yc8, yA9, yc9, yA10, yc10, rfl, q2, hr2, yd0, yd1, yd2, yd3, yd4, yd5, yd6, yd7, yd8, yd9, yd10⟩ := h2.at hsr hy
        have hlt2 : k < ys.length := hlH.out ▸ hlt
        have HX := As.mk hx
        have HY := As.mk hy
        clear hx hy
        go_wp2_with fail
        refine (HF.out x y _ _ _ (List.mem_of_getElem? HX.out) (List.mem_of_getElem? HY.out) hr1 hr2 ((hsr.alloc _).alloc _)).mono ?_
        rintro e w2 ⟨rfl, hb2⟩
        have hb3 : Below w.heap.size w w2 := hb.trans ((((Below.refl _ _).alloc hb.size _).alloc (by have := hb.size; simp; omega) _).trans (hb2.mono (by have := hb.size; simp; omega)))
        cases hfx : f x y with
        | true =>
          have HFX := As.mk hfx
          clear hfx
          go_wp2
          go_roundw
          case rel =>
            refine ⟨k + 1, by omega, by go_num, hb3, As.mk (fun j x' y' hj hx' hy' => ?_)⟩
            by_cases hjk : j = k
            · subst hjk
              rw [HX.out] at hx'
              rw [HY.out] at hy'
              cases hx'
              cases hy'
              exact HFX.out
            · exact hall.out j x' y' (by omega) hx' hy'
          case measure => simp [intOf]; omega
        | false =>
          have HFX := As.mk hfx
          clear hfx
          go_wp2
          go_ret
          exact ⟨by rw [eqBy_false HX.out HY.out HFX.out]; rfl, hb3⟩
      · obtain rfl : k = xs.length := by omega
        go_wp2
        go_ret
        exact ⟨by rw [eqBy_true hlH.out hall.out]; rfl, hb⟩
  · have hlb : ((xs.length : Int) != (ys.length : Int)) = true := by simpa [bne_iff_ne] using (by omega : ¬ (xs.length : Int) = ys.length)
    go_enter Tryz.func39, Tryz.ntmps39
    go_wp2
    go_ret
    exact ⟨by rw [eqBy_len hl]; rfl, Below.refl _ _⟩


set_option maxHeartbeats 400000 in
/-- slices.IndexFunc[string] -/
theorem indexFuncStr_calls (P : Pers) (f : ByteArray → Bool) (g : Nat) (cap : Array Value) (A : Option Addr) (c : Nat) (xs : List ByteArray) (w : World) (h : Strs P A xs) (hs : Sat P w)
    (hen : ∀ args w, (callFunc g args).run Tryz.prog w = .ok (.enter g args) w)
    (hf : ∀ x w', x ∈ xs → x.size ≤ maxStr → Sat P w' → Calls Tryz.prog g (#[.string x] ++ cap) w' fun e w'' => e = .returned (.bool (f x)) ∧ Below w'.heap.size w' w'') :
    Calls Tryz.prog 122 #[.slice A xs.length c, .func (.func g) #[] cap] w fun e w' => e = .returned (.int .i64 (idxBy f xs)) ∧ Below w.heap.size w w' := by
  have HF := As.mk hf
  have hm := h.len63
  clear hf
  go_enter Tryz.func122, Tryz.ntmps122
  go_wp2
  go_loopw [8] (fun i wr => ∃ k : Nat, k ≤ xs.length ∧ i = .int .i64 k ∧ Below w.heap.size w wr ∧ As (∀ j x, j < k → xs[j]? = some x → f x = false)) (fun i _ => xs.length - (intOf i).toNat)
  case atStart => exact ⟨0, Nat.zero_le _, rfl, Below.refl _ _, As.mk (fun j x h => absurd h (Nat.not_lt_zero _))⟩
  case round =>
    obtain ⟨k, hk, rfl, hb, hall⟩ := hrel
    by_cases hlt : k < xs.length
    · obtain ⟨x, hx⟩ : ∃ x, xs[k]? = some x := ⟨_, List.getElem?_eq_getElem hlt⟩
      obtain ⟨b, o, rfl, px, zx⟩ := Row.str h hx
      have hsr : Sat P wr := hs.below hb
      have d0 := hsr _ _ px
      have q1 : b < wr.heap.size := hsr.lt px
      have HX := As.mk hx
      clear hx
      go_wp2_with fail
      refine (HF.out x _ (List.mem_of_getElem? HX.out) zx hsr).mono ?_
      rintro e w2 ⟨rfl, hb2⟩
      have hb3 : Below w.heap.size w w2 := hb.trans (hb2.mono hb.size)
      cases hfx : f x with
      | false =>
        have HFX := As.mk hfx
        clear hfx
        go_wp2
        go_roundw
        case rel =>
          refine ⟨k + 1, by omega, by go_num, hb3, As.mk (fun j x' hj hx' => ?_)⟩
          by_cases hjk : j = k
          · subst hjk
            rw [HX.out] at hx'
            cases hx'
            exact HFX.out
          · exact hall.out j x' (by omega) hx'
        case measure => simp [intOf]; omega
      | true =>
        have HFX := As.mk hfx
        clear hfx
        go_wp2
        go_ret
        exact ⟨by rw [idxBy_at HX.out HFX.out hall.out]; rfl, hb3⟩
    · obtain rfl : k = xs.length := by omega
      go_wp2
      go_ret
      exact ⟨by rw [idxBy_none hall.out]; rfl, hb⟩

/-- slices.ContainsFunc[string] -/
theorem containsFuncStr_calls (P : Pers) (f : ByteArray → Bool) (g : Nat) (cap : Array Value) (A : Option Addr) (c : Nat) (xs : List ByteArray) (w : World) (h : Strs P A xs) (hs : Sat P w)
    (hen : ∀ args w, (callFunc g args).run Tryz.prog w = .ok (.enter g args) w)
    (hf : ∀ x w', x ∈ xs → x.size ≤ maxStr → Sat P w' → Calls Tryz.prog g (#[.string x] ++ cap) w' fun e w'' => e = .returned (.bool (f x)) ∧ Below w'.heap.size w' w'') :
    Calls Tryz.prog 95 #[.slice A xs.length c, .func (.func g) #[] cap] w fun e w' => e = .returned (.bool (xs.any f)) ∧ Below w.heap.size w w' := by
  have HC := As.mk (indexFuncStr_calls P f g cap A c xs w h hs hen hf)
  have HI := As.mk (any_idx f xs)
  clear hf h hen
  go_enter Tryz.func95, Tryz.ntmps95
  go_wp2_with fail
  refine HC.out.mono ?_
  rintro e w2 ⟨rfl, hb2⟩
  go_wp2
  go_ret
  exact ⟨by rw [HI.out]; rfl, hb2⟩


set_option maxHeartbeats 400000 in
/-- slices.IndexFunc[api.Expr] -/
theorem indexFuncEx_calls (P : Pers) (f : Ex → Bool) (g : Nat) (cap : Array Value) (A : Option Addr) (c : Nat) (xs : List Ex) (w : World) (h : Exs P A xs) (hs : Sat P w)
    (hen : ∀ args w, (callFunc g args).run Tryz.prog w = .ok (.enter g args) w)
    (hf : ∀ x cx w', x ∈ xs → Ex.Rep P x cx → Sat P w' → Calls Tryz.prog g (#[.agg cx.toArray] ++ cap) w' fun e w'' => e = .returned (.bool (f x)) ∧ Below w'.heap.size w' w'') :
    Calls Tryz.prog 163 #[.slice A xs.length c, .func (.func g) #[] cap] w fun e w' => e = .returned (.int .i64 (idxBy f xs)) ∧ Below w.heap.size w w' := by
  have HF := As.mk hf
  have hm := h.len63
  clear hf
  go_enter Tryz.func163, Tryz.ntmps163
  go_wp2
  go_loopw [8] (fun i wr => ∃ k : Nat, k ≤ xs.length ∧ i = .int .i64 k ∧ Below w.heap.size w wr ∧ As (∀ j x, j < k → xs[j]? = some x → f x = false)) (fun i _ => xs.length - (intOf i).toNat)
  case atStart => exact ⟨0, Nat.zero_le _, rfl, Below.refl _ _, As.mk (fun j x h => absurd h (Nat.not_lt_zero _))⟩
  case round =>
    obtain ⟨k, hk, rfl, hb, hall⟩ := hrel
    by_cases hlt : k < xs.length
    · obtain ⟨x, hx⟩ : ∃ x, xs[k]? = some x := ⟨_, List.getElem?_eq_getElem hlt⟩
      have hsr : Sat P wr := hs.below hb
      obtain ⟨b1, o1, xA2, xc2, xA3, xc3, rfl, q1, hr1, xd0, xd1, xd2, xd3⟩ := h.at hsr hx
      have HX := As.mk hx
      clear hx
      go_wp2_with fail
      refine (HF.out x _ _ (List.mem_of_getElem? HX.out) hr1 hsr).mono ?_
      rintro e w2 ⟨rfl, hb2⟩
      have hb3 : Below w.heap.size w w2 := hb.trans (hb2.mono hb.size)
      cases hfx : f x with
      | false =>
        have HFX := As.mk hfx
        clear hfx
        go_wp2
        go_roundw
        case rel =>
          refine ⟨k + 1, by omega, by go_num, hb3, As.mk (fun j x' hj hx' => ?_)⟩
          by_cases hjk : j = k
          · subst hjk
            rw [HX.out] at hx'
            cases hx'
            exact HFX.out
          · exact hall.out j x' (by omega) hx'
        case measure => simp [intOf]; omega
      | true =>
        have HFX := As.mk hfx
        clear hfx
        go_wp2
        go_ret
        exact ⟨by rw [idxBy_at HX.out HFX.out hall.out]; rfl, hb3⟩
    · obtain rfl : k = xs.length := by omega
      go_wp2
      go_ret
      exact ⟨by rw [idxBy_none hall.out]; rfl, hb⟩

/-- slices.ContainsFunc[api.Expr] -/
theorem containsFuncEx_calls (P : Pers) (f : Ex → Bool) (g : Nat) (cap : Array Value) (A : Option Addr) (c : Nat) (xs : List Ex) (w : World) (h : Exs P A xs) (hs : Sat P w)
    (hen : ∀ args w, (callFunc g args).run Tryz.prog w = .ok (.enter g args) w)
    (hf : ∀ x cx w', x ∈ xs → Ex.Rep P x cx → Sat P w' → Calls Tryz.prog g (#[.agg cx.toArray] ++ cap) w' fun e w'' => e = .returned (.bool (f x)) ∧ Below w'.heap.size w' w'') :
    Calls Tryz.prog 144 #[.slice A xs.length c, .func (.func g) #[] cap] w fun e w' => e = .returned (.bool (xs.any f)) ∧ Below w.heap.size w w' := by
  have HC := As.mk (indexFuncEx_calls P f g cap A c xs w h hs hen hf)
  have HI := As.mk (any_idx f xs)
  clear hf h hen
  go_enter Tryz.func144, Tryz.ntmps144
  go_wp2_with fail
  refine HC.out.mono ?_
  rintro e w2 ⟨rfl, hb2⟩
  go_wp2
  go_ret
  exact ⟨by rw [HI.out]; rfl, hb2⟩


set_option maxHeartbeats 400000 in
/-- slices.IndexFunc[api.Logic] -/
theorem indexFuncLo_calls (P : Pers) (f : Lo → Bool) (g : Nat) (cap : Array Value) (A : Option Addr) (c : Nat) (xs : List Lo) (w : World) (h : Los P A xs) (hs : Sat P w)
    (hen : ∀ args w, (callFunc g args).run Tryz.prog w = .ok (.enter g args) w)
    (hf : ∀ x cx w', x ∈ xs → Lo.Rep P x cx → Sat P w' → Calls Tryz.prog g (#[.agg cx.toArray] ++ cap) w' fun e w'' => e = .returned (.bool (f x)) ∧ Below w'.heap.size w' w'') :
    Calls Tryz.prog 93 #[.slice A xs.length c, .func (.func g) #[] cap] w fun e w' => e = .returned (.int .i64 (idxBy f xs)) ∧ Below w.heap.size w w' := by
  have HF := As.mk hf
  have hm := h.len63
  clear hf
  go_enter Tryz.func93, Tryz.ntmps93
  go_wp2
  go_loopw [8] (fun i wr => ∃ k : Nat, k ≤ xs.length ∧ i = .int .i64 k ∧ Below w.heap.size w wr ∧ As (∀ j x, j < k → xs[j]? = some x → f x = false)) (fun i _ => xs.length - (intOf i).toNat)
  case atStart => exact ⟨0, Nat.zero_le _, rfl, Below.refl _ _, As.mk (fun j x h => absurd h (Nat.not_lt_zero _))⟩
  case round =>
    obtain ⟨k, hk, rfl, hb, hall⟩ := hrel
    by_cases hlt : k < xs.length
    · obtain ⟨x, hx⟩ : ∃ x, xs[k]? = some x := ⟨_, List.getElem?_eq_getElem hlt⟩
      have hsr : Sat P wr := hs.below hb
      obtain ⟨b1, o1, xA3, xc3, xA4, xc4, xA6, xc6, xA7, xc7, xA8, xc8, xA9, xc9, xA10, xc10, rfl, q1, hr1, xd0, xd1, xd2, xd3, xd4, xd5, xd6, xd7, xd8, xd9, xd10⟩ := h.at hsr hx
      have HX := As.mk hx
      clear hx
      go_wp2_with fail
      refine (HF.out x _ _ (List.mem_of_getElem? HX.out) hr1 hsr).mono ?_
      rintro e w2 ⟨rfl, hb2⟩
      have hb3 : Below w.heap.size w w2 := hb.trans (hb2.mono hb.size)
      cases hfx : f x with
      | false =>
        have HFX := As.mk hfx
        clear hfx
        go_wp2
        go_roundw
        case rel =>
          refine ⟨k + 1, by omega, by go_num, hb3, As.mk (fun j x' hj hx' => ?_)⟩
          by_cases hjk : j = k
          · subst hjk
            rw [HX.out] at hx'
            cases hx'
            exact HFX.out
          · exact hall.out j x' (by omega) hx'
        case measure => simp [intOf]; omega
      | true =>
        have HFX := As.mk hfx
        clear hfx
        go_wp2
        go_ret
        exact ⟨by rw [idxBy_at HX.out HFX.out hall.out]; rfl, hb3⟩
    · obtain rfl : k = xs.length := by omega
      go_wp2
      go_ret
      exact ⟨by rw [idxBy_none hall.out]; rfl, hb⟩

/-- slices.ContainsFunc[api.Logic] -/
theorem containsFuncLo_calls (P : Pers) (f : Lo → Bool) (g : Nat) (cap : Array Value) (A : Option Addr) (c : Nat) (xs : List Lo) (w : World) (h : Los P A xs) (hs : Sat P w)
    (hen : ∀ args w, (callFunc g args).run Tryz.prog w = .ok (.enter g args) w)
    (hf : ∀ x cx w', x ∈ xs → Lo.Rep P x cx → Sat P w' → Calls Tryz.prog g (#[.agg cx.toArray] ++ cap) w' fun e w'' => e = .returned (.bool (f x)) ∧ Below w'.heap.size w' w'') :
    Calls Tryz.prog 60 #[.slice A xs.length c, .func (.func g) #[] cap] w fun e w' => e = .returned (.bool (xs.any f)) ∧ Below w.heap.size w w' := by
  have HC := As.mk (indexFuncLo_calls P f g cap A c xs w h hs hen hf)
  have HI := As.mk (any_idx f xs)
  clear hf h hen
  go_enter Tryz.func60, Tryz.ntmps60
  go_wp2_with fail
  refine HC.out.mono ?_
  rintro e w2 ⟨rfl, hb2⟩
  go_wp2
  go_ret
  exact ⟨by rw [HI.out]; rfl, hb2⟩

end Go.Proofs.YtainigjbjfpoaaaGreatDoor

namespace Go.Proofs.YtainigjbjfpoaaaGreatDoor
open Go.RowKit

/-- is a text one of some? -/
def has (xs : List ByteArray) (v : ByteArray) : Bool := xs.any fun y => decide (v = y)
theorem has_iff {xs : List ByteArray} {v : ByteArray} : has xs v = true ↔ v ∈ xs := by
  unfold has
  rw [List.any_eq_true]
  exact ⟨fun ⟨y, hy, h⟩ => of_decide_eq_true h ▸ hy, fun h => ⟨v, h, decide_eq_true rfl⟩⟩
theorem toList_inj {a b : ByteArray} : a.toList = b.toList ↔ a = b := by
  constructor
  · intro h
    rw [ByteArray.toList_eq, ByteArray.toList_eq] at h
    exact ByteArray.ext (Array.toList_inj.mp h)
  · intro h; rw [h]
theorem toList_beq (a b : ByteArray) : (a.toList == b.toList) = decide (a = b) := by
  by_cases h : a = b
  · subst h; simp
  · rw [decide_eq_false h]
    exact beq_eq_false_iff_ne.2 (fun e => h (toList_inj.1 e))

def strsEq (a b : List ByteArray) : Bool := eqBy (fun a b => decide (a = b)) a b
theorem pw_below_drewN' {B : Nat} {w W : World} (h : Below B w W) (n : Nat) : Below B w (W.drewN n) := ⟨h.os, h.tape, h.output, h.size, h.block⟩

set_option maxHeartbeats 400000 in
/-- slices.Equal of texts -/
theorem equalStr_calls (P : Pers) (A1 A2 : Option Addr) (c1 c2 : Nat) (xs ys : List ByteArray) (w : World) (h1 : Strs P A1 xs) (h2 : Strs P A2 ys) (hs : Sat P w) :
    Calls Tryz.prog 34 #[.slice A1 xs.length c1, .slice A2 ys.length c2] w fun e w' => e = .returned (.bool (strsEq xs ys)) ∧ Below w.heap.size w w' := by
  have hm := h1.len63
  by_cases hl : xs.length = ys.length
  · have hlb : ((xs.length : Int) != (ys.length : Int)) = false := by simp [hl]
    have hlH := As.mk hl
    clear hl
    go_enter Tryz.func34, Tryz.ntmps34
    go_wp2
    go_loopw [13] (fun i wr => ∃ k : Nat, k ≤ xs.length ∧ i = .int .i64 k ∧ Below w.heap.size w wr ∧ As (∀ j x y, j < k → xs[j]? = some x → ys[j]? = some y → decide (x = y) = true)) (fun i _ => xs.length - (intOf i).toNat)
    case atStart => exact ⟨0, Nat.zero_le _, rfl, Below.refl _ _, As.mk (fun j x y h => absurd h (Nat.not_lt_zero _))⟩
    case round =>
      obtain ⟨k, hk, rfl, hb, hall⟩ := hrel
      by_cases hlt : k < xs.length
      · obtain ⟨x, hx⟩ : ∃ x, xs[k]? = some x := ⟨_, List.getElem?_eq_getElem hlt⟩
        obtain ⟨y, hy⟩ : ∃ y, ys[k]? = some y := ⟨_, List.getElem?_eq_getElem (hlH.out ▸ hlt)⟩
        have hsr : Sat P wr := hs.below hb
        obtain ⟨b1, o1, rfl, px, _⟩ := Row.str h1 hx
        obtain ⟨b2, o2, rfl, py, _⟩ := Row.str h2 hy
        have d1 := hsr _ _ px
        have d2 := hsr _ _ py
        have hlt2 : k < ys.length := hlH.out ▸ hlt
        have hz1 : (k : Int) < (xs.length : Int) := by omega
        have hz2 : (k : Int) < (ys.length : Int) := by omega
        have HX := As.mk hx
        have HY := As.mk hy
        clear hx hy px py
        by_cases hxy : x = y
        · have HFX := As.mk hxy
          have hq : (!(x.toList == y.toList)) = false := by rw [hxy]; simp
          clear hxy
          go_wp2
          go_quiet (fail)
          go_wp2
          refine ⟨⟨k + 1, by omega, by go_num, pw_below_drewN' hb _, As.mk (fun j x' y' hj hx' hy' => ?_)⟩, by simp [intOf]; omega⟩
          by_cases hjk : j = k
          · subst hjk
            rw [HX.out] at hx'
            rw [HY.out] at hy'
            cases hx'
            cases hy'
            exact decide_eq_true HFX.out
          · exact hall.out j x' y' (by omega) hx' hy'
        · have HFX := As.mk hxy
          have hq : (!(x.toList == y.toList)) = true := by rw [beq_eq_false_iff_ne.2 (fun e => hxy (toList_inj.1 e))]; rfl
          clear hxy
          go_wp2
          go_quiet (fail)
          go_wp2
          go_ret
          exact ⟨by unfold strsEq; rw [eqBy_false HX.out HY.out (decide_eq_false HFX.out)]; rfl, pw_below_drewN' hb _⟩
      · obtain rfl : k = xs.length := by omega
        go_wp2
        go_ret
        exact ⟨by unfold strsEq; rw [eqBy_true hlH.out hall.out]; rfl, hb⟩
  · have hlb : ((xs.length : Int) != (ys.length : Int)) = true := by simpa [bne_iff_ne] using (by omega : ¬ (xs.length : Int) = ys.length)
    go_enter Tryz.func34, Tryz.ntmps34
    go_wp2
    go_ret
    exact ⟨by unfold strsEq; rw [eqBy_len hl]; rfl, Below.refl _ _⟩

set_option maxHeartbeats 400000 in
/-- slices.Index of texts -/
theorem indexStr_calls (P : Pers) (A : Option Addr) (c : Nat) (xs : List ByteArray) (v : ByteArray) (w : World) (h : Strs P A xs) (hs : Sat P w) :
    Calls Tryz.prog 100 #[.slice A xs.length c, .string v] w fun e w' => e = .returned (.int .i64 (idxBy (fun y => decide (v = y)) xs)) ∧ w = w' := by
  have hm := h.len63
  go_enter Tryz.func100, Tryz.ntmps100
  go_wp2
  go_loop [8] (fun i => ∃ k : Nat, k ≤ xs.length ∧ i = .int .i64 k ∧ As (∀ j x, j < k → xs[j]? = some x → decide (v = x) = false)) (fun i => xs.length - (intOf i).toNat)
  case atStart => exact ⟨0, Nat.zero_le _, rfl, As.mk (fun j x h => absurd h (Nat.not_lt_zero _))⟩
  case round =>
    obtain ⟨k, hk, rfl, hall⟩ := hrel
    by_cases hlt : k < xs.length
    · obtain ⟨x, hx⟩ : ∃ x, xs[k]? = some x := ⟨_, List.getElem?_eq_getElem hlt⟩
      obtain ⟨b1, o1, rfl, px, _⟩ := Row.str h hx
      have d1 := hs _ _ px
      have HX := As.mk hx
      clear hx px
      by_cases hxy : v = x
      · have HFX := As.mk hxy
        have hq : (v.toList == x.toList) = true := by rw [hxy]; simp
        clear hxy
        go_wp2
        go_ret
        exact ⟨by rw [idxBy_at HX.out (decide_eq_true HFX.out) hall.out]; rfl, rfl⟩
      · have HFX := As.mk hxy
        have hq : (v.toList == x.toList) = false := beq_eq_false_iff_ne.2 (fun e => hxy (toList_inj.1 e))
        clear hxy
        go_wp2
        go_round
        case rel =>
          refine ⟨k + 1, by omega, by go_num, As.mk (fun j x' hj hx' => ?_)⟩
          by_cases hjk : j = k
          · subst hjk
            rw [HX.out] at hx'
            cases hx'
            exact decide_eq_false HFX.out
          · exact hall.out j x' (by omega) hx'
        case measure => simp [intOf]; omega
    · obtain rfl : k = xs.length := by omega
      go_wp2
      go_ret
      exact ⟨by rw [idxBy_none hall.out]; rfl, rfl⟩

/-- slices.Contains of texts -/
theorem containsStr_calls (P : Pers) (A : Option Addr) (c : Nat) (xs : List ByteArray) (v : ByteArray) (w : World) (h : Strs P A xs) (hs : Sat P w) :
    Calls Tryz.prog 74 #[.slice A xs.length c, .string v] w fun e w' => e = .returned (.bool (has xs v)) ∧ w = w' := by
  have HC := As.mk (indexStr_calls P A c xs v w h hs)
  have HI : As (has xs v = decide (0 ≤ idxBy (fun y => decide (v = y)) xs)) := As.mk (any_idx _ _)
  clear h
  go_enter Tryz.func74, Tryz.ntmps74
  go_wp2_with fail
  refine HC.out.mono ?_
  rintro e w2 ⟨rfl, rfl⟩
  go_wp2
  go_ret
  exact ⟨by rw [HI.out]; rfl, rfl⟩
end Go.Proofs.YtainigjbjfpoaaaGreatDoor
