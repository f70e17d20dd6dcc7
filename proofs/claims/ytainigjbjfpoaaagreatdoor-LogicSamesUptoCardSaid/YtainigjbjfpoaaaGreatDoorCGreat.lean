/- tipstavelaw15.Great. -/
import Derived.Test.YtainigjbjfpoaaaGreatDoorCRSame3
namespace Go.Proofs.YtainigjbjfpoaaaGreatDoor
open Go.RowKit Go.Shelf Go.Maps

set_option maxRecDepth 100000 in
set_option maxHeartbeats 4000000 in
theorem great_calls (P : Pers) (A : Option Addr) (c : Nat) (xs : List Lo) (w : World) (h : Los P A xs) (hs : Sat P w) (hw : ∀ x ∈ xs, x.wt ≤ 549755813888) :
    Calls Tryz.prog 8 #[.slice A xs.length c] w fun e w' => ((e = .returned (.int .i64 1)) ∨ (e = .returned (.int .i64 0) ∧ ∀ x ∈ xs, x.wt ≤ 5000)) ∧ Below w.heap.size w w' := by
  have HR := As.mk h
  have HS := As.mk hs
  have HW := As.mk hw
  have hlen := h.len
  clear h hs hw
  go_enter Tryz.func8, Tryz.ntmps8
  go_wp2
  go_loopw [7] (fun i wr => ∃ k : Nat, i = .int .i64 k ∧ k ≤ xs.length ∧ As (Below w.heap.size w wr) ∧ As (Sat P wr) ∧ As (∀ x ∈ xs.take k, x.wt ≤ 5000)) (fun i _ => xs.length - (intOf i).toNat)
  case atStart => exact ⟨0, rfl, Nat.zero_le _, ⟨Below.refl _ _⟩, HS, ⟨fun x h => by simp at h⟩⟩
  case round =>
    obtain ⟨k, rfl, hk, hB, hS, hA⟩ := hrel
    by_cases hlt : k < xs.length
    · obtain ⟨y, hy⟩ : ∃ y, As (xs[k]? = some y) := ⟨xs[k], ⟨List.getElem?_eq_getElem hlt⟩⟩
      obtain ⟨be, oe, B3, d3, B4, d4, B6, d6, B7, d7, B8, d8, B9, d9, B10, d10, rfl, hbe, hry, e0, e1, e2, e3, e4, e5, e6, e7, e8, e9, e10⟩ := HR.out.at hS.out (i := k) (x := y) hy.out
      have hb1 := As.mk ((Below.refl wr.heap.size wr).alloc (Nat.le_refl _) (.cells #[.int .i64 y.k, .int .i64 y.e.k, .string y.e.s, .slice B3 y.e.ns.length d3, .slice B4 y.e.l.length d4, .string y.pol, .slice B6 y.inp.length d6, .slice B7 y.out.length d7, .slice B8 y.ru.length d8, .slice B9 y.ns.length d9, .slice B10 y.l.length d10] 29))
      have IY := As.mk (cntLo_calls P _ y _ 5000 (wr.alloc (.cells #[.int .i64 y.k, .int .i64 y.e.k, .string y.e.s, .slice B3 y.e.ns.length d3, .slice B4 y.e.l.length d4, .string y.pol, .slice B6 y.inp.length d6, .slice B7 y.out.length d7, .slice B8 y.ru.length d8, .slice B9 y.ns.length d9, .slice B10 y.l.length d10] 29)) (Nat.le_refl _) (HW.out y (List.mem_of_getElem? hy.out)) (by decide) (by decide) hry (hS.out.alloc (.cells #[.int .i64 y.k, .int .i64 y.e.k, .string y.e.s, .slice B3 y.e.ns.length d3, .slice B4 y.e.l.length d4, .string y.pol, .slice B6 y.inp.length d6, .slice B7 y.out.length d7, .slice B8 y.ru.length d8, .slice B9 y.ns.length d9, .slice B10 y.l.length d10] 29)))
      clear hry
      go_wp2_with fail
      refine IY.out.mono ?_
      rintro e w2 ⟨⟨n, rfl, _, hL⟩, hb2⟩
      have HL := As.mk (show n ≤ 5000 → y.wt ≤ n from fun h => hL (by decide) (by omega))
      have HB2 := As.mk (Below.then hb1.out hb2)
      clear hL hb2 IY
      by_cases hn : n ≤ 5000
      · have hd : decide ((n : Int) > 5000) = false := decide_eq_false (by omega)
        have hd2 : decide (5000 < (n : Int)) = false := decide_eq_false (by omega)
        have HN := As.mk (show ∀ x ∈ xs.take (k + 1), x.wt ≤ 5000 from fun x hx => by
          rw [take_one hy.out, List.mem_append] at hx
          rcases hx with hx | hx
          · exact hA.out x hx
          · have := HL.out hn
            simp at hx
            subst hx
            omega)
        clear hn
        go_wp2
        go_roundw
        case rel => exact ⟨k + 1, by go_num, by omega, ⟨hB.out.trans (HB2.out.mono hB.out.size)⟩, ⟨hS.out.below HB2.out⟩, HN⟩
        case measure => simp [intOf]; omega
      · have hd : decide ((n : Int) > 5000) = true := decide_eq_true (by omega)
        have hd2 : decide (5000 < (n : Int)) = true := decide_eq_true (by omega)
        clear hn
        go_wp2
        go_ret
        exact ⟨.inl rfl, hB.out.trans (HB2.out.mono hB.out.size)⟩
    · obtain rfl : k = xs.length := by omega
      have hA2 := hA.out
      rw [List.take_length] at hA2
      have HA2 := As.mk hA2
      clear hA hA2
      go_wp2
      go_ret
      exact ⟨.inr ⟨rfl, HA2.out⟩, hB.out⟩
end Go.Proofs.YtainigjbjfpoaaaGreatDoor
