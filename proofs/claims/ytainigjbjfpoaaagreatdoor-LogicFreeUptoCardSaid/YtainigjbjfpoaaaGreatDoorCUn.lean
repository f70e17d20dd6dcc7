/- unary.each, Check; logic.exprs, named. -/
import Derived.Test.YtainigjbjfpoaaaGreatDoorCExChk
namespace Go.Proofs.YtainigjbjfpoaaaGreatDoor
open Go.RowKit Go.Shelf Go.Maps

/-- the first error of some -/
def firstErr {α : Type} (f : α → Nat) : List α → Nat
  | [] => 0
  | x :: xs => if f x = 0 then firstErr f xs else f x

set_option maxRecDepth 100000 in
set_option maxHeartbeats 1000000 in
theorem each_calls (P : Pers) (f : Ex → Nat) (g : Nat) (cap : Array Value) (A : Option Addr) (c : Nat) (xs : List Ex) (w : World) (h : Exs P A xs) (hs : Sat P w)
    (hen : ∀ args w, (callFunc g args).run Tryz.prog w = .ok (.enter g args) w)
    (hf : ∀ x cx w', x ∈ xs → Ex.Rep P x cx → Sat P w' → Calls Tryz.prog g (#[.agg cx.toArray] ++ cap) w' fun e w'' => e = .returned (.int .i64 (f x)) ∧ Below w'.heap.size w' w'') :
    Calls Tryz.prog 126 #[.slice A xs.length c, .func (.func g) #[] cap] w fun e w' => e = .returned (.int .i64 (firstErr f xs)) ∧ Below w.heap.size w w' := by
  have HF := As.mk hf
  have HR := As.mk h
  have HS := As.mk hs
  have hlen := h.len
  clear hf h hs
  go_enter Tryz.func126, Tryz.ntmps126
  go_wp2
  go_loopw [10] (fun i wr => ∃ k : Nat, i = .int .i64 k ∧ k ≤ xs.length ∧ As (Below w.heap.size w wr) ∧ As (Sat P wr) ∧ As (firstErr f xs = firstErr f (xs.drop k))) (fun i _ => xs.length - (intOf i).toNat)
  case atStart => exact ⟨0, rfl, Nat.zero_le _, ⟨Below.refl _ _⟩, HS, ⟨rfl⟩⟩
  case round =>
    obtain ⟨k, rfl, hk, hBr, hsr, hQ⟩ := hrel
    by_cases hlt : k < xs.length
    · have hd : xs.drop k = xs[k] :: xs.drop (k + 1) := List.drop_eq_getElem_cons hlt
      have hQ2 := hQ.out
      rw [hd, firstErr] at hQ2
      have HQ2 := As.mk hQ2
      obtain ⟨y, hy⟩ : ∃ y, As (xs[k] = y) := ⟨_, ⟨rfl⟩⟩
      rw [hy.out] at HQ2
      have hym : y ∈ xs := hy.out ▸ List.getElem_mem hlt
      obtain ⟨be, oe, B2, d2, B3, d3, rfl, hbe, hry, e0, e1, e2, e3⟩ := HR.out.at hsr.out (i := k) (x := y) (by rw [List.getElem?_eq_getElem hlt, hy.out])
      have IY := As.mk (fun W hs => HF.out y _ W hym hry hs)
      clear hd hQ2 hQ hry
      by_cases hv : f y = 0
      · have HV := As.mk (HQ2.out.trans (if_pos hv))
        rw [hv] at IY
        clear HQ2 hv
        go_wp2_with (with_reducible refine (IY.out _ (hsr.out.alloc _)).mono ?_; rintro e w2 ⟨rfl, hb2⟩)
        have hb3 := Below.then ((Below.refl _ wr).alloc (Nat.le_refl _) _) hb2
        go_roundw
        case rel => exact ⟨k + 1, by go_num, by omega, ⟨hBr.out.trans (hb3.mono hBr.out.size)⟩, ⟨hsr.out.below hb3⟩, HV⟩
        case measure => simp [intOf]; omega
      · have HV := As.mk (HQ2.out.trans (if_neg hv))
        have h0' : ((f y : Int) != 0) = true := by rw [bne_iff_ne]; omega
        clear HQ2 hv
        generalize f y = v at *
        go_wp2_with (with_reducible refine (IY.out _ (hsr.out.alloc _)).mono ?_; rintro e w2 ⟨rfl, hb2⟩)
        go_ret
        exact ⟨by rw [HV.out]; rfl, hBr.out.trans ((Below.then ((Below.refl _ wr).alloc (Nat.le_refl _) _) hb2).mono hBr.out.size)⟩
    · obtain rfl : k = xs.length := by omega
      have HE := As.mk (show firstErr f xs = 0 by rw [hQ.out, List.drop_length, firstErr])
      clear hQ
      go_wp2
      go_ret
      exact ⟨by rw [HE.out]; rfl, hBr.out⟩

/-- what is wrong with tests -/
def teErr (t : Te) : Nat := if (t.any && t.no) || (t.any != (t.l.length == 0)) then 17 else firstErr exErr t.l

set_option maxRecDepth 100000 in
set_option maxHeartbeats 1000000 in
theorem teCheck_calls (P : Pers) (G : Glob P) (t : Te) (cs : List Value) (w : World) (ht : Te.Rep P t cs) (hs : Sat P w) :
    Calls Tryz.prog 98 #[.agg cs.toArray] w fun e w' => e = .returned (.int .i64 (teErr t)) ∧ Below w.heap.size w w' := by
  obtain ⟨A2, c2, rfl, l2, r2⟩ := ht.open
  have HE := As.mk (fun w hs => each_calls P exErr 97 #[] A2 c2 t.l w r2 hs (enters_of Tryz.func97 (by kernel_rfl) rfl) (fun x cx w' _ hx hs' => exCheck_calls P G x cx w' hx hs'))
  have HQ := As.mk (teErr.eq_1 t)
  have HS := As.mk hs
  have hlen := r2.len
  clear ht r2 hs
  have hle : ((t.l.length : Int) == 0) = (t.l.length == 0) := by rw [Bool.eq_iff_iff, beq_iff_eq, beq_iff_eq]; omega
  have HL := As.mk hle
  generalize firstErr exErr t.l = v at *
  generalize hl0 : (t.l.length == 0) = z at *
  clear hle hl0
  have hl1 := HL.out
  cases ha : t.any <;> cases hn : t.no <;> cases z
  all_goals
    rw [ha, hn] at HQ
    go_enter Tryz.func98, Tryz.ntmps98
    go_wp2_with (go_at_call 126; refine (HE.out _ (HS.out.alloc _)).mono ?_; rintro e w2 ⟨rfl, hb2⟩)
    go_ret
    first
      | exact ⟨by rw [HQ.out]; rfl, Below.then ((Below.refl _ w).alloc (Nat.le_refl _) _) hb2⟩
      | exact ⟨by rw [HQ.out]; rfl, (Below.refl _ w).alloc (Nat.le_refl _) _⟩
end Go.Proofs.YtainigjbjfpoaaaGreatDoor
