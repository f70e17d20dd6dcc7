/- logic.each, with any function: its state is a relation on what was gone through. Printed by wip/tools/gen_each.py (own tool). -/
import Derived.Test.YtainigjbjfpoaaaGreatDoorCFind
import Derived.Test.YtainigjbjfpoaaaGreatDoorCLog2
namespace Go.Proofs.YtainigjbjfpoaaaGreatDoor
open Go.RowKit Go.Shelf Go.Maps

/-- cells from a block on are kept -/
structure Above (n : Nat) (A B : World) : Prop where
  cells : ∀ (a : Addr) (v : Value), n ≤ a.block → A.cell? a = some v → B.cell? a = some v
  size : A.heap.size ≤ B.heap.size
theorem Above.refl (n : Nat) (A : World) : Above n A A := ⟨fun _ _ _ h => h, Nat.le_refl _⟩
theorem Above.trans {n : Nat} {A B C : World} (h : Above n A B) (k : Above n B C) : Above n A C := ⟨fun a v hn hv => k.cells a v hn (h.cells a v hn hv), Nat.le_trans h.size k.size⟩
theorem Above.of {n : Nat} {A B : World} (h : Below A.heap.size A B) : Above n A B := ⟨fun a v _ hv => Cells.below h a v hv, h.size⟩
theorem Above.alloc (n : Nat) (A : World) (o : Obj) : Above n A (A.alloc o) := .of ((Below.refl _ A).alloc (Nat.le_refl _) o)
theorem Above.of_cells {n : Nat} {A B : World} (h : Cells A B) (hs : A.heap.size ≤ B.heap.size) : Above n A B := ⟨fun a v _ hv => h a v hv, hs⟩

/-- all expressions of a rule; of a logic, but of its L -/
def ruParts (r : Ru) : List Ex := r.ins.flatMap (·.l) ++ r.out
def Lo.hd (x : Lo) : List Ex := if x.k == 0 || x.k == 3 then [x.e] else []
def Lo.parts (x : Lo) : List Ex := x.hd ++ x.inp ++ x.ru.flatMap ruParts
theorem Lo.parts_eq (x : Lo) : x.parts = x.hd ++ x.inp ++ x.ru.flatMap ruParts := rfl
theorem Lo.mem_inp {x : Lo} {y : Ex} (h : y ∈ x.inp) : y ∈ x.parts := List.mem_append_left _ (List.mem_append_right _ h)
theorem Lo.mem_rules {x : Lo} {r : Ru} (hr : r ∈ x.ru) {y : Ex} (h : y ∈ ruParts r) : y ∈ x.parts := List.mem_append_right _ (List.mem_flatMap.2 ⟨r, hr, h⟩)
theorem Lo.mem_hd {x : Lo} {y : Ex} (h : y ∈ x.hd) : y ∈ x.parts := List.mem_append_left _ (List.mem_append_left _ h)
theorem flatMap_take {α β : Type} {f : α → List β} {l : List α} {k : Nat} {y : α} (h : l[k]? = some y) : (l.take (k + 1)).flatMap f = (l.take k).flatMap f ++ f y := by
  rw [take_one h, List.flatMap_append]; simp

set_option maxRecDepth 100000 in
set_option maxHeartbeats 8000000 in
theorem lgEach_calls (P : Pers) (x : Lo) (cs : List Value) (w0 : World) (hx : Lo.Rep P x cs) (g : Nat) (cap : Array Value) (hen : ∀ args w, (callFunc g args).run Tryz.prog w = .ok (.enter g args) w)
    (R : List Ex → World → Prop) (S : World → Prop) (hRs : ∀ pre W, R pre W → Sat P W) (hRa : ∀ pre W (o : Obj), R pre W → R pre (W.alloc o))
    (hf : ∀ pre y cy W, y ∈ x.parts → Ex.Rep P y cy → R pre W → w0.heap.size ≤ W.heap.size → Calls Tryz.prog g (#[.agg cy.toArray] ++ cap) W fun e w' => ((e = .returned (.bool true) ∧ R (pre ++ [y]) w') ∨ (e = .returned (.bool false) ∧ S w')) ∧ Above w0.heap.size W w')
    (h0 : R [] w0) :
    Calls Tryz.prog 45 #[.agg cs.toArray, .func (.func g) #[] cap] w0 fun e w' => (e = .returned (.bool true) ∧ R x.parts w') ∨ (e = .returned (.bool false) ∧ S w') := by
  obtain ⟨A3, c3, A4, c4, A6, c6, A7, c7, A8, c8, A9, c9, A10, c10, rfl, l3, r3, l4, r4, l6, r6, l7, r7, l8, r8, l9, r9, l10, r10, z2, z5, zk, zk2⟩ := hx.open
  have HF := As.mk hf
  have HRS := As.mk hRs
  have HRA := As.mk hRa
  have HEX := As.mk (Lo.ex l3 r3 l4 r4 z2 zk2)
  have HR6 := As.mk r6
  have HR8 := As.mk r8
  have hl6 := r6.len
  have hl8 := r8.len
  have HRW := As.mk (hRa _ _ (.cells #[.int .i64 x.k, .int .i64 x.e.k, .string x.e.s, .slice A3 x.e.ns.length c3, .slice A4 x.e.l.length c4, .string x.pol, .slice A6 x.inp.length c6, .slice A7 x.out.length c7, .slice A8 x.ru.length c8, .slice A9 x.ns.length c9, .slice A10 x.l.length c10] 29) h0)
  have K8 := As.mk (show (w0.alloc (.cells #[.int .i64 x.k, .int .i64 x.e.k, .string x.e.s, .slice A3 x.e.ns.length c3, .slice A4 x.e.l.length c4, .string x.pol, .slice A6 x.inp.length c6, .slice A7 x.out.length c7, .slice A8 x.ru.length c8, .slice A9 x.ns.length c9, .slice A10 x.l.length c10] 29)).cell? ⟨w0.heap.size, 8, none⟩ = some (.slice A8 x.ru.length c8) from World.cell?_alloc_mark ..)
  have HSW := As.mk (show w0.heap.size ≤ (w0.alloc (.cells #[.int .i64 x.k, .int .i64 x.e.k, .string x.e.s, .slice A3 x.e.ns.length c3, .slice A4 x.e.l.length c4, .string x.pol, .slice A6 x.inp.length c6, .slice A7 x.out.length c7, .slice A8 x.ru.length c8, .slice A9 x.ns.length c9, .slice A10 x.l.length c10] 29)).heap.size by simp)
  have HHD := As.mk (Lo.hd.eq_1 x)
  clear hx hf hRs hRa r3 r4 r6 r7 r8 r9 r10 h0
  cases q0 : (x.k == 0)
  · cases q3 : (x.k == 3)
    · rw [q0, q3] at HHD
      obtain ⟨E, hE⟩ : ∃ E, As (x.hd = E) := ⟨_, ⟨rfl⟩⟩
      have HRE := As.mk (show R E (w0.alloc (.cells #[.int .i64 x.k, .int .i64 x.e.k, .string x.e.s, .slice A3 x.e.ns.length c3, .slice A4 x.e.l.length c4, .string x.pol, .slice A6 x.inp.length c6, .slice A7 x.out.length c7, .slice A8 x.ru.length c8, .slice A9 x.ns.length c9, .slice A10 x.l.length c10] 29)) by rw [← hE.out, show x.hd = [] from HHD.out]; exact HRW.out)
      have HAE := As.mk (Above.refl w0.heap.size (w0.alloc (.cells #[.int .i64 x.k, .int .i64 x.e.k, .string x.e.s, .slice A3 x.e.ns.length c3, .slice A4 x.e.l.length c4, .string x.pol, .slice A6 x.inp.length c6, .slice A7 x.out.length c7, .slice A8 x.ru.length c8, .slice A9 x.ns.length c9, .slice A10 x.l.length c10] 29)))
      go_enter Tryz.func45, Tryz.ntmps45
      go_wp2
      go_loopw [33] (fun i wr => ∃ k : Nat, i = .int .i64 k ∧ k ≤ x.inp.length ∧ As (R (E ++ x.inp.take k) wr) ∧ As (Above w0.heap.size (w0.alloc (.cells #[.int .i64 x.k, .int .i64 x.e.k, .string x.e.s, .slice A3 x.e.ns.length c3, .slice A4 x.e.l.length c4, .string x.pol, .slice A6 x.inp.length c6, .slice A7 x.out.length c7, .slice A8 x.ru.length c8, .slice A9 x.ns.length c9, .slice A10 x.l.length c10] 29)) wr)) (fun i _ => x.inp.length - (intOf i).toNat)
      case atStart => exact ⟨0, rfl, Nat.zero_le _, ⟨by rw [List.take_zero, List.append_nil]; exact HRE.out⟩, HAE⟩
      case round =>
        obtain ⟨k, rfl, hk, hR, hA⟩ := hrel
        by_cases hlt : k < x.inp.length
        · obtain ⟨y, hy⟩ : ∃ y, As (x.inp[k]? = some y) := ⟨x.inp[k], ⟨List.getElem?_eq_getElem hlt⟩⟩
          obtain ⟨be, oe, B2, d2, B3, d3, rfl, hbe, hry, e0, e1, e2, e3⟩ := HR6.out.at (HRS.out _ _ hR.out) (i := k) (x := y) hy.out
          have HSZ := As.mk (show w0.heap.size ≤ wr.heap.size from Nat.le_trans HSW.out hA.out.size)
          have IY := As.mk (HF.out _ y _ _ (Lo.mem_inp (List.mem_of_getElem? hy.out)) hry (HRA.out _ _ (.cells #[.int .i64 y.k, .string y.s, .slice B2 y.ns.length d2, .slice B3 y.l.length d3] 25) hR.out) (by have := HSZ.out; simp; omega))
          have hAA := As.mk (hA.out.trans (Above.alloc w0.heap.size wr (.cells #[.int .i64 y.k, .string y.s, .slice B2 y.ns.length d2, .slice B3 y.l.length d3] 25)))
          clear hry
          go_wp2
          refine IY.out.mono ?_
          rintro e w2 ⟨⟨rfl, hR2⟩ | ⟨rfl, hS2⟩, hA2⟩
          · have HX := As.mk (And.intro (show R (E ++ x.inp.take (k + 1)) w2 by rw [take_one hy.out, ← List.append_assoc]; exact hR2) (hAA.out.trans hA2))
            clear hR2 hA2 IY
            go_wp2
            go_roundw
            case rel => exact ⟨k + 1, by go_num, by omega, ⟨HX.out.1⟩, ⟨HX.out.2⟩⟩
            case measure => simp [intOf]; omega
          · have HX := As.mk hS2
            clear hS2 hA2 IY
            go_wp2
            go_ret
            exact .inr ⟨rfl, HX.out⟩
        · obtain rfl : k = x.inp.length := by omega
          have hRz := hR.out
          rw [List.take_length] at hRz
          have HRz := As.mk hRz
          clear hRz hR
          obtain ⟨E2, hE2⟩ : ∃ E2, As (E2 = E ++ x.inp) := ⟨_, ⟨rfl⟩⟩
          have g8 := hA.out.cells ⟨w0.heap.size, 8, none⟩ _ (Nat.le_refl _) K8.out
          go_wp2
          go_loopw [45] (fun i wr => ∃ m : Nat, i = .int .i64 m ∧ m ≤ x.ru.length ∧ As (R (E2 ++ (x.ru.take m).flatMap ruParts) wr) ∧ As (Above w0.heap.size (w0.alloc (.cells #[.int .i64 x.k, .int .i64 x.e.k, .string x.e.s, .slice A3 x.e.ns.length c3, .slice A4 x.e.l.length c4, .string x.pol, .slice A6 x.inp.length c6, .slice A7 x.out.length c7, .slice A8 x.ru.length c8, .slice A9 x.ns.length c9, .slice A10 x.l.length c10] 29)) wr)) (fun i _ => x.ru.length - (intOf i).toNat)
          case atStart => exact ⟨0, rfl, Nat.zero_le _, ⟨by rw [hE2.out]; simpa using HRz.out⟩, hA⟩
          case round =>
            clear HRz hA
            obtain ⟨m, rfl, hm, HRp, hAp⟩ := hrel
            obtain ⟨wp, hwp⟩ : ∃ wp, wp = wr := ⟨_, rfl⟩
            subst hwp
            have HSP := As.mk (show w0.heap.size ≤ wp.heap.size from Nat.le_trans HSW.out hAp.out.size)
            by_cases hlt : m < x.ru.length
            · obtain ⟨r, hr⟩ : ∃ r, As (x.ru[m]? = some r) := ⟨x.ru[m], ⟨List.getElem?_eq_getElem hlt⟩⟩
              obtain ⟨br, orr, B0, d0, B1, d1, rfl, hbr, hrr, n0, n1⟩ := HR8.out.at (HRS.out _ _ HRp.out) (i := m) (x := r) hr.out
              obtain ⟨_, _, _, _, hcs, hl0, t0, hl1, t1⟩ := hrr.open
              simp only [List.cons.injEq, Value.slice.injEq, and_true, true_and] at hcs
              obtain ⟨⟨rfl, rfl⟩, rfl, rfl⟩ := hcs
              have HRI := As.mk t0
              have HRO := As.mk t1
              have hli := t0.len
              have hlo := t1.len
              have HMR := As.mk (fun y (hy : y ∈ ruParts r) => Lo.mem_rules (List.mem_of_getElem? hr.out) hy)
              obtain ⟨E3, hE3⟩ : ∃ E3, As (E2 ++ (x.ru.take m).flatMap ruParts = E3) := ⟨_, ⟨rfl⟩⟩
              rw [hE3.out] at HRp
              clear hrr t0 t1
              go_wp2
              go_loopw [52] (fun i wr => ∃ j : Nat, i = .int .i64 j ∧ j ≤ r.ins.length ∧ As (R (E3 ++ (r.ins.take j).flatMap (·.l)) wr) ∧ As (Above w0.heap.size (wp.alloc (.cells #[.slice B0 r.ins.length d0, .slice B1 r.out.length d1] 65)) wr)) (fun i _ => r.ins.length - (intOf i).toNat)
              case atStart => exact ⟨0, rfl, Nat.zero_le _, ⟨by simpa using HRA.out _ _ _ HRp.out⟩, ⟨Above.refl _ _⟩⟩
              case round =>
                obtain ⟨j, rfl, hj, HRq, hAq⟩ := hrel
                obtain ⟨wq, hwq⟩ : ∃ wq, wq = wr := ⟨_, rfl⟩
                subst hwq
                have HSQ := As.mk (show w0.heap.size ≤ wq.heap.size from Nat.le_trans (by have := HSP.out; simp; omega) hAq.out.size)
                by_cases hlt : j < r.ins.length
                · obtain ⟨z, hz⟩ : ∃ z, As (r.ins[j]? = some z) := ⟨r.ins[j], ⟨List.getElem?_eq_getElem hlt⟩⟩
                  obtain ⟨bz, oz, D2, f2, rfl, hbz, hrz, m0, m1, m2⟩ := HRI.out.at (HRS.out _ _ HRq.out) (i := j) (x := z) hz.out
                  obtain ⟨D2', f2', hcs, hl2, t2⟩ := hrz.open
                  simp only [List.cons.injEq, Value.slice.injEq, and_true, true_and] at hcs
                  obtain ⟨rfl, rfl⟩ := hcs
                  have HTL := As.mk t2
                  have hlz := t2.len
                  have HMZ := As.mk (fun y (hy : y ∈ z.l) => HMR.out y (List.mem_append_left _ (List.mem_flatMap.2 ⟨z, List.mem_of_getElem? hz.out, hy⟩)))
                  obtain ⟨E4, hE4⟩ : ∃ E4, As (E3 ++ (r.ins.take j).flatMap (·.l) = E4) := ⟨_, ⟨rfl⟩⟩
                  rw [hE4.out] at HRq
                  clear hrz t2
                  go_wp2
                  go_loopw [59] (fun i wr => ∃ k : Nat, i = .int .i64 k ∧ k ≤ z.l.length ∧ As (R (E4 ++ z.l.take k) wr) ∧ As (Above w0.heap.size (wq.alloc (.cells #[.bool z.any, .bool z.no, .slice D2 z.l.length f2] 68)) wr)) (fun i _ => z.l.length - (intOf i).toNat)
                  case atStart => exact ⟨0, rfl, Nat.zero_le _, ⟨by rw [List.take_zero, List.append_nil]; exact (HRA.out _ _ _ HRq.out)⟩, ⟨Above.refl _ _⟩⟩
                  case round =>
                    obtain ⟨k, rfl, hk, hR, hA⟩ := hrel
                    by_cases hlt : k < z.l.length
                    · obtain ⟨y, hy⟩ : ∃ y, As (z.l[k]? = some y) := ⟨z.l[k], ⟨List.getElem?_eq_getElem hlt⟩⟩
                      obtain ⟨be, oe, B2, d2, B3, d3, rfl, hbe, hry, e0, e1, e2, e3⟩ := HTL.out.at (HRS.out _ _ hR.out) (i := k) (x := y) hy.out
                      have HSZ := As.mk (show w0.heap.size ≤ wr.heap.size from Nat.le_trans (by have := HSQ.out; simp; omega) hA.out.size)
                      have IY := As.mk (HF.out _ y _ _ (HMZ.out y (List.mem_of_getElem? hy.out)) hry (HRA.out _ _ (.cells #[.int .i64 y.k, .string y.s, .slice B2 y.ns.length d2, .slice B3 y.l.length d3] 25) hR.out) (by have := HSZ.out; simp; omega))
                      have hAA := As.mk (hA.out.trans (Above.alloc w0.heap.size wr (.cells #[.int .i64 y.k, .string y.s, .slice B2 y.ns.length d2, .slice B3 y.l.length d3] 25)))
                      clear hry
                      go_wp2
                      refine IY.out.mono ?_
                      rintro e w2 ⟨⟨rfl, hR2⟩ | ⟨rfl, hS2⟩, hA2⟩
                      · have HX := As.mk (And.intro (show R (E4 ++ z.l.take (k + 1)) w2 by rw [take_one hy.out, ← List.append_assoc]; exact hR2) (hAA.out.trans hA2))
                        clear hR2 hA2 IY
                        go_wp2
                        go_roundw
                        case rel => exact ⟨k + 1, by go_num, by omega, ⟨HX.out.1⟩, ⟨HX.out.2⟩⟩
                        case measure => simp [intOf]; omega
                      · have HX := As.mk hS2
                        clear hS2 hA2 IY
                        go_wp2
                        go_ret
                        exact .inr ⟨rfl, HX.out⟩
                    · obtain rfl : k = z.l.length := by omega
                      have hRz := hR.out
                      rw [List.take_length] at hRz
                      have HRz := As.mk hRz
                      clear hRz hR
                      have HX := As.mk (And.intro (show R (E3 ++ (r.ins.take (j + 1)).flatMap (·.l)) wr by rw [flatMap_take hz.out, ← List.append_assoc, hE4.out]; exact HRz.out) (hAq.out.trans ((Above.alloc _ _ _).trans hA.out)))
                      go_wp2
                      go_roundw
                      case rel => exact ⟨j + 1, by go_num, by omega, ⟨HX.out.1⟩, ⟨HX.out.2⟩⟩
                      case measure => simp [intOf]; omega
                · obtain rfl : j = r.ins.length := by omega
                  rw [List.take_length] at HRq
                  have g1 := hAq.out.cells ⟨wp.heap.size, 1, none⟩ _ HSP.out (World.cell?_alloc_mark ..)
                  obtain ⟨E5, hE5⟩ : ∃ E5, As (E3 ++ r.ins.flatMap (·.l) = E5) := ⟨_, ⟨rfl⟩⟩
                  rw [hE5.out] at HRq
                  obtain ⟨wt, hwt⟩ : ∃ wt, wt = wq := ⟨_, rfl⟩
                  subst hwt
                  have HRt := HRq
                  have hAt := hAq
                  have HST := HSQ
                  clear HRq hAq HSQ
                  go_wp2
                  go_loopw [72] (fun i wr => ∃ k : Nat, i = .int .i64 k ∧ k ≤ r.out.length ∧ As (R (E5 ++ r.out.take k) wr) ∧ As (Above w0.heap.size wt wr)) (fun i _ => r.out.length - (intOf i).toNat)
                  case atStart => exact ⟨0, rfl, Nat.zero_le _, ⟨by rw [List.take_zero, List.append_nil]; exact HRt.out⟩, ⟨Above.refl _ _⟩⟩
                  case round =>
                    obtain ⟨k, rfl, hk, hR, hA⟩ := hrel
                    by_cases hlt : k < r.out.length
                    · obtain ⟨y, hy⟩ : ∃ y, As (r.out[k]? = some y) := ⟨r.out[k], ⟨List.getElem?_eq_getElem hlt⟩⟩
                      obtain ⟨be, oe, B2, d2, B3, d3, rfl, hbe, hry, e0, e1, e2, e3⟩ := HRO.out.at (HRS.out _ _ hR.out) (i := k) (x := y) hy.out
                      have HSZ := As.mk (show w0.heap.size ≤ wr.heap.size from Nat.le_trans HST.out hA.out.size)
                      have IY := As.mk (HF.out _ y _ _ (HMR.out y (List.mem_append_right _ (List.mem_of_getElem? hy.out))) hry (HRA.out _ _ (.cells #[.int .i64 y.k, .string y.s, .slice B2 y.ns.length d2, .slice B3 y.l.length d3] 25) hR.out) (by have := HSZ.out; simp; omega))
                      have hAA := As.mk (hA.out.trans (Above.alloc w0.heap.size wr (.cells #[.int .i64 y.k, .string y.s, .slice B2 y.ns.length d2, .slice B3 y.l.length d3] 25)))
                      clear hry
                      go_wp2
                      refine IY.out.mono ?_
                      rintro e w2 ⟨⟨rfl, hR2⟩ | ⟨rfl, hS2⟩, hA2⟩
                      · have HX := As.mk (And.intro (show R (E5 ++ r.out.take (k + 1)) w2 by rw [take_one hy.out, ← List.append_assoc]; exact hR2) (hAA.out.trans hA2))
                        clear hR2 hA2 IY
                        go_wp2
                        go_roundw
                        case rel => exact ⟨k + 1, by go_num, by omega, ⟨HX.out.1⟩, ⟨HX.out.2⟩⟩
                        case measure => simp [intOf]; omega
                      · have HX := As.mk hS2
                        clear hS2 hA2 IY
                        go_wp2
                        go_ret
                        exact .inr ⟨rfl, HX.out⟩
                    · obtain rfl : k = r.out.length := by omega
                      have hRz := hR.out
                      rw [List.take_length] at hRz
                      have HRz := As.mk hRz
                      clear hRz hR
                      have HX := As.mk (And.intro (show R (E2 ++ (x.ru.take (m + 1)).flatMap ruParts) wr by rw [flatMap_take hr.out, ruParts, ← List.append_assoc, ← List.append_assoc, hE3.out, hE5.out]; exact HRz.out) (hAp.out.trans ((Above.alloc _ _ _).trans (hAt.out.trans hA.out))))
                      go_wp2
                      go_roundw
                      case rel => exact ⟨m + 1, by go_num, by omega, ⟨HX.out.1⟩, ⟨HX.out.2⟩⟩
                      case measure => simp [intOf]; omega
            · obtain rfl : m = x.ru.length := by omega
              rw [List.take_length] at HRp
              go_wp2
              go_ret
              exact .inl ⟨rfl, by rw [Lo.parts_eq, hE.out, ← hE2.out]; exact HRp.out⟩
    · rw [q0, q3] at HHD
      obtain ⟨E, hE⟩ : ∃ E, As (x.hd = E) := ⟨_, ⟨rfl⟩⟩
      have IE := As.mk (HF.out [] x.e _ _ (Lo.mem_hd (by rw [show x.hd = [x.e] from HHD.out]; simp)) HEX.out HRW.out HSW.out)
      go_enter Tryz.func45, Tryz.ntmps45
      go_wp2
      refine IE.out.mono ?_
      rintro e w1 ⟨⟨rfl, hR2⟩ | ⟨rfl, hS2⟩, hA2⟩
      · have HRE := As.mk (show R E w1 by rw [← hE.out, show x.hd = [x.e] from HHD.out]; exact hR2)
        have HAE := As.mk hA2
        have g6 := hA2.cells ⟨w0.heap.size, 6, none⟩ _ (Nat.le_refl _) (World.cell?_alloc_mark ..)
        clear hR2 hA2 IE
        go_wp2
        clear g6
        go_loopw [33] (fun i wr => ∃ k : Nat, i = .int .i64 k ∧ k ≤ x.inp.length ∧ As (R (E ++ x.inp.take k) wr) ∧ As (Above w0.heap.size (w0.alloc (.cells #[.int .i64 x.k, .int .i64 x.e.k, .string x.e.s, .slice A3 x.e.ns.length c3, .slice A4 x.e.l.length c4, .string x.pol, .slice A6 x.inp.length c6, .slice A7 x.out.length c7, .slice A8 x.ru.length c8, .slice A9 x.ns.length c9, .slice A10 x.l.length c10] 29)) wr)) (fun i _ => x.inp.length - (intOf i).toNat)
        case atStart => exact ⟨0, rfl, Nat.zero_le _, ⟨by rw [List.take_zero, List.append_nil]; exact HRE.out⟩, HAE⟩
        case round =>
          obtain ⟨k, rfl, hk, hR, hA⟩ := hrel
          by_cases hlt : k < x.inp.length
          · obtain ⟨y, hy⟩ : ∃ y, As (x.inp[k]? = some y) := ⟨x.inp[k], ⟨List.getElem?_eq_getElem hlt⟩⟩
            obtain ⟨be, oe, B2, d2, B3, d3, rfl, hbe, hry, e0, e1, e2, e3⟩ := HR6.out.at (HRS.out _ _ hR.out) (i := k) (x := y) hy.out
            have HSZ := As.mk (show w0.heap.size ≤ wr.heap.size from Nat.le_trans HSW.out hA.out.size)
            have IY := As.mk (HF.out _ y _ _ (Lo.mem_inp (List.mem_of_getElem? hy.out)) hry (HRA.out _ _ (.cells #[.int .i64 y.k, .string y.s, .slice B2 y.ns.length d2, .slice B3 y.l.length d3] 25) hR.out) (by have := HSZ.out; simp; omega))
            have hAA := As.mk (hA.out.trans (Above.alloc w0.heap.size wr (.cells #[.int .i64 y.k, .string y.s, .slice B2 y.ns.length d2, .slice B3 y.l.length d3] 25)))
            clear hry
            go_wp2
            refine IY.out.mono ?_
            rintro e w2 ⟨⟨rfl, hR2⟩ | ⟨rfl, hS2⟩, hA2⟩
            · have HX := As.mk (And.intro (show R (E ++ x.inp.take (k + 1)) w2 by rw [take_one hy.out, ← List.append_assoc]; exact hR2) (hAA.out.trans hA2))
              clear hR2 hA2 IY
              go_wp2
              go_roundw
              case rel => exact ⟨k + 1, by go_num, by omega, ⟨HX.out.1⟩, ⟨HX.out.2⟩⟩
              case measure => simp [intOf]; omega
            · have HX := As.mk hS2
              clear hS2 hA2 IY
              go_wp2
              go_ret
              exact .inr ⟨rfl, HX.out⟩
          · obtain rfl : k = x.inp.length := by omega
            have hRz := hR.out
            rw [List.take_length] at hRz
            have HRz := As.mk hRz
            clear hRz hR
            obtain ⟨E2, hE2⟩ : ∃ E2, As (E2 = E ++ x.inp) := ⟨_, ⟨rfl⟩⟩
            have g8 := hA.out.cells ⟨w0.heap.size, 8, none⟩ _ (Nat.le_refl _) K8.out
            go_wp2
            go_loopw [45] (fun i wr => ∃ m : Nat, i = .int .i64 m ∧ m ≤ x.ru.length ∧ As (R (E2 ++ (x.ru.take m).flatMap ruParts) wr) ∧ As (Above w0.heap.size (w0.alloc (.cells #[.int .i64 x.k, .int .i64 x.e.k, .string x.e.s, .slice A3 x.e.ns.length c3, .slice A4 x.e.l.length c4, .string x.pol, .slice A6 x.inp.length c6, .slice A7 x.out.length c7, .slice A8 x.ru.length c8, .slice A9 x.ns.length c9, .slice A10 x.l.length c10] 29)) wr)) (fun i _ => x.ru.length - (intOf i).toNat)
            case atStart => exact ⟨0, rfl, Nat.zero_le _, ⟨by rw [hE2.out]; simpa using HRz.out⟩, hA⟩
            case round =>
              clear HRz hA
              obtain ⟨m, rfl, hm, HRp, hAp⟩ := hrel
              obtain ⟨wp, hwp⟩ : ∃ wp, wp = wr := ⟨_, rfl⟩
              subst hwp
              have HSP := As.mk (show w0.heap.size ≤ wp.heap.size from Nat.le_trans HSW.out hAp.out.size)
              by_cases hlt : m < x.ru.length
              · obtain ⟨r, hr⟩ : ∃ r, As (x.ru[m]? = some r) := ⟨x.ru[m], ⟨List.getElem?_eq_getElem hlt⟩⟩
                obtain ⟨br, orr, B0, d0, B1, d1, rfl, hbr, hrr, n0, n1⟩ := HR8.out.at (HRS.out _ _ HRp.out) (i := m) (x := r) hr.out
                obtain ⟨_, _, _, _, hcs, hl0, t0, hl1, t1⟩ := hrr.open
                simp only [List.cons.injEq, Value.slice.injEq, and_true, true_and] at hcs
                obtain ⟨⟨rfl, rfl⟩, rfl, rfl⟩ := hcs
                have HRI := As.mk t0
                have HRO := As.mk t1
                have hli := t0.len
                have hlo := t1.len
                have HMR := As.mk (fun y (hy : y ∈ ruParts r) => Lo.mem_rules (List.mem_of_getElem? hr.out) hy)
                obtain ⟨E3, hE3⟩ : ∃ E3, As (E2 ++ (x.ru.take m).flatMap ruParts = E3) := ⟨_, ⟨rfl⟩⟩
                rw [hE3.out] at HRp
                clear hrr t0 t1
                go_wp2
                go_loopw [52] (fun i wr => ∃ j : Nat, i = .int .i64 j ∧ j ≤ r.ins.length ∧ As (R (E3 ++ (r.ins.take j).flatMap (·.l)) wr) ∧ As (Above w0.heap.size (wp.alloc (.cells #[.slice B0 r.ins.length d0, .slice B1 r.out.length d1] 65)) wr)) (fun i _ => r.ins.length - (intOf i).toNat)
                case atStart => exact ⟨0, rfl, Nat.zero_le _, ⟨by simpa using HRA.out _ _ _ HRp.out⟩, ⟨Above.refl _ _⟩⟩
                case round =>
                  obtain ⟨j, rfl, hj, HRq, hAq⟩ := hrel
                  obtain ⟨wq, hwq⟩ : ∃ wq, wq = wr := ⟨_, rfl⟩
                  subst hwq
                  have HSQ := As.mk (show w0.heap.size ≤ wq.heap.size from Nat.le_trans (by have := HSP.out; simp; omega) hAq.out.size)
                  by_cases hlt : j < r.ins.length
                  · obtain ⟨z, hz⟩ : ∃ z, As (r.ins[j]? = some z) := ⟨r.ins[j], ⟨List.getElem?_eq_getElem hlt⟩⟩
                    obtain ⟨bz, oz, D2, f2, rfl, hbz, hrz, m0, m1, m2⟩ := HRI.out.at (HRS.out _ _ HRq.out) (i := j) (x := z) hz.out
                    obtain ⟨D2', f2', hcs, hl2, t2⟩ := hrz.open
                    simp only [List.cons.injEq, Value.slice.injEq, and_true, true_and] at hcs
                    obtain ⟨rfl, rfl⟩ := hcs
                    have HTL := As.mk t2
                    have hlz := t2.len
                    have HMZ := As.mk (fun y (hy : y ∈ z.l) => HMR.out y (List.mem_append_left _ (List.mem_flatMap.2 ⟨z, List.mem_of_getElem? hz.out, hy⟩)))
                    obtain ⟨E4, hE4⟩ : ∃ E4, As (E3 ++ (r.ins.take j).flatMap (·.l) = E4) := ⟨_, ⟨rfl⟩⟩
                    rw [hE4.out] at HRq
                    clear hrz t2
                    go_wp2
                    go_loopw [59] (fun i wr => ∃ k : Nat, i = .int .i64 k ∧ k ≤ z.l.length ∧ As (R (E4 ++ z.l.take k) wr) ∧ As (Above w0.heap.size (wq.alloc (.cells #[.bool z.any, .bool z.no, .slice D2 z.l.length f2] 68)) wr)) (fun i _ => z.l.length - (intOf i).toNat)
                    case atStart => exact ⟨0, rfl, Nat.zero_le _, ⟨by rw [List.take_zero, List.append_nil]; exact (HRA.out _ _ _ HRq.out)⟩, ⟨Above.refl _ _⟩⟩
                    case round =>
                      obtain ⟨k, rfl, hk, hR, hA⟩ := hrel
                      by_cases hlt : k < z.l.length
                      · obtain ⟨y, hy⟩ : ∃ y, As (z.l[k]? = some y) := ⟨z.l[k], ⟨List.getElem?_eq_getElem hlt⟩⟩
                        obtain ⟨be, oe, B2, d2, B3, d3, rfl, hbe, hry, e0, e1, e2, e3⟩ := HTL.out.at (HRS.out _ _ hR.out) (i := k) (x := y) hy.out
                        have HSZ := As.mk (show w0.heap.size ≤ wr.heap.size from Nat.le_trans (by have := HSQ.out; simp; omega) hA.out.size)
                        have IY := As.mk (HF.out _ y _ _ (HMZ.out y (List.mem_of_getElem? hy.out)) hry (HRA.out _ _ (.cells #[.int .i64 y.k, .string y.s, .slice B2 y.ns.length d2, .slice B3 y.l.length d3] 25) hR.out) (by have := HSZ.out; simp; omega))
                        have hAA := As.mk (hA.out.trans (Above.alloc w0.heap.size wr (.cells #[.int .i64 y.k, .string y.s, .slice B2 y.ns.length d2, .slice B3 y.l.length d3] 25)))
                        clear hry
                        go_wp2
                        refine IY.out.mono ?_
                        rintro e w2 ⟨⟨rfl, hR2⟩ | ⟨rfl, hS2⟩, hA2⟩
                        · have HX := As.mk (And.intro (show R (E4 ++ z.l.take (k + 1)) w2 by rw [take_one hy.out, ← List.append_assoc]; exact hR2) (hAA.out.trans hA2))
                          clear hR2 hA2 IY
                          go_wp2
                          go_roundw
                          case rel => exact ⟨k + 1, by go_num, by omega, ⟨HX.out.1⟩, ⟨HX.out.2⟩⟩
                          case measure => simp [intOf]; omega
                        · have HX := As.mk hS2
                          clear hS2 hA2 IY
                          go_wp2
                          go_ret
                          exact .inr ⟨rfl, HX.out⟩
                      · obtain rfl : k = z.l.length := by omega
                        have hRz := hR.out
                        rw [List.take_length] at hRz
                        have HRz := As.mk hRz
                        clear hRz hR
                        have HX := As.mk (And.intro (show R (E3 ++ (r.ins.take (j + 1)).flatMap (·.l)) wr by rw [flatMap_take hz.out, ← List.append_assoc, hE4.out]; exact HRz.out) (hAq.out.trans ((Above.alloc _ _ _).trans hA.out)))
                        go_wp2
                        go_roundw
                        case rel => exact ⟨j + 1, by go_num, by omega, ⟨HX.out.1⟩, ⟨HX.out.2⟩⟩
                        case measure => simp [intOf]; omega
                  · obtain rfl : j = r.ins.length := by omega
                    rw [List.take_length] at HRq
                    have g1 := hAq.out.cells ⟨wp.heap.size, 1, none⟩ _ HSP.out (World.cell?_alloc_mark ..)
                    obtain ⟨E5, hE5⟩ : ∃ E5, As (E3 ++ r.ins.flatMap (·.l) = E5) := ⟨_, ⟨rfl⟩⟩
                    rw [hE5.out] at HRq
                    obtain ⟨wt, hwt⟩ : ∃ wt, wt = wq := ⟨_, rfl⟩
                    subst hwt
                    have HRt := HRq
                    have hAt := hAq
                    have HST := HSQ
                    clear HRq hAq HSQ
                    go_wp2
                    go_loopw [72] (fun i wr => ∃ k : Nat, i = .int .i64 k ∧ k ≤ r.out.length ∧ As (R (E5 ++ r.out.take k) wr) ∧ As (Above w0.heap.size wt wr)) (fun i _ => r.out.length - (intOf i).toNat)
                    case atStart => exact ⟨0, rfl, Nat.zero_le _, ⟨by rw [List.take_zero, List.append_nil]; exact HRt.out⟩, ⟨Above.refl _ _⟩⟩
                    case round =>
                      obtain ⟨k, rfl, hk, hR, hA⟩ := hrel
                      by_cases hlt : k < r.out.length
                      · obtain ⟨y, hy⟩ : ∃ y, As (r.out[k]? = some y) := ⟨r.out[k], ⟨List.getElem?_eq_getElem hlt⟩⟩
                        obtain ⟨be, oe, B2, d2, B3, d3, rfl, hbe, hry, e0, e1, e2, e3⟩ := HRO.out.at (HRS.out _ _ hR.out) (i := k) (x := y) hy.out
                        have HSZ := As.mk (show w0.heap.size ≤ wr.heap.size from Nat.le_trans HST.out hA.out.size)
                        have IY := As.mk (HF.out _ y _ _ (HMR.out y (List.mem_append_right _ (List.mem_of_getElem? hy.out))) hry (HRA.out _ _ (.cells #[.int .i64 y.k, .string y.s, .slice B2 y.ns.length d2, .slice B3 y.l.length d3] 25) hR.out) (by have := HSZ.out; simp; omega))
                        have hAA := As.mk (hA.out.trans (Above.alloc w0.heap.size wr (.cells #[.int .i64 y.k, .string y.s, .slice B2 y.ns.length d2, .slice B3 y.l.length d3] 25)))
                        clear hry
                        go_wp2
                        refine IY.out.mono ?_
                        rintro e w2 ⟨⟨rfl, hR2⟩ | ⟨rfl, hS2⟩, hA2⟩
                        · have HX := As.mk (And.intro (show R (E5 ++ r.out.take (k + 1)) w2 by rw [take_one hy.out, ← List.append_assoc]; exact hR2) (hAA.out.trans hA2))
                          clear hR2 hA2 IY
                          go_wp2
                          go_roundw
                          case rel => exact ⟨k + 1, by go_num, by omega, ⟨HX.out.1⟩, ⟨HX.out.2⟩⟩
                          case measure => simp [intOf]; omega
                        · have HX := As.mk hS2
                          clear hS2 hA2 IY
                          go_wp2
                          go_ret
                          exact .inr ⟨rfl, HX.out⟩
                      · obtain rfl : k = r.out.length := by omega
                        have hRz := hR.out
                        rw [List.take_length] at hRz
                        have HRz := As.mk hRz
                        clear hRz hR
                        have HX := As.mk (And.intro (show R (E2 ++ (x.ru.take (m + 1)).flatMap ruParts) wr by rw [flatMap_take hr.out, ruParts, ← List.append_assoc, ← List.append_assoc, hE3.out, hE5.out]; exact HRz.out) (hAp.out.trans ((Above.alloc _ _ _).trans (hAt.out.trans hA.out))))
                        go_wp2
                        go_roundw
                        case rel => exact ⟨m + 1, by go_num, by omega, ⟨HX.out.1⟩, ⟨HX.out.2⟩⟩
                        case measure => simp [intOf]; omega
              · obtain rfl : m = x.ru.length := by omega
                rw [List.take_length] at HRp
                go_wp2
                go_ret
                exact .inl ⟨rfl, by rw [Lo.parts_eq, hE.out, ← hE2.out]; exact HRp.out⟩
      · have HX := As.mk hS2
        clear hS2 hA2 IE
        go_wp2
        go_ret
        exact .inr ⟨rfl, HX.out⟩
  · rw [q0] at HHD
    obtain ⟨E, hE⟩ : ∃ E, As (x.hd = E) := ⟨_, ⟨rfl⟩⟩
    have IE := As.mk (HF.out [] x.e _ _ (Lo.mem_hd (by rw [show x.hd = [x.e] from HHD.out]; simp)) HEX.out HRW.out HSW.out)
    go_enter Tryz.func45, Tryz.ntmps45
    go_wp2
    refine IE.out.mono ?_
    rintro e w1 ⟨⟨rfl, hR2⟩ | ⟨rfl, hS2⟩, hA2⟩
    · have HRE := As.mk (show R E w1 by rw [← hE.out, show x.hd = [x.e] from HHD.out]; exact hR2)
      have HAE := As.mk hA2
      have g6 := hA2.cells ⟨w0.heap.size, 6, none⟩ _ (Nat.le_refl _) (World.cell?_alloc_mark ..)
      clear hR2 hA2 IE
      go_wp2
      clear g6
      go_loopw [33] (fun i wr => ∃ k : Nat, i = .int .i64 k ∧ k ≤ x.inp.length ∧ As (R (E ++ x.inp.take k) wr) ∧ As (Above w0.heap.size (w0.alloc (.cells #[.int .i64 x.k, .int .i64 x.e.k, .string x.e.s, .slice A3 x.e.ns.length c3, .slice A4 x.e.l.length c4, .string x.pol, .slice A6 x.inp.length c6, .slice A7 x.out.length c7, .slice A8 x.ru.length c8, .slice A9 x.ns.length c9, .slice A10 x.l.length c10] 29)) wr)) (fun i _ => x.inp.length - (intOf i).toNat)
      case atStart => exact ⟨0, rfl, Nat.zero_le _, ⟨by rw [List.take_zero, List.append_nil]; exact HRE.out⟩, HAE⟩
      case round =>
        obtain ⟨k, rfl, hk, hR, hA⟩ := hrel
        by_cases hlt : k < x.inp.length
        · obtain ⟨y, hy⟩ : ∃ y, As (x.inp[k]? = some y) := ⟨x.inp[k], ⟨List.getElem?_eq_getElem hlt⟩⟩
          obtain ⟨be, oe, B2, d2, B3, d3, rfl, hbe, hry, e0, e1, e2, e3⟩ := HR6.out.at (HRS.out _ _ hR.out) (i := k) (x := y) hy.out
          have HSZ := As.mk (show w0.heap.size ≤ wr.heap.size from Nat.le_trans HSW.out hA.out.size)
          have IY := As.mk (HF.out _ y _ _ (Lo.mem_inp (List.mem_of_getElem? hy.out)) hry (HRA.out _ _ (.cells #[.int .i64 y.k, .string y.s, .slice B2 y.ns.length d2, .slice B3 y.l.length d3] 25) hR.out) (by have := HSZ.out; simp; omega))
          have hAA := As.mk (hA.out.trans (Above.alloc w0.heap.size wr (.cells #[.int .i64 y.k, .string y.s, .slice B2 y.ns.length d2, .slice B3 y.l.length d3] 25)))
          clear hry
          go_wp2
          refine IY.out.mono ?_
          rintro e w2 ⟨⟨rfl, hR2⟩ | ⟨rfl, hS2⟩, hA2⟩
          · have HX := As.mk (And.intro (show R (E ++ x.inp.take (k + 1)) w2 by rw [take_one hy.out, ← List.append_assoc]; exact hR2) (hAA.out.trans hA2))
            clear hR2 hA2 IY
            go_wp2
            go_roundw
            case rel => exact ⟨k + 1, by go_num, by omega, ⟨HX.out.1⟩, ⟨HX.out.2⟩⟩
            case measure => simp [intOf]; omega
          · have HX := As.mk hS2
            clear hS2 hA2 IY
            go_wp2
            go_ret
            exact .inr ⟨rfl, HX.out⟩
        · obtain rfl : k = x.inp.length := by omega
          have hRz := hR.out
          rw [List.take_length] at hRz
          have HRz := As.mk hRz
          clear hRz hR
          obtain ⟨E2, hE2⟩ : ∃ E2, As (E2 = E ++ x.inp) := ⟨_, ⟨rfl⟩⟩
          have g8 := hA.out.cells ⟨w0.heap.size, 8, none⟩ _ (Nat.le_refl _) K8.out
          go_wp2
          go_loopw [45] (fun i wr => ∃ m : Nat, i = .int .i64 m ∧ m ≤ x.ru.length ∧ As (R (E2 ++ (x.ru.take m).flatMap ruParts) wr) ∧ As (Above w0.heap.size (w0.alloc (.cells #[.int .i64 x.k, .int .i64 x.e.k, .string x.e.s, .slice A3 x.e.ns.length c3, .slice A4 x.e.l.length c4, .string x.pol, .slice A6 x.inp.length c6, .slice A7 x.out.length c7, .slice A8 x.ru.length c8, .slice A9 x.ns.length c9, .slice A10 x.l.length c10] 29)) wr)) (fun i _ => x.ru.length - (intOf i).toNat)
          case atStart => exact ⟨0, rfl, Nat.zero_le _, ⟨by rw [hE2.out]; simpa using HRz.out⟩, hA⟩
          case round =>
            clear HRz hA
            obtain ⟨m, rfl, hm, HRp, hAp⟩ := hrel
            obtain ⟨wp, hwp⟩ : ∃ wp, wp = wr := ⟨_, rfl⟩
            subst hwp
            have HSP := As.mk (show w0.heap.size ≤ wp.heap.size from Nat.le_trans HSW.out hAp.out.size)
            by_cases hlt : m < x.ru.length
            · obtain ⟨r, hr⟩ : ∃ r, As (x.ru[m]? = some r) := ⟨x.ru[m], ⟨List.getElem?_eq_getElem hlt⟩⟩
              obtain ⟨br, orr, B0, d0, B1, d1, rfl, hbr, hrr, n0, n1⟩ := HR8.out.at (HRS.out _ _ HRp.out) (i := m) (x := r) hr.out
              obtain ⟨_, _, _, _, hcs, hl0, t0, hl1, t1⟩ := hrr.open
              simp only [List.cons.injEq, Value.slice.injEq, and_true, true_and] at hcs
              obtain ⟨⟨rfl, rfl⟩, rfl, rfl⟩ := hcs
              have HRI := As.mk t0
              have HRO := As.mk t1
              have hli := t0.len
              have hlo := t1.len
              have HMR := As.mk (fun y (hy : y ∈ ruParts r) => Lo.mem_rules (List.mem_of_getElem? hr.out) hy)
              obtain ⟨E3, hE3⟩ : ∃ E3, As (E2 ++ (x.ru.take m).flatMap ruParts = E3) := ⟨_, ⟨rfl⟩⟩
              rw [hE3.out] at HRp
              clear hrr t0 t1
              go_wp2
              go_loopw [52] (fun i wr => ∃ j : Nat, i = .int .i64 j ∧ j ≤ r.ins.length ∧ As (R (E3 ++ (r.ins.take j).flatMap (·.l)) wr) ∧ As (Above w0.heap.size (wp.alloc (.cells #[.slice B0 r.ins.length d0, .slice B1 r.out.length d1] 65)) wr)) (fun i _ => r.ins.length - (intOf i).toNat)
              case atStart => exact ⟨0, rfl, Nat.zero_le _, ⟨by simpa using HRA.out _ _ _ HRp.out⟩, ⟨Above.refl _ _⟩⟩
              case round =>
                obtain ⟨j, rfl, hj, HRq, hAq⟩ := hrel
                obtain ⟨wq, hwq⟩ : ∃ wq, wq = wr := ⟨_, rfl⟩
                subst hwq
                have HSQ := As.mk (show w0.heap.size ≤ wq.heap.size from Nat.le_trans (by have := HSP.out; simp; omega) hAq.out.size)
                by_cases hlt : j < r.ins.length
                · obtain ⟨z, hz⟩ : ∃ z, As (r.ins[j]? = some z) := ⟨r.ins[j], ⟨List.getElem?_eq_getElem hlt⟩⟩
                  obtain ⟨bz, oz, D2, f2, rfl, hbz, hrz, m0, m1, m2⟩ := HRI.out.at (HRS.out _ _ HRq.out) (i := j) (x := z) hz.out
                  obtain ⟨D2', f2', hcs, hl2, t2⟩ := hrz.open
                  simp only [List.cons.injEq, Value.slice.injEq, and_true, true_and] at hcs
                  obtain ⟨rfl, rfl⟩ := hcs
                  have HTL := As.mk t2
                  have hlz := t2.len
                  have HMZ := As.mk (fun y (hy : y ∈ z.l) => HMR.out y (List.mem_append_left _ (List.mem_flatMap.2 ⟨z, List.mem_of_getElem? hz.out, hy⟩)))
                  obtain ⟨E4, hE4⟩ : ∃ E4, As (E3 ++ (r.ins.take j).flatMap (·.l) = E4) := ⟨_, ⟨rfl⟩⟩
                  rw [hE4.out] at HRq
                  clear hrz t2
                  go_wp2
                  go_loopw [59] (fun i wr => ∃ k : Nat, i = .int .i64 k ∧ k ≤ z.l.length ∧ As (R (E4 ++ z.l.take k) wr) ∧ As (Above w0.heap.size (wq.alloc (.cells #[.bool z.any, .bool z.no, .slice D2 z.l.length f2] 68)) wr)) (fun i _ => z.l.length - (intOf i).toNat)
                  case atStart => exact ⟨0, rfl, Nat.zero_le _, ⟨by rw [List.take_zero, List.append_nil]; exact (HRA.out _ _ _ HRq.out)⟩, ⟨Above.refl _ _⟩⟩
                  case round =>
                    obtain ⟨k, rfl, hk, hR, hA⟩ := hrel
                    by_cases hlt : k < z.l.length
                    · obtain ⟨y, hy⟩ : ∃ y, As (z.l[k]? = some y) := ⟨z.l[k], ⟨List.getElem?_eq_getElem hlt⟩⟩
                      obtain ⟨be, oe, B2, d2, B3, d3, rfl, hbe, hry, e0, e1, e2, e3⟩ := HTL.out.at (HRS.out _ _ hR.out) (i := k) (x := y) hy.out
                      have HSZ := As.mk (show w0.heap.size ≤ wr.heap.size from Nat.le_trans (by have := HSQ.out; simp; omega) hA.out.size)
                      have IY := As.mk (HF.out _ y _ _ (HMZ.out y (List.mem_of_getElem? hy.out)) hry (HRA.out _ _ (.cells #[.int .i64 y.k, .string y.s, .slice B2 y.ns.length d2, .slice B3 y.l.length d3] 25) hR.out) (by have := HSZ.out; simp; omega))
                      have hAA := As.mk (hA.out.trans (Above.alloc w0.heap.size wr (.cells #[.int .i64 y.k, .string y.s, .slice B2 y.ns.length d2, .slice B3 y.l.length d3] 25)))
                      clear hry
                      go_wp2
                      refine IY.out.mono ?_
                      rintro e w2 ⟨⟨rfl, hR2⟩ | ⟨rfl, hS2⟩, hA2⟩
                      · have HX := As.mk (And.intro (show R (E4 ++ z.l.take (k + 1)) w2 by rw [take_one hy.out, ← List.append_assoc]; exact hR2) (hAA.out.trans hA2))
                        clear hR2 hA2 IY
                        go_wp2
                        go_roundw
                        case rel => exact ⟨k + 1, by go_num, by omega, ⟨HX.out.1⟩, ⟨HX.out.2⟩⟩
                        case measure => simp [intOf]; omega
                      · have HX := As.mk hS2
                        clear hS2 hA2 IY
                        go_wp2
                        go_ret
                        exact .inr ⟨rfl, HX.out⟩
                    · obtain rfl : k = z.l.length := by omega
                      have hRz := hR.out
                      rw [List.take_length] at hRz
                      have HRz := As.mk hRz
                      clear hRz hR
                      have HX := As.mk (And.intro (show R (E3 ++ (r.ins.take (j + 1)).flatMap (·.l)) wr by rw [flatMap_take hz.out, ← List.append_assoc, hE4.out]; exact HRz.out) (hAq.out.trans ((Above.alloc _ _ _).trans hA.out)))
                      go_wp2
                      go_roundw
                      case rel => exact ⟨j + 1, by go_num, by omega, ⟨HX.out.1⟩, ⟨HX.out.2⟩⟩
                      case measure => simp [intOf]; omega
                · obtain rfl : j = r.ins.length := by omega
                  rw [List.take_length] at HRq
                  have g1 := hAq.out.cells ⟨wp.heap.size, 1, none⟩ _ HSP.out (World.cell?_alloc_mark ..)
                  obtain ⟨E5, hE5⟩ : ∃ E5, As (E3 ++ r.ins.flatMap (·.l) = E5) := ⟨_, ⟨rfl⟩⟩
                  rw [hE5.out] at HRq
                  obtain ⟨wt, hwt⟩ : ∃ wt, wt = wq := ⟨_, rfl⟩
                  subst hwt
                  have HRt := HRq
                  have hAt := hAq
                  have HST := HSQ
                  clear HRq hAq HSQ
                  go_wp2
                  go_loopw [72] (fun i wr => ∃ k : Nat, i = .int .i64 k ∧ k ≤ r.out.length ∧ As (R (E5 ++ r.out.take k) wr) ∧ As (Above w0.heap.size wt wr)) (fun i _ => r.out.length - (intOf i).toNat)
                  case atStart => exact ⟨0, rfl, Nat.zero_le _, ⟨by rw [List.take_zero, List.append_nil]; exact HRt.out⟩, ⟨Above.refl _ _⟩⟩
                  case round =>
                    obtain ⟨k, rfl, hk, hR, hA⟩ := hrel
                    by_cases hlt : k < r.out.length
                    · obtain ⟨y, hy⟩ : ∃ y, As (r.out[k]? = some y) := ⟨r.out[k], ⟨List.getElem?_eq_getElem hlt⟩⟩
                      obtain ⟨be, oe, B2, d2, B3, d3, rfl, hbe, hry, e0, e1, e2, e3⟩ := HRO.out.at (HRS.out _ _ hR.out) (i := k) (x := y) hy.out
                      have HSZ := As.mk (show w0.heap.size ≤ wr.heap.size from Nat.le_trans HST.out hA.out.size)
                      have IY := As.mk (HF.out _ y _ _ (HMR.out y (List.mem_append_right _ (List.mem_of_getElem? hy.out))) hry (HRA.out _ _ (.cells #[.int .i64 y.k, .string y.s, .slice B2 y.ns.length d2, .slice B3 y.l.length d3] 25) hR.out) (by have := HSZ.out; simp; omega))
                      have hAA := As.mk (hA.out.trans (Above.alloc w0.heap.size wr (.cells #[.int .i64 y.k, .string y.s, .slice B2 y.ns.length d2, .slice B3 y.l.length d3] 25)))
                      clear hry
                      go_wp2
                      refine IY.out.mono ?_
                      rintro e w2 ⟨⟨rfl, hR2⟩ | ⟨rfl, hS2⟩, hA2⟩
                      · have HX := As.mk (And.intro (show R (E5 ++ r.out.take (k + 1)) w2 by rw [take_one hy.out, ← List.append_assoc]; exact hR2) (hAA.out.trans hA2))
                        clear hR2 hA2 IY
                        go_wp2
                        go_roundw
                        case rel => exact ⟨k + 1, by go_num, by omega, ⟨HX.out.1⟩, ⟨HX.out.2⟩⟩
                        case measure => simp [intOf]; omega
                      · have HX := As.mk hS2
                        clear hS2 hA2 IY
                        go_wp2
                        go_ret
                        exact .inr ⟨rfl, HX.out⟩
                    · obtain rfl : k = r.out.length := by omega
                      have hRz := hR.out
                      rw [List.take_length] at hRz
                      have HRz := As.mk hRz
                      clear hRz hR
                      have HX := As.mk (And.intro (show R (E2 ++ (x.ru.take (m + 1)).flatMap ruParts) wr by rw [flatMap_take hr.out, ruParts, ← List.append_assoc, ← List.append_assoc, hE3.out, hE5.out]; exact HRz.out) (hAp.out.trans ((Above.alloc _ _ _).trans (hAt.out.trans hA.out))))
                      go_wp2
                      go_roundw
                      case rel => exact ⟨m + 1, by go_num, by omega, ⟨HX.out.1⟩, ⟨HX.out.2⟩⟩
                      case measure => simp [intOf]; omega
            · obtain rfl : m = x.ru.length := by omega
              rw [List.take_length] at HRp
              go_wp2
              go_ret
              exact .inl ⟨rfl, by rw [Lo.parts_eq, hE.out, ← hE2.out]; exact HRp.out⟩
    · have HX := As.mk hS2
      clear hS2 hA2 IE
      go_wp2
      go_ret
      exact .inr ⟨rfl, HX.out⟩
end Go.Proofs.YtainigjbjfpoaaaGreatDoor
