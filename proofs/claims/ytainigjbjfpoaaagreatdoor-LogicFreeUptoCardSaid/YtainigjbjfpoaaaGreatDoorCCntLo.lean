/- tipstaveref15.Count: up to a bound. Printed by wip/tools/gen_cntlo.py (own tool). -/
import Derived.Test.YtainigjbjfpoaaaGreatDoorCCnt
import Derived.Deep.RegionHeld3
namespace Go.Proofs.YtainigjbjfpoaaaGreatDoor
open Go.RowKit Go.Shelf Go.Maps

theorem wt_bare (l : List Ex) : Ex.wt ⟨0, ⟨#[]⟩, [], l⟩ = 1 + (l.map Ex.wt).sum := by
  rw [Ex.wt_eq]
  show 1 + 0 + 0 + (l.map Ex.wt).sum = _
  omega
theorem bareEx_rep {P : Pers} {l : List Ex} {A3 : Option Addr} {c3 : Nat} (h3 : l.length ≤ c3) (r3 : Exs P A3 l) : Ex.Rep P ⟨0, ⟨#[]⟩, [], l⟩ [.int .i64 0, .string ⟨#[]⟩, .slice none 0 0, .slice A3 l.length c3] :=
  Ex.Rep.shut ⟨0, ⟨#[]⟩, [], l⟩ (A2 := none) (c2 := 0) (Nat.le_refl _) (Row.nil _ _ _ _) h3 r3 (show 0 ≤ maxStr from Nat.zero_le _) (show inI64 0 by unfold inI64; omega)
theorem len_le_sum {α : Type} {f : α → Nat} (h : ∀ a, 1 ≤ f a) : ∀ l : List α, l.length ≤ (l.map f).sum
  | [] => Nat.le_refl _
  | a :: l => by
    have h1 := h a
    have h2 := len_le_sum h l
    simp only [List.length_cons, List.map_cons, List.sum_cons]
    omega
theorem sum_twice {α : Type} (f : α → Nat) : ∀ l : List α, (l.map fun a => 2 * f a).sum = 2 * (l.map f).sum
  | [] => rfl
  | a :: l => by simp only [List.map_cons, List.sum_cons, sum_twice f l]; omega
theorem keepN {W0 : World} {P : Pers} {n b : Nat} {L : List Value} {W W' : World} (hb : Below W.heap.size W W') (h : ∀ j v, L[j]? = some v → W.cell? ⟨b, j, none⟩ = some v) (hB : Below n W0 W) (hn : n ≤ W.heap.size) (hs : Sat P W) :
    (∀ j v, L[j]? = some v → W'.cell? ⟨b, j, none⟩ = some v) ∧ Below n W0 W' ∧ Sat P W' := ⟨fun j v hj => Cells.below hb _ _ (h j v hj), hB.trans (hb.mono hn), hs.below hb⟩

set_option maxRecDepth 100000 in
set_option maxHeartbeats 8000000 in
theorem cntLo_calls (P : Pers) : ∀ (m : Nat) (x : Lo) (cs : List Value) (most : Int) (w : World), x.sz ≤ m → x.wt ≤ 549755813888 → 0 ≤ most → most ≤ 4611686018427387904 → Lo.Rep P x cs → Sat P w →
    Calls Tryz.prog 25 #[.agg cs.toArray, .int .i64 most] w fun e w' => (∃ n : Nat, e = .returned (.int .i64 n) ∧ n ≤ 2 * x.wt ∧ (0 ≤ most → (n : Int) ≤ most → x.wt ≤ n)) ∧ Below w.heap.size w w' := by
  intro m
  induction m with
  | zero => intro x cs most w h; cases x; simp [Lo.sz] at h
  | succ m ih =>
    intro x cs most w hn hwt hm0 hm1 hx hs
    have IH := As.mk (fun (y : Lo) (hy : y ∈ x.l) cs (mo : Int) w h0 h1 => ih y cs mo w (by have := Lo.lt_of_mem hy; omega) (by have := le_sum_of_mem Lo.wt hy; rw [Lo.wt_eq] at hwt; omega) h0 h1)
    have HTL := As.mk (Lo.wt_eq x)
    have HRT := As.mk (show (x.ru.map Ru.wt).sum ≤ 549755813888 by have h1 := HTL.out; omega)
    have HTU := As.mk (show 1 + x.pol.size + x.e.wt + (x.inp.map Ex.wt).sum + (x.out.map (fun s : ByteArray => s.size + 1)).sum + (x.ns.map (fun s : ByteArray => s.size + 1)).sum + (x.ru.map (fun r : Ru => 2 * Ru.wt r)).sum + (x.l.map (fun l : Lo => 2 * Lo.wt l)).sum ≤ 2 * x.wt by have h1 := HTL.out; rw [sum_twice, sum_twice]; unfold strsW at h1; omega)
    have HWB := As.mk (show 1 + x.pol.size + x.e.wt + (x.inp.map Ex.wt).sum + (x.out.map (fun s : ByteArray => s.size + 1)).sum + (x.ns.map (fun s : ByteArray => s.size + 1)).sum + (x.ru.map (fun r : Ru => 2 * Ru.wt r)).sum + (x.l.map (fun l : Lo => 2 * Lo.wt l)).sum ≤ 1099511627776 by have h1 := HTU.out; omega)
    obtain ⟨A3, c3, A4, c4, A6, c6, A7, c7, A8, c8, A9, c9, A10, c10, rfl, l3, r3, l4, r4, l6, r6, l7, r7, l8, r8, l9, r9, l10, r10, z2, z5, zk, zk2⟩ := hx.open
    have HEX := As.mk (Lo.ex l3 r3 l4 r4 z2 zk2)
    have HR6 := As.mk r6
    have HR7 := As.mk r7
    have HR8 := As.mk r8
    have HR9 := As.mk r9
    have HR10 := As.mk r10
    have hl6 := r6.len
    have hl7 := r7.len
    have hl8 := r8.len
    have hl9 := r9.len
    have hl10 := r10.len
    have HS := As.mk (hs.alloc (.cells #[.int .i64 x.k, .int .i64 x.e.k, .string x.e.s, .slice A3 x.e.ns.length c3, .slice A4 x.e.l.length c4, .string x.pol, .slice A6 x.inp.length c6, .slice A7 x.out.length c7, .slice A8 x.ru.length c8, .slice A9 x.ns.length c9, .slice A10 x.l.length c10] 29))
    have HB := As.mk ((Below.refl _ w).alloc (Nat.le_refl _) (.cells #[.int .i64 x.k, .int .i64 x.e.k, .string x.e.s, .slice A3 x.e.ns.length c3, .slice A4 x.e.l.length c4, .string x.pol, .slice A6 x.inp.length c6, .slice A7 x.out.length c7, .slice A8 x.ru.length c8, .slice A9 x.ns.length c9, .slice A10 x.l.length c10] 29))
    have HC : As (∀ j v, [.int .i64 x.k, .int .i64 x.e.k, .string x.e.s, .slice A3 x.e.ns.length c3, .slice A4 x.e.l.length c4, .string x.pol, .slice A6 x.inp.length c6, .slice A7 x.out.length c7, .slice A8 x.ru.length c8, .slice A9 x.ns.length c9, .slice A10 x.l.length c10][j]? = some v → (w.alloc (.cells #[.int .i64 x.k, .int .i64 x.e.k, .string x.e.s, .slice A3 x.e.ns.length c3, .slice A4 x.e.l.length c4, .string x.pol, .slice A6 x.inp.length c6, .slice A7 x.out.length c7, .slice A8 x.ru.length c8, .slice A9 x.ns.length c9, .slice A10 x.l.length c10] 29)).cell? ⟨w.heap.size, j, none⟩ = some v) := ⟨fun j v hj => (World.cell?_alloc_mark ..).trans (by simpa using hj)⟩
    have IE := As.mk (fun W hs => cost_calls P x.e _ most W (by have h1 := HTL.out; omega) (by unfold inI64; omega) hm1 HEX.out hs)
    have hpz : x.pol.size ≤ 1073741824 := z5
    have hw0 : IntKind.i64.wrap (1 + (x.pol.size : Int)) = 1 + (x.pol.size : Int) := IntWalk.i64_in _ (by omega)
    clear hx hs r3 r4 r6 r7 r8 r9 r10 ih zk zk2 hwt z5 z2
    go_enter Tryz.func25, Tryz.ntmps25
    go_wp2_with fail
    have c0 := HC.out
    have b0 := HB.out
    have s0 := HS.out
    go_region_held3 (fun W => (∀ j v, [.int .i64 x.k, .int .i64 x.e.k, .string x.e.s, .slice A3 x.e.ns.length c3, .slice A4 x.e.l.length c4, .string x.pol, .slice A6 x.inp.length c6, .slice A7 x.out.length c7, .slice A8 x.ru.length c8, .slice A9 x.ns.length c9, .slice A10 x.l.length c10][j]? = some v → W.cell? ⟨w.heap.size, j, none⟩ = some v) ∧ Below w.heap.size w W ∧ Sat P W)
      (first
        | exact ⟨c0, b0.drew, s0.drew⟩
        | (go_split_ands
           first
             | (refine ⟨?_, ?_, ?_⟩ <;> assumption)
             | exact keepN hb5 (by assumption) (by assumption) (Below.size (by assumption)) (by assumption)))
      (first
        | (go_at_call 59; refine (IE.out _ (by go_split_ands; assumption)).mono ?_; rintro e w5 ⟨⟨c, rfl, hcU, hcL⟩, hb5⟩; have hw9 : IntKind.i64.wrap (1 + (x.pol.size : Int) + (c : Int)) = 1 + (x.pol.size : Int) + (c : Int) := IntWalk.i64_in _ (by have h1 := HWB.out; omega)))
    rename_i hh
    obtain ⟨C1, B1, S1⟩ := hh
    clear HC HB HS c0 b0 s0
    have HC := As.mk C1
    have HB := As.mk B1
    have HS := As.mk S1
    obtain ⟨n, hn0⟩ : ∃ n : Nat, n = 1 + x.pol.size + c := ⟨_, rfl⟩
    have HN0 := As.mk hn0
    have HU := As.mk (show n ≤ 1 + x.pol.size + x.e.wt by omega)
    have HL := As.mk (show (n : Int) ≤ most → 1 + x.pol.size + x.e.wt ≤ n from fun h => by have := hcL hm0 (by omega); omega)
    clear C1 B1 S1 hcU hcL hb5 hn0 hw9 hw0
    go_wp2
    go_loopw [5, 6] (fun nv i wr => ∃ n k : Nat, nv = .int .i64 n ∧ i = .int .i64 k ∧ k ≤ x.inp.length ∧ As (∀ j v, [.int .i64 x.k, .int .i64 x.e.k, .string x.e.s, .slice A3 x.e.ns.length c3, .slice A4 x.e.l.length c4, .string x.pol, .slice A6 x.inp.length c6, .slice A7 x.out.length c7, .slice A8 x.ru.length c8, .slice A9 x.ns.length c9, .slice A10 x.l.length c10][j]? = some v → wr.cell? ⟨w.heap.size, j, none⟩ = some v) ∧ As (Below w.heap.size w wr) ∧ As (Sat P wr) ∧ As (n ≤ 1 + x.pol.size + x.e.wt + ((x.inp.take k).map (Ex.wt)).sum) ∧ As ((n : Int) ≤ most → 1 + x.pol.size + x.e.wt + ((x.inp.take k).map (Ex.wt)).sum ≤ n)) (fun _ i _ => x.inp.length - (intOf i).toNat)
    case atStart => exact ⟨n, 0, by rw [HN0.out]; simp, rfl, Nat.zero_le _, HC, HB, HS, ⟨by have := HU.out; simp; omega⟩, ⟨fun h => by have := HL.out h; simp; omega⟩⟩
    case round =>
      clear HC HB HS HU HL
      obtain ⟨n, k, rfl, rfl, hk, hC, hB, hS, hU, hL⟩ := hrel
      have q6 := hC.out 6 _ rfl
      have hnb : n ≤ 1099511627776 := by have h1 := hU.out; have h2 := HWB.out; have h3 := sum_take_le (Ex.wt) x.inp k; omega
      by_cases hlt : k < x.inp.length
      · by_cases hm : (n : Int) ≤ most
        · obtain ⟨y, hy⟩ : ∃ y, As (x.inp[k]? = some y) := ⟨x.inp[k], ⟨List.getElem?_eq_getElem hlt⟩⟩
          obtain ⟨be, oe, B2, d2, B3, d3, rfl, hbe, hry, e0, e1, e2, e3⟩ := HR6.out.at hS.out (i := k) (x := y) hy.out
          have hym : y ∈ x.inp := List.mem_of_getElem? hy.out
          have hwr : IntKind.i64.wrap (most - (n : Int)) = most - (n : Int) := IntWalk.i64_in _ (by omega)
          have hd1 : decide ((n : Int) ≤ most) = true := decide_eq_true hm
          have IY := As.mk (cost_calls P y _ (most - (n : Int)) wr (by have h1 := le_sum_of_mem Ex.wt hym; have h2 := HWB.out; omega) (by unfold inI64; omega) (by omega) hry hS.out)
          have HS1 := As.mk (sum_take_succ (Ex.wt) hy.out)
          have HS2 := As.mk (sum_take_succ (Ex.wt) hy.out)
          have HS3 := As.mk (sum_take_le (Ex.wt) x.inp (k + 1))
          clear hry
          go_wp2_with (go_at_call 59; refine IY.out.mono ?_; rintro e w2 ⟨⟨c, rfl, hcU, hcL⟩, hb2⟩; have hcb : n + c ≤ 1099511627776 := (by have h1 := hU.out; have h2 := HWB.out; have h4 := HS2.out; have h5 := HS3.out; omega); have hw2 : IntKind.i64.wrap ((n : Int) + (c : Int)) = (n : Int) + (c : Int) := IntWalk.i64_in _ (by omega); have HX := As.mk (And.intro (fun j v h => (bcell hb2 _ _ (World.block_lt_of_cell? _ _ (hC.out j v h))).trans (hC.out j v h)) (And.intro (hB.out.trans (hb2.mono hB.out.size)) (hS.out.below hb2))); have HXU := As.mk hcU; have HXL := As.mk hcL; clear hb2 hcU hcL)
          go_roundw
          case rel => exact ⟨n + c, k + 1, by simp, by go_num, by omega, ⟨HX.out.1⟩, ⟨HX.out.2.1⟩, ⟨HX.out.2.2⟩, ⟨by rw [HS2.out]; have h1 := hU.out; have h2 := HXU.out; omega⟩, ⟨fun h => by rw [HS1.out]; have h1 := hL.out (by omega); have h2 := HXL.out (by omega) (by omega); omega⟩⟩
          case measure => simp [intOf]; omega
        · have hd1 : decide ((n : Int) ≤ most) = false := decide_eq_false hm
          have hd2 : decide (most < (n : Int)) = true := decide_eq_true (by omega)
          have HC := hC
          have HB := hB
          have HS := hS
          have hsl := sum_take_le (Ex.wt) x.inp k
          have HU := As.mk (show n ≤ 1 + x.pol.size + x.e.wt + (x.inp.map (Ex.wt)).sum by have h1 := hU.out; omega)
          have HL := As.mk (show (n : Int) ≤ most → 1 + x.pol.size + x.e.wt + (x.inp.map (Ex.wt)).sum ≤ n from fun h => absurd h hm)
          clear hU hL hC hB hS hsl
          go_wp2
          go_loopw [5, 7] (fun nv i wr => ∃ n k : Nat, nv = .int .i64 n ∧ i = .int .i64 k ∧ k ≤ x.out.length ∧ As (∀ j v, [.int .i64 x.k, .int .i64 x.e.k, .string x.e.s, .slice A3 x.e.ns.length c3, .slice A4 x.e.l.length c4, .string x.pol, .slice A6 x.inp.length c6, .slice A7 x.out.length c7, .slice A8 x.ru.length c8, .slice A9 x.ns.length c9, .slice A10 x.l.length c10][j]? = some v → wr.cell? ⟨w.heap.size, j, none⟩ = some v) ∧ As (Below w.heap.size w wr) ∧ As (Sat P wr) ∧ As (n ≤ 1 + x.pol.size + x.e.wt + (x.inp.map Ex.wt).sum + ((x.out.take k).map (fun s : ByteArray => s.size + 1)).sum) ∧ As ((n : Int) ≤ most → 1 + x.pol.size + x.e.wt + (x.inp.map Ex.wt).sum + ((x.out.take k).map (fun s : ByteArray => s.size + 1)).sum ≤ n)) (fun _ i _ => x.out.length - (intOf i).toNat)
          case atStart => exact ⟨n, 0, rfl, rfl, Nat.zero_le _, HC, HB, HS, ⟨by have := HU.out; simp; omega⟩, ⟨fun h => by have := HL.out h; simp; omega⟩⟩
          case round =>
            clear HC HB HS HU HL
            obtain ⟨n, k, rfl, rfl, hk, hC, hB, hS, hU, hL⟩ := hrel
            have q7 := hC.out 7 _ rfl
            have hnb : n ≤ 1099511627776 := by have h1 := hU.out; have h2 := HWB.out; have h3 := sum_take_le (fun s : ByteArray => s.size + 1) x.out k; unfold strsW at h2; omega
            by_cases hlt : k < x.out.length
            · obtain ⟨s, hs⟩ : ∃ s, As (x.out[k]? = some s) := ⟨x.out[k], ⟨List.getElem?_eq_getElem hlt⟩⟩
              obtain ⟨b2, o2, rfl, hp, hsz⟩ := Row.str HR7.out hs.out
              have hcs := hS.out _ _ hp
              have hsz2 : s.size ≤ 1073741824 := hsz
              have HS1 := As.mk (sum_take_succ (fun s : ByteArray => s.size + 1) hs.out)
              have hw1 : IntKind.i64.wrap (1 + (s.size : Int)) = 1 + (s.size : Int) := IntWalk.i64_in _ (by omega)
              have hw2 : IntKind.i64.wrap ((n : Int) + (1 + (s.size : Int))) = (n : Int) + (1 + (s.size : Int)) := IntWalk.i64_in _ (by omega)
              clear hp hsz
              go_wp2
              go_roundw
              case rel => exact ⟨n + (s.size + 1), k + 1, by simp; omega, by go_num, by omega, hC, hB, hS, ⟨by rw [HS1.out]; have h1 := hU.out; omega⟩, ⟨fun h => by rw [HS1.out]; have h1 := hL.out (by omega); omega⟩⟩
              case measure => simp [intOf]; omega
            · obtain rfl : k = x.out.length := by omega
              have hU2 := hU.out
              have hL2 := hL.out
              rw [List.take_length] at hU2 hL2
              have HC := hC
              have HB := hB
              have HS := hS
              have HU := As.mk hU2
              have HL := As.mk hL2
              clear hU hL hU2 hL2 hC hB hS
              go_wp2
              go_loopw [5, 8] (fun nv i wr => ∃ n k : Nat, nv = .int .i64 n ∧ i = .int .i64 k ∧ k ≤ x.ns.length ∧ As (∀ j v, [.int .i64 x.k, .int .i64 x.e.k, .string x.e.s, .slice A3 x.e.ns.length c3, .slice A4 x.e.l.length c4, .string x.pol, .slice A6 x.inp.length c6, .slice A7 x.out.length c7, .slice A8 x.ru.length c8, .slice A9 x.ns.length c9, .slice A10 x.l.length c10][j]? = some v → wr.cell? ⟨w.heap.size, j, none⟩ = some v) ∧ As (Below w.heap.size w wr) ∧ As (Sat P wr) ∧ As (n ≤ 1 + x.pol.size + x.e.wt + (x.inp.map Ex.wt).sum + (x.out.map (fun s : ByteArray => s.size + 1)).sum + ((x.ns.take k).map (fun s : ByteArray => s.size + 1)).sum) ∧ As ((n : Int) ≤ most → 1 + x.pol.size + x.e.wt + (x.inp.map Ex.wt).sum + (x.out.map (fun s : ByteArray => s.size + 1)).sum + ((x.ns.take k).map (fun s : ByteArray => s.size + 1)).sum ≤ n)) (fun _ i _ => x.ns.length - (intOf i).toNat)
              case atStart => exact ⟨n, 0, rfl, rfl, Nat.zero_le _, HC, HB, HS, ⟨by have := HU.out; simp; omega⟩, ⟨fun h => by have := HL.out h; simp; omega⟩⟩
              case round =>
                clear HC HB HS HU HL
                obtain ⟨n, k, rfl, rfl, hk, hC, hB, hS, hU, hL⟩ := hrel
                have q9 := hC.out 9 _ rfl
                have hnb : n ≤ 1099511627776 := by have h1 := hU.out; have h2 := HWB.out; have h3 := sum_take_le (fun s : ByteArray => s.size + 1) x.ns k; unfold strsW at h2; omega
                by_cases hlt : k < x.ns.length
                · obtain ⟨s, hs⟩ : ∃ s, As (x.ns[k]? = some s) := ⟨x.ns[k], ⟨List.getElem?_eq_getElem hlt⟩⟩
                  obtain ⟨b2, o2, rfl, hp, hsz⟩ := Row.str HR9.out hs.out
                  have hcs := hS.out _ _ hp
                  have hsz2 : s.size ≤ 1073741824 := hsz
                  have HS1 := As.mk (sum_take_succ (fun s : ByteArray => s.size + 1) hs.out)
                  have hw1 : IntKind.i64.wrap (1 + (s.size : Int)) = 1 + (s.size : Int) := IntWalk.i64_in _ (by omega)
                  have hw2 : IntKind.i64.wrap ((n : Int) + (1 + (s.size : Int))) = (n : Int) + (1 + (s.size : Int)) := IntWalk.i64_in _ (by omega)
                  clear hp hsz
                  go_wp2
                  go_roundw
                  case rel => exact ⟨n + (s.size + 1), k + 1, by simp; omega, by go_num, by omega, hC, hB, hS, ⟨by rw [HS1.out]; have h1 := hU.out; omega⟩, ⟨fun h => by rw [HS1.out]; have h1 := hL.out (by omega); omega⟩⟩
                  case measure => simp [intOf]; omega
                · obtain rfl : k = x.ns.length := by omega
                  have hU2 := hU.out
                  have hL2 := hL.out
                  rw [List.take_length] at hU2 hL2
                  have HC := hC
                  have HB := hB
                  have HS := hS
                  have HU := As.mk hU2
                  have HL := As.mk hL2
                  clear hU hL hU2 hL2 hC hB hS
                  go_wp2
                  go_loopw [5, 9] (fun nv i wr => ∃ n k : Nat, nv = .int .i64 n ∧ i = .int .i64 k ∧ k ≤ x.ru.length ∧ As (∀ j v, [.int .i64 x.k, .int .i64 x.e.k, .string x.e.s, .slice A3 x.e.ns.length c3, .slice A4 x.e.l.length c4, .string x.pol, .slice A6 x.inp.length c6, .slice A7 x.out.length c7, .slice A8 x.ru.length c8, .slice A9 x.ns.length c9, .slice A10 x.l.length c10][j]? = some v → wr.cell? ⟨w.heap.size, j, none⟩ = some v) ∧ As (Below w.heap.size w wr) ∧ As (Sat P wr) ∧ As (n ≤ 1 + x.pol.size + x.e.wt + (x.inp.map Ex.wt).sum + (x.out.map (fun s : ByteArray => s.size + 1)).sum + (x.ns.map (fun s : ByteArray => s.size + 1)).sum + ((x.ru.take k).map (fun r : Ru => 2 * Ru.wt r)).sum) ∧ As ((n : Int) ≤ most → 1 + x.pol.size + x.e.wt + (x.inp.map Ex.wt).sum + (x.out.map (fun s : ByteArray => s.size + 1)).sum + (x.ns.map (fun s : ByteArray => s.size + 1)).sum + ((x.ru.take k).map (Ru.wt)).sum ≤ n)) (fun _ i _ => x.ru.length - (intOf i).toNat)
                  case atStart => exact ⟨n, 0, rfl, rfl, Nat.zero_le _, HC, HB, HS, ⟨by have := HU.out; simp; omega⟩, ⟨fun h => by have := HL.out h; simp; omega⟩⟩
                  case round =>
                    clear HC HB HS HU HL
                    obtain ⟨n, k, rfl, rfl, hk, hC, hB, hS, hU, hL⟩ := hrel
                    have q8 := hC.out 8 _ rfl
                    have hnb : n ≤ 1099511627776 := by have h1 := hU.out; have h2 := HWB.out; have h3 := sum_take_le (fun r : Ru => 2 * Ru.wt r) x.ru k; omega
                    by_cases hlt : k < x.ru.length
                    · by_cases hm : (n : Int) ≤ most
                      · obtain ⟨r, hr⟩ : ∃ r, As (x.ru[k]? = some r) := ⟨x.ru[k], ⟨List.getElem?_eq_getElem hlt⟩⟩
                        obtain ⟨br, orr, csr, rfl, hrr, hpr⟩ := Row.get HR8.out hr.out (fun cs h => by obtain ⟨_, _, _, _, rfl, _⟩ := Ru.Rep.open h; simp)
                        obtain ⟨B0, d0, B1, d1, rfl, hl0, t0, hl1, t1⟩ := hrr.open
                        have HP := As.mk hpr
                        have HRI := As.mk t0
                        have HRO := As.mk t1
                        have hli := t0.len
                        have hlo := t1.len
                        have n0 : wr.cell? ⟨br, orr + k * 2, none⟩ = some (.slice B0 r.ins.length d0) := hS.out _ _ (HP.out 0 _ rfl)
                        have hd1 : decide ((n : Int) ≤ most) = true := decide_eq_true hm
                        have HRW := As.mk (show Ru.wt r ≤ 549755813888 by have h1 := le_sum_of_mem Ru.wt (List.mem_of_getElem? hr.out); have h2 := HRT.out; omega)
                        have hnl : r.ins.length ≤ (r.ins.map Te.wt).sum := len_le_sum (fun t => by unfold Te.wt; omega) r.ins
                        have HRW3 := As.mk (show Ru.wt r = 1 + (r.ins.map Te.wt).sum + (r.out.map Ex.wt).sum from rfl)
                        have HRW2 := As.mk (show 1 + r.ins.length + (r.ins.map Te.wt).sum + (1 + (r.out.map Ex.wt).sum) ≤ 2 * Ru.wt r by rw [HRW3.out]; omega)
                        have HS2' := As.mk (sum_take_succ (fun r : Ru => 2 * Ru.wt r) hr.out)
                        have HS3' := As.mk (sum_take_le (fun r : Ru => 2 * Ru.wt r) x.ru (k + 1))
                        have hnn : n + 2 * Ru.wt r ≤ 1099511627776 := by have h1 := hU.out; have h2 := HWB.out; have h4 := HS2'.out; have h5 := HS3'.out; omega
                        have hw1 : IntKind.i64.wrap (1 + (r.ins.length : Int)) = 1 + (r.ins.length : Int) := IntWalk.i64_in _ (by omega)
                        have hw2 : IntKind.i64.wrap ((n : Int) + (1 + (r.ins.length : Int))) = (n : Int) + (1 + (r.ins.length : Int)) := IntWalk.i64_in _ (by omega)
                        clear hrr hpr t0 t1
                        go_wp2
                        go_loopw [5, 10] (fun nv i wr => ∃ n2 j : Nat, nv = .int .i64 n2 ∧ i = .int .i64 j ∧ j ≤ r.ins.length ∧ As (∀ j v, [.int .i64 x.k, .int .i64 x.e.k, .string x.e.s, .slice A3 x.e.ns.length c3, .slice A4 x.e.l.length c4, .string x.pol, .slice A6 x.inp.length c6, .slice A7 x.out.length c7, .slice (some ⟨br, orr, none⟩) x.ru.length c8, .slice A9 x.ns.length c9, .slice A10 x.l.length c10][j]? = some v → wr.cell? ⟨w.heap.size, j, none⟩ = some v) ∧ As (Below w.heap.size w wr) ∧ As (Sat P wr) ∧ As (n2 ≤ n + 1 + r.ins.length + ((r.ins.take j).map Te.wt).sum) ∧ As ((n2 : Int) ≤ most → 1 + x.pol.size + x.e.wt + (x.inp.map Ex.wt).sum + (x.out.map (fun s : ByteArray => s.size + 1)).sum + (x.ns.map (fun s : ByteArray => s.size + 1)).sum + ((x.ru.take k).map (Ru.wt)).sum + 1 + ((r.ins.take j).map Te.wt).sum ≤ n2)) (fun _ i _ => r.ins.length - (intOf i).toNat)
                        case atStart => exact ⟨n + (1 + r.ins.length), 0, by simp, rfl, Nat.zero_le _, hC, hB, hS, ⟨by rw [List.take_zero]; simp only [List.map_nil, List.sum_nil]; omega⟩, ⟨fun h => by have h1 := hL.out hm; rw [List.take_zero]; simp only [List.map_nil, List.sum_nil]; omega⟩⟩
                        case round =>
                          obtain ⟨n2, j, rfl, rfl, hj, hCq, hBq, hSq, hUq, hLq⟩ := hrel
                          have p8 := hCq.out 8 _ rfl
                          have p0 : wr.cell? ⟨br, orr + k * 2, none⟩ = some (.slice B0 r.ins.length d0) := hSq.out _ _ (HP.out 0 _ rfl)
                          have hjs := sum_take_le Te.wt r.ins j
                          have hnb2 : n2 ≤ 1099511627776 := by have h1 := hUq.out; have h3 := HRW2.out; omega
                          by_cases hltj : j < r.ins.length
                          · by_cases hm2 : (n2 : Int) ≤ most
                            · obtain ⟨z, hz⟩ : ∃ z, As (r.ins[j]? = some z) := ⟨r.ins[j], ⟨List.getElem?_eq_getElem hltj⟩⟩
                              obtain ⟨bz, oz, D2, f2, rfl, hbz, hrz, m0, m1, m2⟩ := HRI.out.at hSq.out (i := j) (x := z) hz.out
                              obtain ⟨D2', f2', hcs, hl2, t2⟩ := hrz.open
                              simp only [List.cons.injEq, Value.slice.injEq, and_true, true_and] at hcs
                              obtain ⟨rfl, rfl⟩ := hcs
                              have hd3 : decide ((n2 : Int) ≤ most) = true := decide_eq_true hm2
                              have hwr2 : IntKind.i64.wrap (most - (n2 : Int)) = most - (n2 : Int) := IntWalk.i64_in _ (by omega)
                              have HZE := As.mk (show (Ex.wt ⟨0, ⟨#[]⟩, [], z.l⟩) = Te.wt z from wt_bare _)
                              have HT1 := As.mk (sum_take_succ (Te.wt) hz.out)
                              have HT2 := As.mk (sum_take_le (Te.wt) r.ins (j + 1))
                              have IZ := As.mk (cost_calls P ⟨0, ⟨#[]⟩, [], z.l⟩ _ (most - (n2 : Int)) wr (by rw [HZE.out]; have h1 := HT1.out; have h2 := HT2.out; have h3 := HRW3.out; have h4 := HRW.out; omega) (by unfold inI64; omega) (by omega) (bareEx_rep hl2 t2) hSq.out)
                              clear hrz t2 hjs
                              go_wp2_with (go_at_call 59; refine IZ.out.mono ?_; rintro e w2 ⟨⟨c, rfl, hcU, hcL⟩, hb2⟩; have hcb : n2 + c ≤ 1099511627776 := (by have h1 := hUq.out; have h3 := HRW2.out; have h4 := HT1.out; have h5 := HT2.out; have h6 := HZE.out; omega); have hw5 : IntKind.i64.wrap ((n2 : Int) + (c : Int)) = (n2 : Int) + (c : Int) := IntWalk.i64_in _ (by omega); have HX := As.mk (And.intro (fun j v h => (bcell hb2 _ _ (World.block_lt_of_cell? _ _ (hCq.out j v h))).trans (hCq.out j v h)) (And.intro (hBq.out.trans (hb2.mono hBq.out.size)) (hSq.out.below hb2))); have HXU := As.mk hcU; have HXL := As.mk hcL; clear hb2 hcU hcL)
                              go_roundw
                              case rel => exact ⟨n2 + c, j + 1, by simp, by go_num, by omega, ⟨HX.out.1⟩, ⟨HX.out.2.1⟩, ⟨HX.out.2.2⟩, ⟨by rw [HT1.out]; have h1 := hUq.out; have h2 := HXU.out; have h6 := HZE.out; omega⟩, ⟨fun h => by rw [HT1.out]; have h1 := hLq.out (by omega); have h2 := HXL.out (by omega) (by omega); have h6 := HZE.out; omega⟩⟩
                              case measure => simp [intOf]; omega
                            · have hd3 : decide ((n2 : Int) ≤ most) = false := decide_eq_false hm2
                              have hUq2 := hUq.out
                              replace hUq := As.mk (show n2 ≤ n + 1 + r.ins.length + (r.ins.map Te.wt).sum by omega)
                              replace hLq := As.mk (show (n2 : Int) ≤ most → 1 + x.pol.size + x.e.wt + (x.inp.map Ex.wt).sum + (x.out.map (fun s : ByteArray => s.size + 1)).sum + (x.ns.map (fun s : ByteArray => s.size + 1)).sum + ((x.ru.take k).map (Ru.wt)).sum + 1 + (r.ins.map Te.wt).sum ≤ n2 from fun h => absurd h hm2)
                              clear hUq2 hjs p8 p0
                              have p8 := hCq.out 8 _ rfl
                              have p0 : wr.cell? ⟨br, orr + k * 2, none⟩ = some (.slice B0 r.ins.length d0) := hSq.out _ _ (HP.out 0 _ rfl)
                              have hwr2 : IntKind.i64.wrap (most - (n2 : Int)) = most - (n2 : Int) := IntWalk.i64_in _ (by omega)
                              have IU := As.mk (cost_calls P ⟨0, ⟨#[]⟩, [], r.out⟩ _ (most - (n2 : Int)) wr (by rw [wt_bare]; have h1 := HRW.out; have h2 := HRW3.out; omega) (by unfold inI64; omega) (by omega) (bareEx_rep hl1 HRO.out) hSq.out)
                              have p1 := hSq.out _ _ (HP.out 1 _ rfl)
                              have HS1 := As.mk (sum_take_succ (Ru.wt) hr.out)
                              have HS2 := As.mk (sum_take_succ (fun r : Ru => 2 * Ru.wt r) hr.out)
                              have HS3 := As.mk (sum_take_le (fun r : Ru => 2 * Ru.wt r) x.ru (k + 1))
                              go_wp2_with (go_at_call 59; refine IU.out.mono ?_; rintro e w2 ⟨⟨c, rfl, hcU, hcL⟩, hb2⟩; have HCE := As.mk (wt_bare r.out); have hcb : n2 + c ≤ 1099511627776 := (by have h1 := hUq.out; have h2 := HWB.out; have h3 := HRW2.out; have h4 := HS2.out; have h5 := HS3.out; have h6 := HCE.out; have h7 := hU.out; omega); have hw5 : IntKind.i64.wrap ((n2 : Int) + (c : Int)) = (n2 : Int) + (c : Int) := IntWalk.i64_in _ (by omega); have HX := As.mk (And.intro (fun j v h => (bcell hb2 _ _ (World.block_lt_of_cell? _ _ (hCq.out j v h))).trans (hCq.out j v h)) (And.intro (hBq.out.trans (hb2.mono hBq.out.size)) (hSq.out.below hb2))); have HXU := As.mk hcU; have HXL := As.mk hcL; clear hb2 hcU hcL)
                              go_roundw
                              case rel => exact ⟨n2 + c, k + 1, by simp, by go_num, by omega, ⟨HX.out.1⟩, ⟨HX.out.2.1⟩, ⟨HX.out.2.2⟩, ⟨by rw [HS2.out]; have h1 := hUq.out; have h2 := HXU.out; have h3 := HRW2.out; have h6 := HCE.out; have h7 := hU.out; omega⟩, ⟨fun h => by rw [HS1.out]; have h1 := hLq.out (by omega); have h2 := HXL.out (by omega) (by omega); have h3 := HCE.out; have h4 := HRW3.out; omega⟩⟩
                              case measure => simp [intOf]; omega
                          · obtain rfl : j = r.ins.length := by omega
                            have hUq2 := hUq.out
                            have hLq2 := hLq.out
                            rw [List.take_length] at hUq2 hLq2
                            replace hUq := As.mk hUq2
                            replace hLq := As.mk hLq2
                            clear hUq2 hLq2 hjs
                            have hwr2 : IntKind.i64.wrap (most - (n2 : Int)) = most - (n2 : Int) := IntWalk.i64_in _ (by omega)
                            have IU := As.mk (cost_calls P ⟨0, ⟨#[]⟩, [], r.out⟩ _ (most - (n2 : Int)) wr (by rw [wt_bare]; have h1 := HRW.out; have h2 := HRW3.out; omega) (by unfold inI64; omega) (by omega) (bareEx_rep hl1 HRO.out) hSq.out)
                            have p1 := hSq.out _ _ (HP.out 1 _ rfl)
                            have HS1 := As.mk (sum_take_succ (Ru.wt) hr.out)
                            have HS2 := As.mk (sum_take_succ (fun r : Ru => 2 * Ru.wt r) hr.out)
                            have HS3 := As.mk (sum_take_le (fun r : Ru => 2 * Ru.wt r) x.ru (k + 1))
                            go_wp2_with (go_at_call 59; refine IU.out.mono ?_; rintro e w2 ⟨⟨c, rfl, hcU, hcL⟩, hb2⟩; have HCE := As.mk (wt_bare r.out); have hcb : n2 + c ≤ 1099511627776 := (by have h1 := hUq.out; have h2 := HWB.out; have h3 := HRW2.out; have h4 := HS2.out; have h5 := HS3.out; have h6 := HCE.out; have h7 := hU.out; omega); have hw5 : IntKind.i64.wrap ((n2 : Int) + (c : Int)) = (n2 : Int) + (c : Int) := IntWalk.i64_in _ (by omega); have HX := As.mk (And.intro (fun j v h => (bcell hb2 _ _ (World.block_lt_of_cell? _ _ (hCq.out j v h))).trans (hCq.out j v h)) (And.intro (hBq.out.trans (hb2.mono hBq.out.size)) (hSq.out.below hb2))); have HXU := As.mk hcU; have HXL := As.mk hcL; clear hb2 hcU hcL)
                            go_roundw
                            case rel => exact ⟨n2 + c, k + 1, by simp, by go_num, by omega, ⟨HX.out.1⟩, ⟨HX.out.2.1⟩, ⟨HX.out.2.2⟩, ⟨by rw [HS2.out]; have h1 := hUq.out; have h2 := HXU.out; have h3 := HRW2.out; have h6 := HCE.out; have h7 := hU.out; omega⟩, ⟨fun h => by rw [HS1.out]; have h1 := hLq.out (by omega); have h2 := HXL.out (by omega) (by omega); have h3 := HCE.out; have h4 := HRW3.out; omega⟩⟩
                            case measure => simp [intOf]; omega
                      · have hd1 : decide ((n : Int) ≤ most) = false := decide_eq_false hm
                        have hd2 : decide (most < (n : Int)) = true := decide_eq_true (by omega)
                        have HC := hC
                        have HB := hB
                        have HS := hS
                        have hsl := sum_take_le (fun r : Ru => 2 * Ru.wt r) x.ru k
                        have HU := As.mk (show n ≤ 1 + x.pol.size + x.e.wt + (x.inp.map Ex.wt).sum + (x.out.map (fun s : ByteArray => s.size + 1)).sum + (x.ns.map (fun s : ByteArray => s.size + 1)).sum + (x.ru.map (fun r : Ru => 2 * Ru.wt r)).sum by have h1 := hU.out; omega)
                        have HL := As.mk (show (n : Int) ≤ most → 1 + x.pol.size + x.e.wt + (x.inp.map Ex.wt).sum + (x.out.map (fun s : ByteArray => s.size + 1)).sum + (x.ns.map (fun s : ByteArray => s.size + 1)).sum + (x.ru.map (Ru.wt)).sum ≤ n from fun h => absurd h hm)
                        clear hU hL hC hB hS hsl
                        go_wp2
                        go_loopw [5, 11] (fun nv i wr => ∃ n k : Nat, nv = .int .i64 n ∧ i = .int .i64 k ∧ k ≤ x.l.length ∧ As (∀ j v, [.int .i64 x.k, .int .i64 x.e.k, .string x.e.s, .slice A3 x.e.ns.length c3, .slice A4 x.e.l.length c4, .string x.pol, .slice A6 x.inp.length c6, .slice A7 x.out.length c7, .slice A8 x.ru.length c8, .slice A9 x.ns.length c9, .slice A10 x.l.length c10][j]? = some v → wr.cell? ⟨w.heap.size, j, none⟩ = some v) ∧ As (Below w.heap.size w wr) ∧ As (Sat P wr) ∧ As (n ≤ 1 + x.pol.size + x.e.wt + (x.inp.map Ex.wt).sum + (x.out.map (fun s : ByteArray => s.size + 1)).sum + (x.ns.map (fun s : ByteArray => s.size + 1)).sum + (x.ru.map (fun r : Ru => 2 * Ru.wt r)).sum + ((x.l.take k).map (fun l : Lo => 2 * Lo.wt l)).sum) ∧ As ((n : Int) ≤ most → 1 + x.pol.size + x.e.wt + (x.inp.map Ex.wt).sum + (x.out.map (fun s : ByteArray => s.size + 1)).sum + (x.ns.map (fun s : ByteArray => s.size + 1)).sum + (x.ru.map (Ru.wt)).sum + ((x.l.take k).map (Lo.wt)).sum ≤ n)) (fun _ i _ => x.l.length - (intOf i).toNat)
                        case atStart => exact ⟨n, 0, rfl, rfl, Nat.zero_le _, HC, HB, HS, ⟨by have := HU.out; simp; omega⟩, ⟨fun h => by have := HL.out h; simp; omega⟩⟩
                        case round =>
                          clear HC HB HS HU HL
                          obtain ⟨n, k, rfl, rfl, hk, hC, hB, hS, hU, hL⟩ := hrel
                          have q10 := hC.out 10 _ rfl
                          have hnb : n ≤ 1099511627776 := by have h1 := hU.out; have h2 := HWB.out; have h3 := sum_take_le (fun l : Lo => 2 * Lo.wt l) x.l k; omega
                          by_cases hlt : k < x.l.length
                          · by_cases hm : (n : Int) ≤ most
                            · obtain ⟨y, hy⟩ : ∃ y, As (x.l[k]? = some y) := ⟨x.l[k], ⟨List.getElem?_eq_getElem hlt⟩⟩
                              obtain ⟨be, oe, B3, d3, B4, d4, B6, d6, B7, d7, B8, d8, B9, d9, B10, d10, rfl, hbe, hry, e0, e1, e2, e3, e4, e5, e6, e7, e8, e9, e10⟩ := HR10.out.at hS.out (i := k) (x := y) hy.out
                              have hym : y ∈ x.l := List.mem_of_getElem? hy.out
                              have hwr : IntKind.i64.wrap (most - (n : Int)) = most - (n : Int) := IntWalk.i64_in _ (by omega)
                              have hd1 : decide ((n : Int) ≤ most) = true := decide_eq_true hm
                              have IY := As.mk (IH.out y hym _ (most - (n : Int)) wr (by omega) (by omega) hry hS.out)
                              have HS1 := As.mk (sum_take_succ (Lo.wt) hy.out)
                              have HS2 := As.mk (sum_take_succ (fun l : Lo => 2 * Lo.wt l) hy.out)
                              have HS3 := As.mk (sum_take_le (fun l : Lo => 2 * Lo.wt l) x.l (k + 1))
                              clear hry
                              go_wp2_with (go_at_call 25; refine IY.out.mono ?_; rintro e w2 ⟨⟨c, rfl, hcU, hcL⟩, hb2⟩; have hcb : n + c ≤ 1099511627776 := (by have h1 := hU.out; have h2 := HWB.out; have h4 := HS2.out; have h5 := HS3.out; omega); have hw2 : IntKind.i64.wrap ((n : Int) + (c : Int)) = (n : Int) + (c : Int) := IntWalk.i64_in _ (by omega); have HX := As.mk (And.intro (fun j v h => (bcell hb2 _ _ (World.block_lt_of_cell? _ _ (hC.out j v h))).trans (hC.out j v h)) (And.intro (hB.out.trans (hb2.mono hB.out.size)) (hS.out.below hb2))); have HXU := As.mk hcU; have HXL := As.mk hcL; clear hb2 hcU hcL)
                              go_roundw
                              case rel => exact ⟨n + c, k + 1, by simp, by go_num, by omega, ⟨HX.out.1⟩, ⟨HX.out.2.1⟩, ⟨HX.out.2.2⟩, ⟨by rw [HS2.out]; have h1 := hU.out; have h2 := HXU.out; omega⟩, ⟨fun h => by rw [HS1.out]; have h1 := hL.out (by omega); have h2 := HXL.out (by omega) (by omega); omega⟩⟩
                              case measure => simp [intOf]; omega
                            · have hd1 : decide ((n : Int) ≤ most) = false := decide_eq_false hm
                              have hd2 : decide (most < (n : Int)) = true := decide_eq_true (by omega)
                              have HC := hC
                              have HB := hB
                              have HS := hS
                              have hsl := sum_take_le (fun l : Lo => 2 * Lo.wt l) x.l k
                              have HU := As.mk (show n ≤ 1 + x.pol.size + x.e.wt + (x.inp.map Ex.wt).sum + (x.out.map (fun s : ByteArray => s.size + 1)).sum + (x.ns.map (fun s : ByteArray => s.size + 1)).sum + (x.ru.map (fun r : Ru => 2 * Ru.wt r)).sum + (x.l.map (fun l : Lo => 2 * Lo.wt l)).sum by have h1 := hU.out; omega)
                              have HL := As.mk (show (n : Int) ≤ most → 1 + x.pol.size + x.e.wt + (x.inp.map Ex.wt).sum + (x.out.map (fun s : ByteArray => s.size + 1)).sum + (x.ns.map (fun s : ByteArray => s.size + 1)).sum + (x.ru.map (Ru.wt)).sum + (x.l.map (Lo.wt)).sum ≤ n from fun h => absurd h hm)
                              clear hU hL hC hB hS hsl
                              go_wp2
                              go_ret
                              exact ⟨⟨n, rfl, by have h1 := HU.out; have h2 := HTU.out; omega, by intros; have h1 := HL.out (by omega); have h2 := HTL.out; unfold strsW at h2; omega⟩, HB.out⟩
                          · obtain rfl : k = x.l.length := by omega
                            have hU2 := hU.out
                            have hL2 := hL.out
                            rw [List.take_length] at hU2 hL2
                            have HC := hC
                            have HB := hB
                            have HS := hS
                            have HU := As.mk hU2
                            have HL := As.mk hL2
                            clear hU hL hU2 hL2 hC hB hS
                            go_wp2
                            go_ret
                            exact ⟨⟨n, rfl, by have h1 := HU.out; have h2 := HTU.out; omega, by intros; have h1 := HL.out (by omega); have h2 := HTL.out; unfold strsW at h2; omega⟩, HB.out⟩
                    · obtain rfl : k = x.ru.length := by omega
                      have hU2 := hU.out
                      have hL2 := hL.out
                      rw [List.take_length] at hU2 hL2
                      have HC := hC
                      have HB := hB
                      have HS := hS
                      have HU := As.mk hU2
                      have HL := As.mk hL2
                      clear hU hL hU2 hL2 hC hB hS
                      go_wp2
                      go_loopw [5, 11] (fun nv i wr => ∃ n k : Nat, nv = .int .i64 n ∧ i = .int .i64 k ∧ k ≤ x.l.length ∧ As (∀ j v, [.int .i64 x.k, .int .i64 x.e.k, .string x.e.s, .slice A3 x.e.ns.length c3, .slice A4 x.e.l.length c4, .string x.pol, .slice A6 x.inp.length c6, .slice A7 x.out.length c7, .slice A8 x.ru.length c8, .slice A9 x.ns.length c9, .slice A10 x.l.length c10][j]? = some v → wr.cell? ⟨w.heap.size, j, none⟩ = some v) ∧ As (Below w.heap.size w wr) ∧ As (Sat P wr) ∧ As (n ≤ 1 + x.pol.size + x.e.wt + (x.inp.map Ex.wt).sum + (x.out.map (fun s : ByteArray => s.size + 1)).sum + (x.ns.map (fun s : ByteArray => s.size + 1)).sum + (x.ru.map (fun r : Ru => 2 * Ru.wt r)).sum + ((x.l.take k).map (fun l : Lo => 2 * Lo.wt l)).sum) ∧ As ((n : Int) ≤ most → 1 + x.pol.size + x.e.wt + (x.inp.map Ex.wt).sum + (x.out.map (fun s : ByteArray => s.size + 1)).sum + (x.ns.map (fun s : ByteArray => s.size + 1)).sum + (x.ru.map (Ru.wt)).sum + ((x.l.take k).map (Lo.wt)).sum ≤ n)) (fun _ i _ => x.l.length - (intOf i).toNat)
                      case atStart => exact ⟨n, 0, rfl, rfl, Nat.zero_le _, HC, HB, HS, ⟨by have := HU.out; simp; omega⟩, ⟨fun h => by have := HL.out h; simp; omega⟩⟩
                      case round =>
                        clear HC HB HS HU HL
                        obtain ⟨n, k, rfl, rfl, hk, hC, hB, hS, hU, hL⟩ := hrel
                        have q10 := hC.out 10 _ rfl
                        have hnb : n ≤ 1099511627776 := by have h1 := hU.out; have h2 := HWB.out; have h3 := sum_take_le (fun l : Lo => 2 * Lo.wt l) x.l k; omega
                        by_cases hlt : k < x.l.length
                        · by_cases hm : (n : Int) ≤ most
                          · obtain ⟨y, hy⟩ : ∃ y, As (x.l[k]? = some y) := ⟨x.l[k], ⟨List.getElem?_eq_getElem hlt⟩⟩
                            obtain ⟨be, oe, B3, d3, B4, d4, B6, d6, B7, d7, B8, d8, B9, d9, B10, d10, rfl, hbe, hry, e0, e1, e2, e3, e4, e5, e6, e7, e8, e9, e10⟩ := HR10.out.at hS.out (i := k) (x := y) hy.out
                            have hym : y ∈ x.l := List.mem_of_getElem? hy.out
                            have hwr : IntKind.i64.wrap (most - (n : Int)) = most - (n : Int) := IntWalk.i64_in _ (by omega)
                            have hd1 : decide ((n : Int) ≤ most) = true := decide_eq_true hm
                            have IY := As.mk (IH.out y hym _ (most - (n : Int)) wr (by omega) (by omega) hry hS.out)
                            have HS1 := As.mk (sum_take_succ (Lo.wt) hy.out)
                            have HS2 := As.mk (sum_take_succ (fun l : Lo => 2 * Lo.wt l) hy.out)
                            have HS3 := As.mk (sum_take_le (fun l : Lo => 2 * Lo.wt l) x.l (k + 1))
                            clear hry
                            go_wp2_with (go_at_call 25; refine IY.out.mono ?_; rintro e w2 ⟨⟨c, rfl, hcU, hcL⟩, hb2⟩; have hcb : n + c ≤ 1099511627776 := (by have h1 := hU.out; have h2 := HWB.out; have h4 := HS2.out; have h5 := HS3.out; omega); have hw2 : IntKind.i64.wrap ((n : Int) + (c : Int)) = (n : Int) + (c : Int) := IntWalk.i64_in _ (by omega); have HX := As.mk (And.intro (fun j v h => (bcell hb2 _ _ (World.block_lt_of_cell? _ _ (hC.out j v h))).trans (hC.out j v h)) (And.intro (hB.out.trans (hb2.mono hB.out.size)) (hS.out.below hb2))); have HXU := As.mk hcU; have HXL := As.mk hcL; clear hb2 hcU hcL)
                            go_roundw
                            case rel => exact ⟨n + c, k + 1, by simp, by go_num, by omega, ⟨HX.out.1⟩, ⟨HX.out.2.1⟩, ⟨HX.out.2.2⟩, ⟨by rw [HS2.out]; have h1 := hU.out; have h2 := HXU.out; omega⟩, ⟨fun h => by rw [HS1.out]; have h1 := hL.out (by omega); have h2 := HXL.out (by omega) (by omega); omega⟩⟩
                            case measure => simp [intOf]; omega
                          · have hd1 : decide ((n : Int) ≤ most) = false := decide_eq_false hm
                            have hd2 : decide (most < (n : Int)) = true := decide_eq_true (by omega)
                            have HC := hC
                            have HB := hB
                            have HS := hS
                            have hsl := sum_take_le (fun l : Lo => 2 * Lo.wt l) x.l k
                            have HU := As.mk (show n ≤ 1 + x.pol.size + x.e.wt + (x.inp.map Ex.wt).sum + (x.out.map (fun s : ByteArray => s.size + 1)).sum + (x.ns.map (fun s : ByteArray => s.size + 1)).sum + (x.ru.map (fun r : Ru => 2 * Ru.wt r)).sum + (x.l.map (fun l : Lo => 2 * Lo.wt l)).sum by have h1 := hU.out; omega)
                            have HL := As.mk (show (n : Int) ≤ most → 1 + x.pol.size + x.e.wt + (x.inp.map Ex.wt).sum + (x.out.map (fun s : ByteArray => s.size + 1)).sum + (x.ns.map (fun s : ByteArray => s.size + 1)).sum + (x.ru.map (Ru.wt)).sum + (x.l.map (Lo.wt)).sum ≤ n from fun h => absurd h hm)
                            clear hU hL hC hB hS hsl
                            go_wp2
                            go_ret
                            exact ⟨⟨n, rfl, by have h1 := HU.out; have h2 := HTU.out; omega, by intros; have h1 := HL.out (by omega); have h2 := HTL.out; unfold strsW at h2; omega⟩, HB.out⟩
                        · obtain rfl : k = x.l.length := by omega
                          have hU2 := hU.out
                          have hL2 := hL.out
                          rw [List.take_length] at hU2 hL2
                          have HC := hC
                          have HB := hB
                          have HS := hS
                          have HU := As.mk hU2
                          have HL := As.mk hL2
                          clear hU hL hU2 hL2 hC hB hS
                          go_wp2
                          go_ret
                          exact ⟨⟨n, rfl, by have h1 := HU.out; have h2 := HTU.out; omega, by intros; have h1 := HL.out (by omega); have h2 := HTL.out; unfold strsW at h2; omega⟩, HB.out⟩
      · obtain rfl : k = x.inp.length := by omega
        have hU2 := hU.out
        have hL2 := hL.out
        rw [List.take_length] at hU2 hL2
        have HC := hC
        have HB := hB
        have HS := hS
        have HU := As.mk hU2
        have HL := As.mk hL2
        clear hU hL hU2 hL2 hC hB hS
        go_wp2
        go_loopw [5, 7] (fun nv i wr => ∃ n k : Nat, nv = .int .i64 n ∧ i = .int .i64 k ∧ k ≤ x.out.length ∧ As (∀ j v, [.int .i64 x.k, .int .i64 x.e.k, .string x.e.s, .slice A3 x.e.ns.length c3, .slice A4 x.e.l.length c4, .string x.pol, .slice A6 x.inp.length c6, .slice A7 x.out.length c7, .slice A8 x.ru.length c8, .slice A9 x.ns.length c9, .slice A10 x.l.length c10][j]? = some v → wr.cell? ⟨w.heap.size, j, none⟩ = some v) ∧ As (Below w.heap.size w wr) ∧ As (Sat P wr) ∧ As (n ≤ 1 + x.pol.size + x.e.wt + (x.inp.map Ex.wt).sum + ((x.out.take k).map (fun s : ByteArray => s.size + 1)).sum) ∧ As ((n : Int) ≤ most → 1 + x.pol.size + x.e.wt + (x.inp.map Ex.wt).sum + ((x.out.take k).map (fun s : ByteArray => s.size + 1)).sum ≤ n)) (fun _ i _ => x.out.length - (intOf i).toNat)
        case atStart => exact ⟨n, 0, rfl, rfl, Nat.zero_le _, HC, HB, HS, ⟨by have := HU.out; simp; omega⟩, ⟨fun h => by have := HL.out h; simp; omega⟩⟩
        case round =>
          clear HC HB HS HU HL
          obtain ⟨n, k, rfl, rfl, hk, hC, hB, hS, hU, hL⟩ := hrel
          have q7 := hC.out 7 _ rfl
          have hnb : n ≤ 1099511627776 := by have h1 := hU.out; have h2 := HWB.out; have h3 := sum_take_le (fun s : ByteArray => s.size + 1) x.out k; unfold strsW at h2; omega
          by_cases hlt : k < x.out.length
          · obtain ⟨s, hs⟩ : ∃ s, As (x.out[k]? = some s) := ⟨x.out[k], ⟨List.getElem?_eq_getElem hlt⟩⟩
            obtain ⟨b2, o2, rfl, hp, hsz⟩ := Row.str HR7.out hs.out
            have hcs := hS.out _ _ hp
            have hsz2 : s.size ≤ 1073741824 := hsz
            have HS1 := As.mk (sum_take_succ (fun s : ByteArray => s.size + 1) hs.out)
            have hw1 : IntKind.i64.wrap (1 + (s.size : Int)) = 1 + (s.size : Int) := IntWalk.i64_in _ (by omega)
            have hw2 : IntKind.i64.wrap ((n : Int) + (1 + (s.size : Int))) = (n : Int) + (1 + (s.size : Int)) := IntWalk.i64_in _ (by omega)
            clear hp hsz
            go_wp2
            go_roundw
            case rel => exact ⟨n + (s.size + 1), k + 1, by simp; omega, by go_num, by omega, hC, hB, hS, ⟨by rw [HS1.out]; have h1 := hU.out; omega⟩, ⟨fun h => by rw [HS1.out]; have h1 := hL.out (by omega); omega⟩⟩
            case measure => simp [intOf]; omega
          · obtain rfl : k = x.out.length := by omega
            have hU2 := hU.out
            have hL2 := hL.out
            rw [List.take_length] at hU2 hL2
            have HC := hC
            have HB := hB
            have HS := hS
            have HU := As.mk hU2
            have HL := As.mk hL2
            clear hU hL hU2 hL2 hC hB hS
            go_wp2
            go_loopw [5, 8] (fun nv i wr => ∃ n k : Nat, nv = .int .i64 n ∧ i = .int .i64 k ∧ k ≤ x.ns.length ∧ As (∀ j v, [.int .i64 x.k, .int .i64 x.e.k, .string x.e.s, .slice A3 x.e.ns.length c3, .slice A4 x.e.l.length c4, .string x.pol, .slice A6 x.inp.length c6, .slice A7 x.out.length c7, .slice A8 x.ru.length c8, .slice A9 x.ns.length c9, .slice A10 x.l.length c10][j]? = some v → wr.cell? ⟨w.heap.size, j, none⟩ = some v) ∧ As (Below w.heap.size w wr) ∧ As (Sat P wr) ∧ As (n ≤ 1 + x.pol.size + x.e.wt + (x.inp.map Ex.wt).sum + (x.out.map (fun s : ByteArray => s.size + 1)).sum + ((x.ns.take k).map (fun s : ByteArray => s.size + 1)).sum) ∧ As ((n : Int) ≤ most → 1 + x.pol.size + x.e.wt + (x.inp.map Ex.wt).sum + (x.out.map (fun s : ByteArray => s.size + 1)).sum + ((x.ns.take k).map (fun s : ByteArray => s.size + 1)).sum ≤ n)) (fun _ i _ => x.ns.length - (intOf i).toNat)
            case atStart => exact ⟨n, 0, rfl, rfl, Nat.zero_le _, HC, HB, HS, ⟨by have := HU.out; simp; omega⟩, ⟨fun h => by have := HL.out h; simp; omega⟩⟩
            case round =>
              clear HC HB HS HU HL
              obtain ⟨n, k, rfl, rfl, hk, hC, hB, hS, hU, hL⟩ := hrel
              have q9 := hC.out 9 _ rfl
              have hnb : n ≤ 1099511627776 := by have h1 := hU.out; have h2 := HWB.out; have h3 := sum_take_le (fun s : ByteArray => s.size + 1) x.ns k; unfold strsW at h2; omega
              by_cases hlt : k < x.ns.length
              · obtain ⟨s, hs⟩ : ∃ s, As (x.ns[k]? = some s) := ⟨x.ns[k], ⟨List.getElem?_eq_getElem hlt⟩⟩
                obtain ⟨b2, o2, rfl, hp, hsz⟩ := Row.str HR9.out hs.out
                have hcs := hS.out _ _ hp
                have hsz2 : s.size ≤ 1073741824 := hsz
                have HS1 := As.mk (sum_take_succ (fun s : ByteArray => s.size + 1) hs.out)
                have hw1 : IntKind.i64.wrap (1 + (s.size : Int)) = 1 + (s.size : Int) := IntWalk.i64_in _ (by omega)
                have hw2 : IntKind.i64.wrap ((n : Int) + (1 + (s.size : Int))) = (n : Int) + (1 + (s.size : Int)) := IntWalk.i64_in _ (by omega)
                clear hp hsz
                go_wp2
                go_roundw
                case rel => exact ⟨n + (s.size + 1), k + 1, by simp; omega, by go_num, by omega, hC, hB, hS, ⟨by rw [HS1.out]; have h1 := hU.out; omega⟩, ⟨fun h => by rw [HS1.out]; have h1 := hL.out (by omega); omega⟩⟩
                case measure => simp [intOf]; omega
              · obtain rfl : k = x.ns.length := by omega
                have hU2 := hU.out
                have hL2 := hL.out
                rw [List.take_length] at hU2 hL2
                have HC := hC
                have HB := hB
                have HS := hS
                have HU := As.mk hU2
                have HL := As.mk hL2
                clear hU hL hU2 hL2 hC hB hS
                go_wp2
                go_loopw [5, 9] (fun nv i wr => ∃ n k : Nat, nv = .int .i64 n ∧ i = .int .i64 k ∧ k ≤ x.ru.length ∧ As (∀ j v, [.int .i64 x.k, .int .i64 x.e.k, .string x.e.s, .slice A3 x.e.ns.length c3, .slice A4 x.e.l.length c4, .string x.pol, .slice A6 x.inp.length c6, .slice A7 x.out.length c7, .slice A8 x.ru.length c8, .slice A9 x.ns.length c9, .slice A10 x.l.length c10][j]? = some v → wr.cell? ⟨w.heap.size, j, none⟩ = some v) ∧ As (Below w.heap.size w wr) ∧ As (Sat P wr) ∧ As (n ≤ 1 + x.pol.size + x.e.wt + (x.inp.map Ex.wt).sum + (x.out.map (fun s : ByteArray => s.size + 1)).sum + (x.ns.map (fun s : ByteArray => s.size + 1)).sum + ((x.ru.take k).map (fun r : Ru => 2 * Ru.wt r)).sum) ∧ As ((n : Int) ≤ most → 1 + x.pol.size + x.e.wt + (x.inp.map Ex.wt).sum + (x.out.map (fun s : ByteArray => s.size + 1)).sum + (x.ns.map (fun s : ByteArray => s.size + 1)).sum + ((x.ru.take k).map (Ru.wt)).sum ≤ n)) (fun _ i _ => x.ru.length - (intOf i).toNat)
                case atStart => exact ⟨n, 0, rfl, rfl, Nat.zero_le _, HC, HB, HS, ⟨by have := HU.out; simp; omega⟩, ⟨fun h => by have := HL.out h; simp; omega⟩⟩
                case round =>
                  clear HC HB HS HU HL
                  obtain ⟨n, k, rfl, rfl, hk, hC, hB, hS, hU, hL⟩ := hrel
                  have q8 := hC.out 8 _ rfl
                  have hnb : n ≤ 1099511627776 := by have h1 := hU.out; have h2 := HWB.out; have h3 := sum_take_le (fun r : Ru => 2 * Ru.wt r) x.ru k; omega
                  by_cases hlt : k < x.ru.length
                  · by_cases hm : (n : Int) ≤ most
                    · obtain ⟨r, hr⟩ : ∃ r, As (x.ru[k]? = some r) := ⟨x.ru[k], ⟨List.getElem?_eq_getElem hlt⟩⟩
                      obtain ⟨br, orr, csr, rfl, hrr, hpr⟩ := Row.get HR8.out hr.out (fun cs h => by obtain ⟨_, _, _, _, rfl, _⟩ := Ru.Rep.open h; simp)
                      obtain ⟨B0, d0, B1, d1, rfl, hl0, t0, hl1, t1⟩ := hrr.open
                      have HP := As.mk hpr
                      have HRI := As.mk t0
                      have HRO := As.mk t1
                      have hli := t0.len
                      have hlo := t1.len
                      have n0 : wr.cell? ⟨br, orr + k * 2, none⟩ = some (.slice B0 r.ins.length d0) := hS.out _ _ (HP.out 0 _ rfl)
                      have hd1 : decide ((n : Int) ≤ most) = true := decide_eq_true hm
                      have HRW := As.mk (show Ru.wt r ≤ 549755813888 by have h1 := le_sum_of_mem Ru.wt (List.mem_of_getElem? hr.out); have h2 := HRT.out; omega)
                      have hnl : r.ins.length ≤ (r.ins.map Te.wt).sum := len_le_sum (fun t => by unfold Te.wt; omega) r.ins
                      have HRW3 := As.mk (show Ru.wt r = 1 + (r.ins.map Te.wt).sum + (r.out.map Ex.wt).sum from rfl)
                      have HRW2 := As.mk (show 1 + r.ins.length + (r.ins.map Te.wt).sum + (1 + (r.out.map Ex.wt).sum) ≤ 2 * Ru.wt r by rw [HRW3.out]; omega)
                      have HS2' := As.mk (sum_take_succ (fun r : Ru => 2 * Ru.wt r) hr.out)
                      have HS3' := As.mk (sum_take_le (fun r : Ru => 2 * Ru.wt r) x.ru (k + 1))
                      have hnn : n + 2 * Ru.wt r ≤ 1099511627776 := by have h1 := hU.out; have h2 := HWB.out; have h4 := HS2'.out; have h5 := HS3'.out; omega
                      have hw1 : IntKind.i64.wrap (1 + (r.ins.length : Int)) = 1 + (r.ins.length : Int) := IntWalk.i64_in _ (by omega)
                      have hw2 : IntKind.i64.wrap ((n : Int) + (1 + (r.ins.length : Int))) = (n : Int) + (1 + (r.ins.length : Int)) := IntWalk.i64_in _ (by omega)
                      clear hrr hpr t0 t1
                      go_wp2
                      go_loopw [5, 10] (fun nv i wr => ∃ n2 j : Nat, nv = .int .i64 n2 ∧ i = .int .i64 j ∧ j ≤ r.ins.length ∧ As (∀ j v, [.int .i64 x.k, .int .i64 x.e.k, .string x.e.s, .slice A3 x.e.ns.length c3, .slice A4 x.e.l.length c4, .string x.pol, .slice A6 x.inp.length c6, .slice A7 x.out.length c7, .slice (some ⟨br, orr, none⟩) x.ru.length c8, .slice A9 x.ns.length c9, .slice A10 x.l.length c10][j]? = some v → wr.cell? ⟨w.heap.size, j, none⟩ = some v) ∧ As (Below w.heap.size w wr) ∧ As (Sat P wr) ∧ As (n2 ≤ n + 1 + r.ins.length + ((r.ins.take j).map Te.wt).sum) ∧ As ((n2 : Int) ≤ most → 1 + x.pol.size + x.e.wt + (x.inp.map Ex.wt).sum + (x.out.map (fun s : ByteArray => s.size + 1)).sum + (x.ns.map (fun s : ByteArray => s.size + 1)).sum + ((x.ru.take k).map (Ru.wt)).sum + 1 + ((r.ins.take j).map Te.wt).sum ≤ n2)) (fun _ i _ => r.ins.length - (intOf i).toNat)
                      case atStart => exact ⟨n + (1 + r.ins.length), 0, by simp, rfl, Nat.zero_le _, hC, hB, hS, ⟨by rw [List.take_zero]; simp only [List.map_nil, List.sum_nil]; omega⟩, ⟨fun h => by have h1 := hL.out hm; rw [List.take_zero]; simp only [List.map_nil, List.sum_nil]; omega⟩⟩
                      case round =>
                        obtain ⟨n2, j, rfl, rfl, hj, hCq, hBq, hSq, hUq, hLq⟩ := hrel
                        have p8 := hCq.out 8 _ rfl
                        have p0 : wr.cell? ⟨br, orr + k * 2, none⟩ = some (.slice B0 r.ins.length d0) := hSq.out _ _ (HP.out 0 _ rfl)
                        have hjs := sum_take_le Te.wt r.ins j
                        have hnb2 : n2 ≤ 1099511627776 := by have h1 := hUq.out; have h3 := HRW2.out; omega
                        by_cases hltj : j < r.ins.length
                        · by_cases hm2 : (n2 : Int) ≤ most
                          · obtain ⟨z, hz⟩ : ∃ z, As (r.ins[j]? = some z) := ⟨r.ins[j], ⟨List.getElem?_eq_getElem hltj⟩⟩
                            obtain ⟨bz, oz, D2, f2, rfl, hbz, hrz, m0, m1, m2⟩ := HRI.out.at hSq.out (i := j) (x := z) hz.out
                            obtain ⟨D2', f2', hcs, hl2, t2⟩ := hrz.open
                            simp only [List.cons.injEq, Value.slice.injEq, and_true, true_and] at hcs
                            obtain ⟨rfl, rfl⟩ := hcs
                            have hd3 : decide ((n2 : Int) ≤ most) = true := decide_eq_true hm2
                            have hwr2 : IntKind.i64.wrap (most - (n2 : Int)) = most - (n2 : Int) := IntWalk.i64_in _ (by omega)
                            have HZE := As.mk (show (Ex.wt ⟨0, ⟨#[]⟩, [], z.l⟩) = Te.wt z from wt_bare _)
                            have HT1 := As.mk (sum_take_succ (Te.wt) hz.out)
                            have HT2 := As.mk (sum_take_le (Te.wt) r.ins (j + 1))
                            have IZ := As.mk (cost_calls P ⟨0, ⟨#[]⟩, [], z.l⟩ _ (most - (n2 : Int)) wr (by rw [HZE.out]; have h1 := HT1.out; have h2 := HT2.out; have h3 := HRW3.out; have h4 := HRW.out; omega) (by unfold inI64; omega) (by omega) (bareEx_rep hl2 t2) hSq.out)
                            clear hrz t2 hjs
                            go_wp2_with (go_at_call 59; refine IZ.out.mono ?_; rintro e w2 ⟨⟨c, rfl, hcU, hcL⟩, hb2⟩; have hcb : n2 + c ≤ 1099511627776 := (by have h1 := hUq.out; have h3 := HRW2.out; have h4 := HT1.out; have h5 := HT2.out; have h6 := HZE.out; omega); have hw5 : IntKind.i64.wrap ((n2 : Int) + (c : Int)) = (n2 : Int) + (c : Int) := IntWalk.i64_in _ (by omega); have HX := As.mk (And.intro (fun j v h => (bcell hb2 _ _ (World.block_lt_of_cell? _ _ (hCq.out j v h))).trans (hCq.out j v h)) (And.intro (hBq.out.trans (hb2.mono hBq.out.size)) (hSq.out.below hb2))); have HXU := As.mk hcU; have HXL := As.mk hcL; clear hb2 hcU hcL)
                            go_roundw
                            case rel => exact ⟨n2 + c, j + 1, by simp, by go_num, by omega, ⟨HX.out.1⟩, ⟨HX.out.2.1⟩, ⟨HX.out.2.2⟩, ⟨by rw [HT1.out]; have h1 := hUq.out; have h2 := HXU.out; have h6 := HZE.out; omega⟩, ⟨fun h => by rw [HT1.out]; have h1 := hLq.out (by omega); have h2 := HXL.out (by omega) (by omega); have h6 := HZE.out; omega⟩⟩
                            case measure => simp [intOf]; omega
                          · have hd3 : decide ((n2 : Int) ≤ most) = false := decide_eq_false hm2
                            have hUq2 := hUq.out
                            replace hUq := As.mk (show n2 ≤ n + 1 + r.ins.length + (r.ins.map Te.wt).sum by omega)
                            replace hLq := As.mk (show (n2 : Int) ≤ most → 1 + x.pol.size + x.e.wt + (x.inp.map Ex.wt).sum + (x.out.map (fun s : ByteArray => s.size + 1)).sum + (x.ns.map (fun s : ByteArray => s.size + 1)).sum + ((x.ru.take k).map (Ru.wt)).sum + 1 + (r.ins.map Te.wt).sum ≤ n2 from fun h => absurd h hm2)
                            clear hUq2 hjs p8 p0
                            have p8 := hCq.out 8 _ rfl
                            have p0 : wr.cell? ⟨br, orr + k * 2, none⟩ = some (.slice B0 r.ins.length d0) := hSq.out _ _ (HP.out 0 _ rfl)
                            have hwr2 : IntKind.i64.wrap (most - (n2 : Int)) = most - (n2 : Int) := IntWalk.i64_in _ (by omega)
                            have IU := As.mk (cost_calls P ⟨0, ⟨#[]⟩, [], r.out⟩ _ (most - (n2 : Int)) wr (by rw [wt_bare]; have h1 := HRW.out; have h2 := HRW3.out; omega) (by unfold inI64; omega) (by omega) (bareEx_rep hl1 HRO.out) hSq.out)
                            have p1 := hSq.out _ _ (HP.out 1 _ rfl)
                            have HS1 := As.mk (sum_take_succ (Ru.wt) hr.out)
                            have HS2 := As.mk (sum_take_succ (fun r : Ru => 2 * Ru.wt r) hr.out)
                            have HS3 := As.mk (sum_take_le (fun r : Ru => 2 * Ru.wt r) x.ru (k + 1))
                            go_wp2_with (go_at_call 59; refine IU.out.mono ?_; rintro e w2 ⟨⟨c, rfl, hcU, hcL⟩, hb2⟩; have HCE := As.mk (wt_bare r.out); have hcb : n2 + c ≤ 1099511627776 := (by have h1 := hUq.out; have h2 := HWB.out; have h3 := HRW2.out; have h4 := HS2.out; have h5 := HS3.out; have h6 := HCE.out; have h7 := hU.out; omega); have hw5 : IntKind.i64.wrap ((n2 : Int) + (c : Int)) = (n2 : Int) + (c : Int) := IntWalk.i64_in _ (by omega); have HX := As.mk (And.intro (fun j v h => (bcell hb2 _ _ (World.block_lt_of_cell? _ _ (hCq.out j v h))).trans (hCq.out j v h)) (And.intro (hBq.out.trans (hb2.mono hBq.out.size)) (hSq.out.below hb2))); have HXU := As.mk hcU; have HXL := As.mk hcL; clear hb2 hcU hcL)
                            go_roundw
                            case rel => exact ⟨n2 + c, k + 1, by simp, by go_num, by omega, ⟨HX.out.1⟩, ⟨HX.out.2.1⟩, ⟨HX.out.2.2⟩, ⟨by rw [HS2.out]; have h1 := hUq.out; have h2 := HXU.out; have h3 := HRW2.out; have h6 := HCE.out; have h7 := hU.out; omega⟩, ⟨fun h => by rw [HS1.out]; have h1 := hLq.out (by omega); have h2 := HXL.out (by omega) (by omega); have h3 := HCE.out; have h4 := HRW3.out; omega⟩⟩
                            case measure => simp [intOf]; omega
                        · obtain rfl : j = r.ins.length := by omega
                          have hUq2 := hUq.out
                          have hLq2 := hLq.out
                          rw [List.take_length] at hUq2 hLq2
                          replace hUq := As.mk hUq2
                          replace hLq := As.mk hLq2
                          clear hUq2 hLq2 hjs
                          have hwr2 : IntKind.i64.wrap (most - (n2 : Int)) = most - (n2 : Int) := IntWalk.i64_in _ (by omega)
                          have IU := As.mk (cost_calls P ⟨0, ⟨#[]⟩, [], r.out⟩ _ (most - (n2 : Int)) wr (by rw [wt_bare]; have h1 := HRW.out; have h2 := HRW3.out; omega) (by unfold inI64; omega) (by omega) (bareEx_rep hl1 HRO.out) hSq.out)
                          have p1 := hSq.out _ _ (HP.out 1 _ rfl)
                          have HS1 := As.mk (sum_take_succ (Ru.wt) hr.out)
                          have HS2 := As.mk (sum_take_succ (fun r : Ru => 2 * Ru.wt r) hr.out)
                          have HS3 := As.mk (sum_take_le (fun r : Ru => 2 * Ru.wt r) x.ru (k + 1))
                          go_wp2_with (go_at_call 59; refine IU.out.mono ?_; rintro e w2 ⟨⟨c, rfl, hcU, hcL⟩, hb2⟩; have HCE := As.mk (wt_bare r.out); have hcb : n2 + c ≤ 1099511627776 := (by have h1 := hUq.out; have h2 := HWB.out; have h3 := HRW2.out; have h4 := HS2.out; have h5 := HS3.out; have h6 := HCE.out; have h7 := hU.out; omega); have hw5 : IntKind.i64.wrap ((n2 : Int) + (c : Int)) = (n2 : Int) + (c : Int) := IntWalk.i64_in _ (by omega); have HX := As.mk (And.intro (fun j v h => (bcell hb2 _ _ (World.block_lt_of_cell? _ _ (hCq.out j v h))).trans (hCq.out j v h)) (And.intro (hBq.out.trans (hb2.mono hBq.out.size)) (hSq.out.below hb2))); have HXU := As.mk hcU; have HXL := As.mk hcL; clear hb2 hcU hcL)
                          go_roundw
                          case rel => exact ⟨n2 + c, k + 1, by simp, by go_num, by omega, ⟨HX.out.1⟩, ⟨HX.out.2.1⟩, ⟨HX.out.2.2⟩, ⟨by rw [HS2.out]; have h1 := hUq.out; have h2 := HXU.out; have h3 := HRW2.out; have h6 := HCE.out; have h7 := hU.out; omega⟩, ⟨fun h => by rw [HS1.out]; have h1 := hLq.out (by omega); have h2 := HXL.out (by omega) (by omega); have h3 := HCE.out; have h4 := HRW3.out; omega⟩⟩
                          case measure => simp [intOf]; omega
                    · have hd1 : decide ((n : Int) ≤ most) = false := decide_eq_false hm
                      have hd2 : decide (most < (n : Int)) = true := decide_eq_true (by omega)
                      have HC := hC
                      have HB := hB
                      have HS := hS
                      have hsl := sum_take_le (fun r : Ru => 2 * Ru.wt r) x.ru k
                      have HU := As.mk (show n ≤ 1 + x.pol.size + x.e.wt + (x.inp.map Ex.wt).sum + (x.out.map (fun s : ByteArray => s.size + 1)).sum + (x.ns.map (fun s : ByteArray => s.size + 1)).sum + (x.ru.map (fun r : Ru => 2 * Ru.wt r)).sum by have h1 := hU.out; omega)
                      have HL := As.mk (show (n : Int) ≤ most → 1 + x.pol.size + x.e.wt + (x.inp.map Ex.wt).sum + (x.out.map (fun s : ByteArray => s.size + 1)).sum + (x.ns.map (fun s : ByteArray => s.size + 1)).sum + (x.ru.map (Ru.wt)).sum ≤ n from fun h => absurd h hm)
                      clear hU hL hC hB hS hsl
                      go_wp2
                      go_loopw [5, 11] (fun nv i wr => ∃ n k : Nat, nv = .int .i64 n ∧ i = .int .i64 k ∧ k ≤ x.l.length ∧ As (∀ j v, [.int .i64 x.k, .int .i64 x.e.k, .string x.e.s, .slice A3 x.e.ns.length c3, .slice A4 x.e.l.length c4, .string x.pol, .slice A6 x.inp.length c6, .slice A7 x.out.length c7, .slice A8 x.ru.length c8, .slice A9 x.ns.length c9, .slice A10 x.l.length c10][j]? = some v → wr.cell? ⟨w.heap.size, j, none⟩ = some v) ∧ As (Below w.heap.size w wr) ∧ As (Sat P wr) ∧ As (n ≤ 1 + x.pol.size + x.e.wt + (x.inp.map Ex.wt).sum + (x.out.map (fun s : ByteArray => s.size + 1)).sum + (x.ns.map (fun s : ByteArray => s.size + 1)).sum + (x.ru.map (fun r : Ru => 2 * Ru.wt r)).sum + ((x.l.take k).map (fun l : Lo => 2 * Lo.wt l)).sum) ∧ As ((n : Int) ≤ most → 1 + x.pol.size + x.e.wt + (x.inp.map Ex.wt).sum + (x.out.map (fun s : ByteArray => s.size + 1)).sum + (x.ns.map (fun s : ByteArray => s.size + 1)).sum + (x.ru.map (Ru.wt)).sum + ((x.l.take k).map (Lo.wt)).sum ≤ n)) (fun _ i _ => x.l.length - (intOf i).toNat)
                      case atStart => exact ⟨n, 0, rfl, rfl, Nat.zero_le _, HC, HB, HS, ⟨by have := HU.out; simp; omega⟩, ⟨fun h => by have := HL.out h; simp; omega⟩⟩
                      case round =>
                        clear HC HB HS HU HL
                        obtain ⟨n, k, rfl, rfl, hk, hC, hB, hS, hU, hL⟩ := hrel
                        have q10 := hC.out 10 _ rfl
                        have hnb : n ≤ 1099511627776 := by have h1 := hU.out; have h2 := HWB.out; have h3 := sum_take_le (fun l : Lo => 2 * Lo.wt l) x.l k; omega
                        by_cases hlt : k < x.l.length
                        · by_cases hm : (n : Int) ≤ most
                          · obtain ⟨y, hy⟩ : ∃ y, As (x.l[k]? = some y) := ⟨x.l[k], ⟨List.getElem?_eq_getElem hlt⟩⟩
                            obtain ⟨be, oe, B3, d3, B4, d4, B6, d6, B7, d7, B8, d8, B9, d9, B10, d10, rfl, hbe, hry, e0, e1, e2, e3, e4, e5, e6, e7, e8, e9, e10⟩ := HR10.out.at hS.out (i := k) (x := y) hy.out
                            have hym : y ∈ x.l := List.mem_of_getElem? hy.out
                            have hwr : IntKind.i64.wrap (most - (n : Int)) = most - (n : Int) := IntWalk.i64_in _ (by omega)
                            have hd1 : decide ((n : Int) ≤ most) = true := decide_eq_true hm
                            have IY := As.mk (IH.out y hym _ (most - (n : Int)) wr (by omega) (by omega) hry hS.out)
                            have HS1 := As.mk (sum_take_succ (Lo.wt) hy.out)
                            have HS2 := As.mk (sum_take_succ (fun l : Lo => 2 * Lo.wt l) hy.out)
                            have HS3 := As.mk (sum_take_le (fun l : Lo => 2 * Lo.wt l) x.l (k + 1))
                            clear hry
                            go_wp2_with (go_at_call 25; refine IY.out.mono ?_; rintro e w2 ⟨⟨c, rfl, hcU, hcL⟩, hb2⟩; have hcb : n + c ≤ 1099511627776 := (by have h1 := hU.out; have h2 := HWB.out; have h4 := HS2.out; have h5 := HS3.out; omega); have hw2 : IntKind.i64.wrap ((n : Int) + (c : Int)) = (n : Int) + (c : Int) := IntWalk.i64_in _ (by omega); have HX := As.mk (And.intro (fun j v h => (bcell hb2 _ _ (World.block_lt_of_cell? _ _ (hC.out j v h))).trans (hC.out j v h)) (And.intro (hB.out.trans (hb2.mono hB.out.size)) (hS.out.below hb2))); have HXU := As.mk hcU; have HXL := As.mk hcL; clear hb2 hcU hcL)
                            go_roundw
                            case rel => exact ⟨n + c, k + 1, by simp, by go_num, by omega, ⟨HX.out.1⟩, ⟨HX.out.2.1⟩, ⟨HX.out.2.2⟩, ⟨by rw [HS2.out]; have h1 := hU.out; have h2 := HXU.out; omega⟩, ⟨fun h => by rw [HS1.out]; have h1 := hL.out (by omega); have h2 := HXL.out (by omega) (by omega); omega⟩⟩
                            case measure => simp [intOf]; omega
                          · have hd1 : decide ((n : Int) ≤ most) = false := decide_eq_false hm
                            have hd2 : decide (most < (n : Int)) = true := decide_eq_true (by omega)
                            have HC := hC
                            have HB := hB
                            have HS := hS
                            have hsl := sum_take_le (fun l : Lo => 2 * Lo.wt l) x.l k
                            have HU := As.mk (show n ≤ 1 + x.pol.size + x.e.wt + (x.inp.map Ex.wt).sum + (x.out.map (fun s : ByteArray => s.size + 1)).sum + (x.ns.map (fun s : ByteArray => s.size + 1)).sum + (x.ru.map (fun r : Ru => 2 * Ru.wt r)).sum + (x.l.map (fun l : Lo => 2 * Lo.wt l)).sum by have h1 := hU.out; omega)
                            have HL := As.mk (show (n : Int) ≤ most → 1 + x.pol.size + x.e.wt + (x.inp.map Ex.wt).sum + (x.out.map (fun s : ByteArray => s.size + 1)).sum + (x.ns.map (fun s : ByteArray => s.size + 1)).sum + (x.ru.map (Ru.wt)).sum + (x.l.map (Lo.wt)).sum ≤ n from fun h => absurd h hm)
                            clear hU hL hC hB hS hsl
                            go_wp2
                            go_ret
                            exact ⟨⟨n, rfl, by have h1 := HU.out; have h2 := HTU.out; omega, by intros; have h1 := HL.out (by omega); have h2 := HTL.out; unfold strsW at h2; omega⟩, HB.out⟩
                        · obtain rfl : k = x.l.length := by omega
                          have hU2 := hU.out
                          have hL2 := hL.out
                          rw [List.take_length] at hU2 hL2
                          have HC := hC
                          have HB := hB
                          have HS := hS
                          have HU := As.mk hU2
                          have HL := As.mk hL2
                          clear hU hL hU2 hL2 hC hB hS
                          go_wp2
                          go_ret
                          exact ⟨⟨n, rfl, by have h1 := HU.out; have h2 := HTU.out; omega, by intros; have h1 := HL.out (by omega); have h2 := HTL.out; unfold strsW at h2; omega⟩, HB.out⟩
                  · obtain rfl : k = x.ru.length := by omega
                    have hU2 := hU.out
                    have hL2 := hL.out
                    rw [List.take_length] at hU2 hL2
                    have HC := hC
                    have HB := hB
                    have HS := hS
                    have HU := As.mk hU2
                    have HL := As.mk hL2
                    clear hU hL hU2 hL2 hC hB hS
                    go_wp2
                    go_loopw [5, 11] (fun nv i wr => ∃ n k : Nat, nv = .int .i64 n ∧ i = .int .i64 k ∧ k ≤ x.l.length ∧ As (∀ j v, [.int .i64 x.k, .int .i64 x.e.k, .string x.e.s, .slice A3 x.e.ns.length c3, .slice A4 x.e.l.length c4, .string x.pol, .slice A6 x.inp.length c6, .slice A7 x.out.length c7, .slice A8 x.ru.length c8, .slice A9 x.ns.length c9, .slice A10 x.l.length c10][j]? = some v → wr.cell? ⟨w.heap.size, j, none⟩ = some v) ∧ As (Below w.heap.size w wr) ∧ As (Sat P wr) ∧ As (n ≤ 1 + x.pol.size + x.e.wt + (x.inp.map Ex.wt).sum + (x.out.map (fun s : ByteArray => s.size + 1)).sum + (x.ns.map (fun s : ByteArray => s.size + 1)).sum + (x.ru.map (fun r : Ru => 2 * Ru.wt r)).sum + ((x.l.take k).map (fun l : Lo => 2 * Lo.wt l)).sum) ∧ As ((n : Int) ≤ most → 1 + x.pol.size + x.e.wt + (x.inp.map Ex.wt).sum + (x.out.map (fun s : ByteArray => s.size + 1)).sum + (x.ns.map (fun s : ByteArray => s.size + 1)).sum + (x.ru.map (Ru.wt)).sum + ((x.l.take k).map (Lo.wt)).sum ≤ n)) (fun _ i _ => x.l.length - (intOf i).toNat)
                    case atStart => exact ⟨n, 0, rfl, rfl, Nat.zero_le _, HC, HB, HS, ⟨by have := HU.out; simp; omega⟩, ⟨fun h => by have := HL.out h; simp; omega⟩⟩
                    case round =>
                      clear HC HB HS HU HL
                      obtain ⟨n, k, rfl, rfl, hk, hC, hB, hS, hU, hL⟩ := hrel
                      have q10 := hC.out 10 _ rfl
                      have hnb : n ≤ 1099511627776 := by have h1 := hU.out; have h2 := HWB.out; have h3 := sum_take_le (fun l : Lo => 2 * Lo.wt l) x.l k; omega
                      by_cases hlt : k < x.l.length
                      · by_cases hm : (n : Int) ≤ most
                        · obtain ⟨y, hy⟩ : ∃ y, As (x.l[k]? = some y) := ⟨x.l[k], ⟨List.getElem?_eq_getElem hlt⟩⟩
                          obtain ⟨be, oe, B3, d3, B4, d4, B6, d6, B7, d7, B8, d8, B9, d9, B10, d10, rfl, hbe, hry, e0, e1, e2, e3, e4, e5, e6, e7, e8, e9, e10⟩ := HR10.out.at hS.out (i := k) (x := y) hy.out
                          have hym : y ∈ x.l := List.mem_of_getElem? hy.out
                          have hwr : IntKind.i64.wrap (most - (n : Int)) = most - (n : Int) := IntWalk.i64_in _ (by omega)
                          have hd1 : decide ((n : Int) ≤ most) = true := decide_eq_true hm
                          have IY := As.mk (IH.out y hym _ (most - (n : Int)) wr (by omega) (by omega) hry hS.out)
                          have HS1 := As.mk (sum_take_succ (Lo.wt) hy.out)
                          have HS2 := As.mk (sum_take_succ (fun l : Lo => 2 * Lo.wt l) hy.out)
                          have HS3 := As.mk (sum_take_le (fun l : Lo => 2 * Lo.wt l) x.l (k + 1))
                          clear hry
                          go_wp2_with (go_at_call 25; refine IY.out.mono ?_; rintro e w2 ⟨⟨c, rfl, hcU, hcL⟩, hb2⟩; have hcb : n + c ≤ 1099511627776 := (by have h1 := hU.out; have h2 := HWB.out; have h4 := HS2.out; have h5 := HS3.out; omega); have hw2 : IntKind.i64.wrap ((n : Int) + (c : Int)) = (n : Int) + (c : Int) := IntWalk.i64_in _ (by omega); have HX := As.mk (And.intro (fun j v h => (bcell hb2 _ _ (World.block_lt_of_cell? _ _ (hC.out j v h))).trans (hC.out j v h)) (And.intro (hB.out.trans (hb2.mono hB.out.size)) (hS.out.below hb2))); have HXU := As.mk hcU; have HXL := As.mk hcL; clear hb2 hcU hcL)
                          go_roundw
                          case rel => exact ⟨n + c, k + 1, by simp, by go_num, by omega, ⟨HX.out.1⟩, ⟨HX.out.2.1⟩, ⟨HX.out.2.2⟩, ⟨by rw [HS2.out]; have h1 := hU.out; have h2 := HXU.out; omega⟩, ⟨fun h => by rw [HS1.out]; have h1 := hL.out (by omega); have h2 := HXL.out (by omega) (by omega); omega⟩⟩
                          case measure => simp [intOf]; omega
                        · have hd1 : decide ((n : Int) ≤ most) = false := decide_eq_false hm
                          have hd2 : decide (most < (n : Int)) = true := decide_eq_true (by omega)
                          have HC := hC
                          have HB := hB
                          have HS := hS
                          have hsl := sum_take_le (fun l : Lo => 2 * Lo.wt l) x.l k
                          have HU := As.mk (show n ≤ 1 + x.pol.size + x.e.wt + (x.inp.map Ex.wt).sum + (x.out.map (fun s : ByteArray => s.size + 1)).sum + (x.ns.map (fun s : ByteArray => s.size + 1)).sum + (x.ru.map (fun r : Ru => 2 * Ru.wt r)).sum + (x.l.map (fun l : Lo => 2 * Lo.wt l)).sum by have h1 := hU.out; omega)
                          have HL := As.mk (show (n : Int) ≤ most → 1 + x.pol.size + x.e.wt + (x.inp.map Ex.wt).sum + (x.out.map (fun s : ByteArray => s.size + 1)).sum + (x.ns.map (fun s : ByteArray => s.size + 1)).sum + (x.ru.map (Ru.wt)).sum + (x.l.map (Lo.wt)).sum ≤ n from fun h => absurd h hm)
                          clear hU hL hC hB hS hsl
                          go_wp2
                          go_ret
                          exact ⟨⟨n, rfl, by have h1 := HU.out; have h2 := HTU.out; omega, by intros; have h1 := HL.out (by omega); have h2 := HTL.out; unfold strsW at h2; omega⟩, HB.out⟩
                      · obtain rfl : k = x.l.length := by omega
                        have hU2 := hU.out
                        have hL2 := hL.out
                        rw [List.take_length] at hU2 hL2
                        have HC := hC
                        have HB := hB
                        have HS := hS
                        have HU := As.mk hU2
                        have HL := As.mk hL2
                        clear hU hL hU2 hL2 hC hB hS
                        go_wp2
                        go_ret
                        exact ⟨⟨n, rfl, by have h1 := HU.out; have h2 := HTU.out; omega, by intros; have h1 := HL.out (by omega); have h2 := HTL.out; unfold strsW at h2; omega⟩, HB.out⟩
end Go.Proofs.YtainigjbjfpoaaaGreatDoor
