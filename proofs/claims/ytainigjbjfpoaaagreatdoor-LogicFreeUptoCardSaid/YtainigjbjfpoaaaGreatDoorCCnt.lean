/- tipstaveref10.Count, Bytes, tipstaveref15.cost: up to a bound. Printed by wip/tools/gen_cnt.py (own tool). -/
import Derived.Test.YtainigjbjfpoaaaGreatDoorCLgFree2
namespace Go.Proofs.YtainigjbjfpoaaaGreatDoor
open Go.RowKit Go.Shelf Go.Maps

mutual
/-- how many expressions; how many bytes -/
def Ex.nd : Ex → Nat
  | ⟨_, _, _, l⟩ => 1 + Ex.nds l
def Ex.nds : List Ex → Nat
  | [] => 0
  | x :: xs => Ex.nd x + Ex.nds xs
end
mutual
def Ex.by : Ex → Nat
  | ⟨_, s, ns, l⟩ => s.size + strsW ns + Ex.bys l
def Ex.bys : List Ex → Nat
  | [] => 0
  | x :: xs => Ex.by x + Ex.bys xs
end
theorem Ex.nds_eq : ∀ l, Ex.nds l = (l.map Ex.nd).sum
  | [] => rfl
  | x :: xs => by rw [Ex.nds, Ex.nds_eq xs]; rfl
theorem Ex.nd_eq (x : Ex) : x.nd = 1 + (x.l.map Ex.nd).sum := by cases x; rw [Ex.nd, Ex.nds_eq]
theorem Ex.bys_eq : ∀ l, Ex.bys l = (l.map Ex.by).sum
  | [] => rfl
  | x :: xs => by rw [Ex.bys, Ex.bys_eq xs]; rfl
def s_size (x : Ex) : Nat := x.s.size + strsW x.ns
theorem Ex.by_eq (x : Ex) : x.by = s_size x + (x.l.map Ex.by).sum := by cases x; rw [Ex.by, Ex.bys_eq]; rfl
theorem Ex.sum_nd_by : ∀ l : List Ex, (∀ y ∈ l, y.nd + y.by = y.wt) → (l.map Ex.nd).sum + (l.map Ex.by).sum = (l.map Ex.wt).sum
  | [], _ => rfl
  | x :: xs, h => by
    have h1 := h x (by simp)
    have h2 := Ex.sum_nd_by xs (fun y hy => h y (by simp [hy]))
    simp only [List.map_cons, List.sum_cons]
    omega
theorem Ex.nd_by_n : ∀ (n : Nat) (x : Ex), x.sz ≤ n → x.nd + x.by = x.wt
  | 0, x, h => by cases x; simp [Ex.sz] at h
  | n + 1, x, h => by
    have := Ex.sum_nd_by x.l (fun y hy => Ex.nd_by_n n y (by have := Ex.lt_of_mem hy; omega))
    rw [Ex.nd_eq, Ex.by_eq, Ex.wt_eq]
    unfold s_size
    omega
theorem Ex.nd_by (x : Ex) : (1 + (x.l.map Ex.nd).sum) + (s_size x + (x.l.map Ex.by).sum) = x.wt := by
  rw [← Ex.nd_eq, ← Ex.by_eq]
  exact Ex.nd_by_n _ x (Nat.le_refl _)
theorem sum_take_succ {α : Type} (f : α → Nat) {l : List α} {k : Nat} {y : α} (h : l[k]? = some y) : ((l.take (k + 1)).map f).sum = ((l.take k).map f).sum + f y := by
  rw [take_one h, List.map_append, List.sum_append]; simp
theorem sum_take_le {α : Type} (f : α → Nat) (l : List α) (k : Nat) : ((l.take k).map f).sum ≤ (l.map f).sum := by
  have h := congrArg (fun l => (l.map f).sum) (List.take_append_drop k l)
  simp only [List.map_append, List.sum_append] at h
  omega

set_option maxRecDepth 100000 in
set_option maxHeartbeats 4000000 in
theorem cnt10_calls (P : Pers) : ∀ (m : Nat) (x : Ex) (cs : List Value) (most : Int) (w : World), x.sz ≤ m → x.wt ≤ 1099511627776 → 0 ≤ most → most ≤ 4611686018427387904 → Ex.Rep P x cs → Sat P w →
    Calls Tryz.prog 91 #[.agg cs.toArray, .int .i64 most] w fun e w' => (∃ n : Nat, e = .returned (.int .i64 n) ∧ n ≤ Ex.nd x ∧ ((n : Int) ≤ most → Ex.nd x ≤ n)) ∧ Below w.heap.size w w' := by
  intro m
  induction m with
  | zero => intro x cs most w h; cases x; simp [Ex.sz] at h
  | succ m ih =>
    intro x cs most w hn hwt hm0 hm1 hx hs
    have IH := As.mk (fun (y : Ex) (hy : y ∈ x.l) cs (mo : Int) w h0 h1 => ih y cs mo w (by have := Ex.lt_of_mem hy; omega) (by have := le_sum_of_mem Ex.wt hy; rw [Ex.wt_eq] at hwt; omega) h0 h1)
    have HWB := As.mk hwt
    have HE := As.mk (Ex.nd_eq x)
    have HT := As.mk (Ex.nd_by x)
    obtain ⟨A2, c2, A3, c3, rfl, l2, r2, l3, r3, z1, zk⟩ := hx.open
    have HR := As.mk r3
    have hlen := r3.len
    have HS := As.mk (hs.alloc (.cells #[.int .i64 x.k, .string x.s, .slice A2 x.ns.length c2, .slice A3 x.l.length c3] 25))
    have HB := As.mk ((Below.refl _ w).alloc (Nat.le_refl _) (.cells #[.int .i64 x.k, .string x.s, .slice A2 x.ns.length c2, .slice A3 x.l.length c3] 25))
    have K3 := As.mk (show (w.alloc (.cells #[.int .i64 x.k, .string x.s, .slice A2 x.ns.length c2, .slice A3 x.l.length c3] 25)).cell? ⟨w.heap.size, 3, none⟩ = some (.slice A3 x.l.length c3) from World.cell?_alloc_mark ..)

    clear hx hs r2 r3 ih zk hwt
    go_enter Tryz.func91, Tryz.ntmps91
    go_wp2
    go_loopw [5, 6] (fun nv i wr => ∃ n k : Nat, nv = .int .i64 n ∧ i = .int .i64 k ∧ k ≤ x.l.length ∧ wr.cell? ⟨w.heap.size, 3, none⟩ = some (.slice A3 x.l.length c3) ∧ As (Below w.heap.size w wr) ∧ As (Sat P wr) ∧ As (n ≤ 1 + ((x.l.take k).map Ex.nd).sum) ∧ As ((n : Int) ≤ most → 1 + ((x.l.take k).map Ex.nd).sum ≤ n)) (fun _ i _ => x.l.length - (intOf i).toNat)
    case atStart => exact ⟨1, 0, rfl, rfl, Nat.zero_le _, K3.out, HB, HS, ⟨by simp⟩, ⟨fun _ => by simp⟩⟩
    case round =>
      obtain ⟨n, k, rfl, rfl, hk, hc, hB, hS, hU, hL⟩ := hrel
      skip
      have hle : ((x.l.take k).map Ex.nd).sum ≤ (x.l.map Ex.nd).sum := sum_take_le Ex.nd x.l k
      have hnb : n ≤ 1099511627776 := by have h1 := hU.out; have h2 := HT.out; have h3 := HWB.out; omega
      by_cases hlt : k < x.l.length
      · by_cases hm : (n : Int) ≤ most
        · obtain ⟨y, hy⟩ : ∃ y, As (x.l[k]? = some y) := ⟨x.l[k], ⟨List.getElem?_eq_getElem hlt⟩⟩
          obtain ⟨be, oe, B2, d2, B3, d3, rfl, hbe, hry, e0, e1, e2, e3⟩ := HR.out.at hS.out (i := k) (x := y) hy.out
          have hym : y ∈ x.l := List.mem_of_getElem? hy.out
          have hwr : IntKind.i64.wrap (most - (n : Int)) = most - (n : Int) := IntWalk.i64_in _ (by omega)
          have hd1 : decide ((n : Int) ≤ most) = true := decide_eq_true hm
          have IY := As.mk (IH.out y hym _ (most - (n : Int)) wr (by omega) (by omega) hry hS.out)
          have HS1 := As.mk (sum_take_succ Ex.nd hy.out)
          have HS2 := As.mk (sum_take_le Ex.nd x.l (k + 1))
          clear hry hle
          go_wp2_with (go_at_call 91; refine IY.out.mono ?_; rintro e w2 ⟨⟨c, rfl, hcU, hcL⟩, hb2⟩; have hcb : n + c ≤ 1099511627776 := (by have h1 := hU.out; have h2 := HT.out; have h3 := HWB.out; have h4 := HS1.out; have h5 := HS2.out; omega); have hw2 : IntKind.i64.wrap ((n : Int) + (c : Int)) = (n : Int) + (c : Int) := IntWalk.i64_in _ (by omega); have hc2 := (bcell hb2 _ _ (World.block_lt_of_cell? wr _ hc)).trans hc; have HX := As.mk (And.intro (hB.out.trans (hb2.mono hB.out.size)) (hS.out.below hb2)); have HXU := As.mk hcU; have HXL := As.mk hcL; clear hb2 hcU hcL)
          go_roundw
          case rel => exact ⟨n + c, k + 1, by simp, by go_num, by omega, hc2, ⟨HX.out.1⟩, ⟨HX.out.2⟩, ⟨by rw [HS1.out]; have h1 := hU.out; have h2 := HXU.out; omega⟩, ⟨fun h => by rw [HS1.out]; have h1 := hL.out (by omega); have h2 := HXL.out (by omega); omega⟩⟩
          case measure => simp [intOf]; omega
        · have hd1 : decide ((n : Int) ≤ most) = false := decide_eq_false hm
          have hd2 : decide (most < (n : Int)) = true := decide_eq_true (by omega)
          have HFU := As.mk (show n ≤ 1 + (x.l.map Ex.nd).sum by have h1 := hU.out; omega)
          have HFL := As.mk (show (n : Int) ≤ most → 1 + (x.l.map Ex.nd).sum ≤ n from fun h => absurd h hm)
          clear hle hU hL
          go_wp2
          go_ret
          exact ⟨⟨n, rfl, by rw [HE.out]; exact HFU.out, by rw [HE.out]; exact HFL.out⟩, hB.out⟩
      · obtain rfl : k = x.l.length := by omega
        have hU2 := hU.out
        have hL2 := hL.out
        rw [List.take_length] at hU2 hL2
        have HFU := As.mk hU2
        have HFL := As.mk hL2
        clear hle hU hL hU2 hL2
        go_wp2
        go_ret
        exact ⟨⟨n, rfl, by rw [HE.out]; exact HFU.out, by rw [HE.out]; exact HFL.out⟩, hB.out⟩
theorem strsW_take {l : List ByteArray} {k : Nat} {s : ByteArray} (h : l[k]? = some s) : strsW (l.take (k + 1)) = strsW (l.take k) + (s.size + 1) := sum_take_succ (fun s : ByteArray => s.size + 1) h
theorem strsW_take_le (l : List ByteArray) (k : Nat) : strsW (l.take k) ≤ strsW l := sum_take_le (fun s : ByteArray => s.size + 1) l k

set_option maxRecDepth 100000 in
set_option maxHeartbeats 4000000 in
theorem byt10_calls (P : Pers) : ∀ (m : Nat) (x : Ex) (cs : List Value) (most : Int) (w : World), x.sz ≤ m → x.wt ≤ 1099511627776 → 0 ≤ most → most ≤ 4611686018427387904 → Ex.Rep P x cs → Sat P w →
    Calls Tryz.prog 92 #[.agg cs.toArray, .int .i64 most] w fun e w' => (∃ n : Nat, e = .returned (.int .i64 n) ∧ n ≤ Ex.by x ∧ ((n : Int) ≤ most → Ex.by x ≤ n)) ∧ Below w.heap.size w w' := by
  intro m
  induction m with
  | zero => intro x cs most w h; cases x; simp [Ex.sz] at h
  | succ m ih =>
    intro x cs most w hn hwt hm0 hm1 hx hs
    have IH := As.mk (fun (y : Ex) (hy : y ∈ x.l) cs (mo : Int) w h0 h1 => ih y cs mo w (by have := Ex.lt_of_mem hy; omega) (by have := le_sum_of_mem Ex.wt hy; rw [Ex.wt_eq] at hwt; omega) h0 h1)
    have HWB := As.mk hwt
    have HE := As.mk (Ex.by_eq x)
    have HT := As.mk (Ex.nd_by x)
    obtain ⟨A2, c2, A3, c3, rfl, l2, r2, l3, r3, z1, zk⟩ := hx.open
    have HR := As.mk r3
    have hlen := r3.len
    have HS := As.mk (hs.alloc (.cells #[.int .i64 x.k, .string x.s, .slice A2 x.ns.length c2, .slice A3 x.l.length c3] 25))
    have HB := As.mk ((Below.refl _ w).alloc (Nat.le_refl _) (.cells #[.int .i64 x.k, .string x.s, .slice A2 x.ns.length c2, .slice A3 x.l.length c3] 25))
    have K3 := As.mk (show (w.alloc (.cells #[.int .i64 x.k, .string x.s, .slice A2 x.ns.length c2, .slice A3 x.l.length c3] 25)).cell? ⟨w.heap.size, 3, none⟩ = some (.slice A3 x.l.length c3) from World.cell?_alloc_mark ..)
    have HR2 := As.mk r2
    have hlen2 := r2.len
    have K2 := As.mk (show (w.alloc (.cells #[.int .i64 x.k, .string x.s, .slice A2 x.ns.length c2, .slice A3 x.l.length c3] 25)).cell? ⟨w.heap.size, 2, none⟩ = some (.slice A2 x.ns.length c2) from World.cell?_alloc_mark ..)
    clear hx hs r2 r3 ih zk hwt
    go_enter Tryz.func92, Tryz.ntmps92
    go_wp2
    go_loopw [5, 6] (fun nv i wr => ∃ k : Nat, nv = .int .i64 (x.s.size + strsW (x.ns.take k) : Nat) ∧ i = .int .i64 k ∧ k ≤ x.ns.length ∧ As (w.alloc (.cells #[.int .i64 x.k, .string x.s, .slice A2 x.ns.length c2, .slice A3 x.l.length c3] 25) = wr)) (fun _ i _ => x.ns.length - (intOf i).toNat)
    case atStart => exact ⟨0, by simp [strsW], rfl, Nat.zero_le _, ⟨rfl⟩⟩
    case round =>
      obtain ⟨k, rfl, rfl, hk, ⟨rfl⟩⟩ := hrel
      have hk2 := K2.out
      by_cases hlt : k < x.ns.length
      · obtain ⟨s, hs⟩ : ∃ s, As (x.ns[k]? = some s) := ⟨x.ns[k], ⟨List.getElem?_eq_getElem hlt⟩⟩
        obtain ⟨b2, o2, rfl, hp, hsz⟩ := Row.str HR2.out hs.out
        have hcs := HS.out _ _ hp
        have HSU := As.mk (strsW_take hs.out)
        have hle : x.s.size + strsW (x.ns.take k) + (s.size + 1) ≤ 1099511627776 := by
          have h1 := strsW_take_le x.ns (k + 1)
          have h2 := HT.out
          have h3 := HWB.out
          have h4 := HSU.out
          unfold s_size at h2
          omega
        generalize strsW (x.ns.take k) = q at *
        have hw1 : IntKind.i64.wrap (1 + (s.size : Int)) = 1 + (s.size : Int) := IntWalk.i64_in _ (by omega)
        have hw2 : IntKind.i64.wrap (((x.s.size + q : Nat) : Int) + (1 + (s.size : Int))) = ((x.s.size + q : Nat) : Int) + (1 + (s.size : Int)) := IntWalk.i64_in _ (by omega)
        have hw3 : IntKind.i64.wrap ((x.s.size : Int) + (q : Int) + (1 + (s.size : Int))) = (x.s.size : Int) + (q : Int) + (1 + (s.size : Int)) := IntWalk.i64_in _ (by omega)
        clear hp
        go_wp2
        go_roundw
        case rel => exact ⟨k + 1, by rw [HSU.out]; simp; omega, by go_num, by omega, ⟨trivial⟩⟩
        case measure => simp [intOf]; omega
      · obtain rfl : k = x.ns.length := by omega
        have ht := List.take_length (l := x.ns)
        rw [ht]
        have hc0 := K3.out
        have hB0 := HB
        have hS0 := HS
        clear ht
        go_wp2
        go_loopw [5, 7] (fun nv i wr => ∃ n k : Nat, nv = .int .i64 n ∧ i = .int .i64 k ∧ k ≤ x.l.length ∧ wr.cell? ⟨w.heap.size, 3, none⟩ = some (.slice A3 x.l.length c3) ∧ As (Below w.heap.size w wr) ∧ As (Sat P wr) ∧ As (n ≤ s_size x + ((x.l.take k).map Ex.by).sum) ∧ As ((n : Int) ≤ most → s_size x + ((x.l.take k).map Ex.by).sum ≤ n)) (fun _ i _ => x.l.length - (intOf i).toNat)
        case atStart => exact ⟨s_size x, 0, rfl, rfl, Nat.zero_le _, hc0, hB0, hS0, ⟨by simp⟩, ⟨fun _ => by simp⟩⟩
        case round =>
          obtain ⟨n, k, rfl, rfl, hk, hc, hB, hS, hU, hL⟩ := hrel
          clear hc0 hB0 hS0
          have hle : ((x.l.take k).map Ex.by).sum ≤ (x.l.map Ex.by).sum := sum_take_le Ex.by x.l k
          have hnb : n ≤ 1099511627776 := by have h1 := hU.out; have h2 := HT.out; have h3 := HWB.out; omega
          by_cases hlt : k < x.l.length
          · by_cases hm : (n : Int) ≤ most
            · obtain ⟨y, hy⟩ : ∃ y, As (x.l[k]? = some y) := ⟨x.l[k], ⟨List.getElem?_eq_getElem hlt⟩⟩
              obtain ⟨be, oe, B2, d2, B3, d3, rfl, hbe, hry, e0, e1, e2, e3⟩ := HR.out.at hS.out (i := k) (x := y) hy.out
              have hym : y ∈ x.l := List.mem_of_getElem? hy.out
              have hwr : IntKind.i64.wrap (most - (n : Int)) = most - (n : Int) := IntWalk.i64_in _ (by omega)
              have hd1 : decide ((n : Int) ≤ most) = true := decide_eq_true hm
              have IY := As.mk (IH.out y hym _ (most - (n : Int)) wr (by omega) (by omega) hry hS.out)
              have HS1 := As.mk (sum_take_succ Ex.by hy.out)
              have HS2 := As.mk (sum_take_le Ex.by x.l (k + 1))
              clear hry hle
              go_wp2_with (go_at_call 92; refine IY.out.mono ?_; rintro e w2 ⟨⟨c, rfl, hcU, hcL⟩, hb2⟩; have hcb : n + c ≤ 1099511627776 := (by have h1 := hU.out; have h2 := HT.out; have h3 := HWB.out; have h4 := HS1.out; have h5 := HS2.out; omega); have hw2 : IntKind.i64.wrap ((n : Int) + (c : Int)) = (n : Int) + (c : Int) := IntWalk.i64_in _ (by omega); have hc2 := (bcell hb2 _ _ (World.block_lt_of_cell? wr _ hc)).trans hc; have HX := As.mk (And.intro (hB.out.trans (hb2.mono hB.out.size)) (hS.out.below hb2)); have HXU := As.mk hcU; have HXL := As.mk hcL; clear hb2 hcU hcL)
              go_roundw
              case rel => exact ⟨n + c, k + 1, by simp, by go_num, by omega, hc2, ⟨HX.out.1⟩, ⟨HX.out.2⟩, ⟨by rw [HS1.out]; have h1 := hU.out; have h2 := HXU.out; omega⟩, ⟨fun h => by rw [HS1.out]; have h1 := hL.out (by omega); have h2 := HXL.out (by omega); omega⟩⟩
              case measure => simp [intOf]; omega
            · have hd1 : decide ((n : Int) ≤ most) = false := decide_eq_false hm
              have hd2 : decide (most < (n : Int)) = true := decide_eq_true (by omega)
              have HFU := As.mk (show n ≤ s_size x + (x.l.map Ex.by).sum by have h1 := hU.out; omega)
              have HFL := As.mk (show (n : Int) ≤ most → s_size x + (x.l.map Ex.by).sum ≤ n from fun h => absurd h hm)
              clear hle hU hL
              go_wp2
              go_ret
              exact ⟨⟨n, rfl, by rw [HE.out]; exact HFU.out, by rw [HE.out]; exact HFL.out⟩, hB.out⟩
          · obtain rfl : k = x.l.length := by omega
            have hU2 := hU.out
            have hL2 := hL.out
            rw [List.take_length] at hU2 hL2
            have HFU := As.mk hU2
            have HFL := As.mk hL2
            clear hle hU hL hU2 hL2
            go_wp2
            go_ret
            exact ⟨⟨n, rfl, by rw [HE.out]; exact HFU.out, by rw [HE.out]; exact HFL.out⟩, hB.out⟩
set_option maxRecDepth 100000 in
set_option maxHeartbeats 1000000 in
theorem cost_calls (P : Pers) (x : Ex) (cs : List Value) (most : Int) (w : World) (hwt : x.wt ≤ 1099511627776) (_hm : inI64 most) (hm1 : most ≤ 4611686018427387904) (hx : Ex.Rep P x cs) (hs : Sat P w) :
    Calls Tryz.prog 59 #[.agg cs.toArray, .int .i64 most] w fun e w' => (∃ n : Nat, e = .returned (.int .i64 n) ∧ n ≤ x.wt ∧ (0 ≤ most → (n : Int) ≤ most → x.wt ≤ n)) ∧ Below w.heap.size w w' := by
  have HC := As.mk (fun (h0 : 0 ≤ most) w hs => cnt10_calls P _ x cs most w (Nat.le_refl _) hwt h0 hm1 hx hs)
  have HY := As.mk (fun (h0 : 0 ≤ most) w hs => byt10_calls P _ x cs most w (Nat.le_refl _) hwt h0 hm1 hx hs)
  have HT := As.mk (Ex.nd_by_n _ x (Nat.le_refl _))
  obtain ⟨A2, c2, A3, c3, rfl, l2, r2, l3, r3, z1, zk⟩ := hx.open
  have HS := As.mk (hs.alloc (.cells #[.int .i64 x.k, .string x.s, .slice A2 x.ns.length c2, .slice A3 x.l.length c3] 25))
  have HB := As.mk ((Below.refl _ w).alloc (Nat.le_refl _) (.cells #[.int .i64 x.k, .string x.s, .slice A2 x.ns.length c2, .slice A3 x.l.length c3] 25))
  have hk : ∀ j v, [Value.int .i64 x.k, .string x.s, .slice A2 x.ns.length c2, .slice A3 x.l.length c3][j]? = some v → (w.alloc (.cells #[.int .i64 x.k, .string x.s, .slice A2 x.ns.length c2, .slice A3 x.l.length c3] 25)).cell? ⟨w.heap.size, j, none⟩ = some v := fun j v h => (World.cell?_alloc_mark ..).trans (by simpa using h)
  have HK := As.mk hk
  have hz0 : w.heap.size < (w.alloc (.cells #[.int .i64 x.k, .string x.s, .slice A2 x.ns.length c2, .slice A3 x.l.length c3] 25)).heap.size := by simp
  clear hx hs r2 r3 zk hk
  by_cases h0 : 0 ≤ most
  · have hd : decide (most < 0) = false := decide_eq_false (by omega)
    have H0 := As.mk h0
    go_enter Tryz.func59, Tryz.ntmps59
    go_wp2_with fail
    refine (HC.out H0.out _ HS.out).mono ?_
    rintro e w2 ⟨⟨n, rfl, hU, hL⟩, hb2⟩
    have k0 := (bcell hb2 _ _ hz0).trans (HK.out 0 _ rfl)
    have k1 := (bcell hb2 _ _ hz0).trans (HK.out 1 _ rfl)
    have k2 := (bcell hb2 _ _ hz0).trans (HK.out 2 _ rfl)
    have k3 := (bcell hb2 _ _ hz0).trans (HK.out 3 _ rfl)
    have HB2 := As.mk (Below.then HB.out hb2)
    have HS2 := As.mk (HS.out.below hb2)
    have HU := As.mk hU
    have HL := As.mk hL
    clear hb2 hU hL
    by_cases hm2 : (n : Int) ≤ most
    · have hd2 : decide (most < (n : Int)) = false := decide_eq_false (by omega)
      have hd3 : decide ((n : Int) > most) = false := decide_eq_false (by omega)
      have HM2 := As.mk hm2
      clear hm2
      go_wp2_with fail
      refine (HY.out H0.out _ HS2.out).mono ?_
      rintro e w3 ⟨⟨b, rfl, hU3, hL3⟩, hb3⟩
      have HB3 := As.mk (HB2.out.trans (hb3.mono HB2.out.size))
      have hnb : n + b ≤ 1099511627776 := by have h1 := HU.out; have h2 := HT.out; omega
      have hw : IntKind.i64.wrap ((n : Int) + (b : Int)) = (n : Int) + (b : Int) := IntWalk.i64_in _ (by omega)
      have HU3 := As.mk hU3
      have HL3 := As.mk hL3
      clear hb3 hU3 hL3
      go_wp2
      go_ret
      exact ⟨⟨n + b, by simp, by have h1 := HU.out; have h2 := HT.out; have h3 := HU3.out; omega, fun _ h => by have h1 := HL.out (by omega); have h2 := HL3.out (by omega); have h3 := HT.out; omega⟩, HB3.out⟩
    · have hd2 : decide (most < (n : Int)) = true := decide_eq_true (by omega)
      have HM2 := As.mk hm2
      clear hm2
      go_wp2_with fail
      go_ret
      exact ⟨⟨n, rfl, by have h1 := HU.out; have h2 := HT.out; omega, fun _ h => absurd h (by have := HM2.out; omega)⟩, HB2.out⟩
  · have hd : decide (most < 0) = true := decide_eq_true (by omega)
    have H0 := As.mk h0
    clear h0
    go_enter Tryz.func59, Tryz.ntmps59
    go_wp2_with fail
    go_ret
    exact ⟨⟨0, rfl, Nat.zero_le _, fun h => absurd h (by have := H0.out; omega)⟩, HB.out⟩
end Go.Proofs.YtainigjbjfpoaaaGreatDoor
