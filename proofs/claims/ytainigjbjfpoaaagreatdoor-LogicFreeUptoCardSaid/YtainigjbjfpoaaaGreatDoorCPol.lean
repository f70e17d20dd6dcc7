/- logic.Policies: the iterator over a table's policies. -/
import Derived.Test.YtainigjbjfpoaaaGreatDoorCRSame3
import Derived.Test.YtainigjbjfpoaaaGreatDoorCKey
namespace Go.Proofs.YtainigjbjfpoaaaGreatDoor
open Go.RowKit Go.Shelf Go.Maps

attribute [local go_sem] Oper.semAt_some

theorem policies_len : policies.length = 7 := rfl
/-- the table lies there -/
def PolAt (W : World) : Prop := ∀ i s, policies[i]? = some s → W.cell? ⟨0, i, none⟩ = some (.string s)
theorem PolAt.of {P : Pers} (G : Glob P) {w : World} (hs : Sat P w) : PolAt w := fun i s h => hs _ _ (G.pol i s h)
theorem PolAt.lt {w : World} (h : PolAt w) : 0 < w.heap.size := World.block_lt_of_cell? w _ (h 0 _ rfl)

theorem idxPol (w : World) (cs : Array Value) (k : Nat) (s : ByteArray) (hk : k < 7) (h : cs[k]? = some (.string s)) :
    (Instr.index 86 (.agg cs) (.int .i64 k)).run Tryz.prog w = .ok (.string s) w := by
  simp [Instr.index, run_underlying Tryz.underlying86, asIntOf, go_sem, hk, h]

set_option maxRecDepth 100000 in
set_option maxHeartbeats 4000000 in
theorem pol1_in (F : Fence) (n : Nat) (h7 : F.fn 58) (hro : F.round = none) (hn : 1 ≤ n) (l : Nat) (Kp : World → World → Prop) (hKr : ∀ W, Kp W W) (hKt : ∀ {A B C}, Kp A B → Kp B C → Kp A C) (J Jx : List ByteArray → World → Prop)
    (hY : ∀ pre x W, J pre W → pre.length < policies.length → YieldAt F (n - 1) Tryz.prog l #[.string x] W fun e W' =>
      (e = .returned (.bool true) ∧ J (pre ++ [x]) W' ∧ Kp W W') ∨ (e = .returned (.bool false) ∧ Jx (pre ++ [x]) W'))
    (W : World) (hc : PolAt W) (h0 : J [] W) :
    CallsIn F n Tryz.prog 58 #[.func (.yield l) #[] #[]] W fun e W' => (∃ v, e = .returned v) ∧
      ((∃ ys, ys = policies ∧ J ys W') ∨ (∃ pre, pre <+: policies ∧ Jx pre W')) := by
  have HC := As.mk hc
  have d0 := hc 0 _ rfl
  have d1 := hc 1 _ rfl
  have d2 := hc 2 _ rfl
  have d3 := hc 3 _ rfl
  have d4 := hc 4 _ rfl
  have d5 := hc 5 _ rfl
  have d6 := hc 6 _ rfl
  clear hc
  refine callsIn_of_wp Tryz.func58 rfl h7 ?_ hro
  simp only [Tryz.ntmps58, List.size_toArray, List.length_cons, List.length_nil, Nat.reduceAdd, Nat.reduceSub, Array.replicate_succ, Array.replicate_zero, List.push_toArray, List.append_toArray, List.nil_append, List.cons_append]
  gi_wp2
  clear d0 d1 d2 d3 d4 d5 d6
  gi_loopw [5] (fun i wr => ∃ k : Nat, k ≤ 7 ∧ i = .int .i64 k ∧ As (J (policies.take k) wr) ∧ As (Kp W wr))
    (fun i _ => 7 - (intOf i).toNat)
  case atStart => exact ⟨0, Nat.zero_le _, rfl, ⟨by simpa using h0⟩, ⟨hKr _⟩⟩
  case round =>
    obtain ⟨k, hk, rfl, hJs, hnx⟩ := hrel
    by_cases hlt : k < 7
    · obtain ⟨x, hx⟩ : ∃ x, As (policies[k]? = some x) := ⟨policies[k], ⟨List.getElem?_eq_getElem (by rw [policies_len]; exact hlt)⟩⟩
      obtain ⟨fn, tmps, assign, body, hy, hR⟩ := hY _ x wr hJs.out (by rw [List.length_take, policies_len]; omega)
      have hidx : (Instr.index 86 (.agg #[.string (bs [65, 78, 89]), .string (bs [67, 79, 76, 76, 69, 67, 84]), .string (bs [70, 73, 82, 83, 84]), .string (bs [79, 85, 84, 80, 85, 84, 32, 79, 82, 68, 69, 82]), .string (bs [80, 82, 73, 79, 82, 73, 84, 89]), .string (bs [82, 85, 76, 69, 32, 79, 82, 68, 69, 82]), .string (bs [85, 78, 73, 81, 85, 69])]) (.int .i64 k)).run Tryz.prog wr = .ok (.string x) wr :=
        idxPol wr (policies.map Value.string).toArray k x hlt (by simp [hx.out])
      gi_wp2
      refine hR.mono ?_
      rintro e W3 (⟨rfl, hJ3, hk3⟩ | ⟨rfl, hJx3⟩)
      · have HX := As.mk (And.intro hJ3 hk3)
        clear hJ3 hk3
        gi_wp2
        go_roundw
        case rel => exact ⟨k + 1, by omega, by simp, ⟨by rw [take_one hx.out]; exact HX.out.1⟩, ⟨hKt hnx.out HX.out.2⟩⟩
        case measure => simp [intOf]; omega
      · have HX := As.mk hJx3
        clear hJx3
        gi_wp2
        refine bodyPost_ret (results_none rfl _ _ _) rfl ?_
        exact ⟨⟨_, rfl⟩, .inr ⟨_, by rw [← take_one hx.out]; exact List.take_prefix _ _, HX.out⟩⟩
    · obtain rfl : k = 7 := by omega
      gi_wp2
      go_end0
      exact ⟨⟨_, rfl⟩, .inl ⟨_, by rw [show (7 : Nat) = policies.length from rfl, List.take_length], hJs.out⟩⟩

theorem pol_stops (F : Fence) (n : Nat) (h7 : F.fn 58) (hro : F.round = none) (hn : 1 ≤ n) (n₀ : Nat) (w : World) (hc : PolAt w) (hn₀ : 0 < n₀) (hle : n₀ ≤ w.heap.size) :
    SeqStopsK F n Tryz.prog 58 #[] (fun x : ByteArray => #[Value.string x]) (Below n₀) (fun ys => ys = policies) (fun pre => pre <+: policies) policies.length w := fun l J Jx W hW _ _ hY h0 =>
  pol1_in F n h7 hro hn l (Below n₀) (Below.refl _) (fun h k => h.trans k) J Jx hY W (fun i s h => ((hW.mono hle).cell (p := ⟨0, i, none⟩) hn₀).trans (hc i s h)) h0
end Go.Proofs.YtainigjbjfpoaaaGreatDoor
