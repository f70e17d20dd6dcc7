/- slices.Grow of nil, slices.Concat of two: a new slice. -/
/- slices.Concat of texts' slices: the walk. -/
import Derived.Test.YtainigjbjfpoaaaGreatDoorCFreeOf
import Derived.Lib.AppendZerosOnto
import Derived.Lib.Walk
import Derived.Lib.SliceRun
import Derived.Deep.Upon
namespace Go.Proofs.YtainigjbjfpoaaaGreatDoor
open Go.RowKit Go.Shelf Go.Maps

set_option maxRecDepth 100000 in
set_option maxHeartbeats 2000000 in
theorem grow_calls (n : Nat) (w : World) (hn : n ≤ 4294967296) :
    Calls Tryz.prog 101 #[.slice none 0 0, .int .i64 n] w fun e w' => ∃ v, e = .returned v ∧ w'.ownsRow w.heap.size 9 1 v 0 [] ∧ Below w.heap.size w w' := by
  obtain ⟨i0, hi, hz0, hz1, hz2⟩ := info_parts infoStr
  by_cases h0 : n = 0
  · subst h0
    go_enter Tryz.func101, Tryz.ntmps101
    go_wp2
    go_ret
    exact ⟨_, rfl, World.ownsRow_nil _ _ _ _, Below.refl _ _⟩
  · have hold : (Builtin.firstCells i0.size 0 (.slice none 0 0)).run Tryz.prog w.drew = .ok ([] : List Value).toArray w.drew := run_firstCells_none w.drew i0.size 0 0 0
    have hrz := fun ty => Lib.run_append_grow_zeros w 22 3 ty 9 i0 (.string ⟨#[]⟩) .i64 .i64 Tryz.underlying22 Tryz.underlying3 hi hz0 none 0 0 [] hold n (by omega) (by omega) (by omega) (by omega) (by rw [hz2]; omega) (growslice_fits (by omega) (by rw [hz2]; omega))
    simp only [Nat.zero_add] at hrz
    have hq := grownCap_ge w n 0 9
    have hq2 := grownCap_le_maxLen w n 0 9 (by unfold maxLen; omega)
    generalize grownCap w n 0 9 = G at *
    have hG63 : G ≤ 9223372036854775807 := by
      unfold maxLen at hq2
      omega
    have h4 : (n : Int) > 0 := by omega
    go_enter Tryz.func101, Tryz.ntmps101
    go_wp2_with (at_builtin; refine Lib.wpList_append_run _ rfl _ _ _ _ rfl _ _ rfl rfl _ _ (hrz _) ?_)
    go_ret
    refine ⟨_, rfl, ⟨rfl, .inr ⟨w.heap.size, G, Builtin.zeroCells #[Value.string ⟨#[]⟩] n ++ Builtin.zeroCells #[Value.string ⟨#[]⟩] (G - n), rfl, Nat.le_refl _, ?_, Nat.zero_le _, hq2, ?_, rfl⟩⟩, pw_below_drewN' ((Below.refl _ w).alloc (Nat.le_refl _) _) 1⟩
    · exact (MapKept.heap_alloc w _).1
    · simp [Builtin.zeroCells]
      omega

set_option maxRecDepth 100000 in
/-- an append of texts onto a row of one's own -/
theorem append_run (base : Nat) (v : Value) (zs ys : List ByteArray) (A : Option Addr) (c : Nat) (W : World) (hrow : W.ownsRow base 9 1 v zs.length (zs.map Value.string)) (hy : StrsAt W.heap.size W A ys) (hz : zs.length + ys.length ≤ 4294967296) (hb : base ≤ W.heap.size) (ty : TypeId) :
    ∃ v' W', (Builtin.append_ #[22, 22] ty #[v, .slice A ys.length c]).run Tryz.prog W = .ok v' W' ∧ W'.ownsRow base 9 1 v' (zs ++ ys).length ((zs ++ ys).map Value.string) ∧ W.grownBy W' v.ownBlock := by
  obtain ⟨i0, hi, hz0, hz1, hz2⟩ := info_parts infoStr
  cases ys with
  | nil =>
    have hsrc : Src Tryz.prog i0.size 22 (.slice A 0 c) 0 [] W := by
      cases A with
      | none => exact Src.ofNil W Tryz.underlying22 c
      | some a => exact Src.ofSlice W Tryz.underlying22 a 0 c [] (by simp) (fun j u h => by simp at h) (fun u h => by cases h)
    have hv : ∃ B l k, v = .slice B l k ∧ l ≤ k := by
      rcases hrow.2 with ⟨rfl, _⟩ | ⟨g, cap, cur, rfl, _, _, h, _⟩
      · exact ⟨_, _, _, rfl, Nat.le_refl _⟩
      · exact ⟨_, _, _, rfl, h⟩
    obtain ⟨B, l, k, rfl, hlk⟩ := hv
    exact ⟨_, W, run_append_nothing W _ _ ty _ i0 Tryz.underlying22 hi B l k hlk _ hsrc, by simpa using hrow, ⟨rfl, rfl, rfl, Nat.le_refl _, fun _ _ _ => rfl⟩⟩
  | cons y ys =>
    obtain ⟨b, o, rfl, _, _⟩ := hy 0 y rfl
    have hcell : ∀ j u, ((y :: ys).map Value.string)[j]? = some u → W.cell? ((⟨b, o, none⟩ : Addr).add j) = some u := fun j u hj => by
      rw [List.getElem?_map] at hj
      obtain ⟨x, hx, rfl⟩ := Option.map_eq_some_iff.1 hj
      obtain ⟨b', o', e, _, hc⟩ := hy j x hx
      obtain ⟨rfl, rfl⟩ : b = b' ∧ o = o' := by
        injection e with e
        injection e with e1 e2
        exact ⟨e1, e2⟩
      have : (⟨b, o, none⟩ : Addr).add j = ⟨b, o + j, none⟩ := by unfold Addr.add; split <;> simp_all
      rw [this]
      exact hc
    obtain ⟨v', W', h1, h2, h3, _⟩ := run_append_own (P := Tryz.prog) W base 22 ty 9 i0 (.string ⟨#[]⟩) 1 16 Tryz.underlying22 hi hz0 hz1 hz2 rfl (by decide) v zs.length _ hrow ⟨b, o, none⟩ (y :: ys).length c ((y :: ys).map Value.string) (by simp) hcell (fun u hu => by obtain ⟨x, _, rfl⟩ := List.mem_map.1 hu; rfl) (by unfold maxLen; omega) (by omega) hb
    exact ⟨v', W', h1, by rw [List.length_append, List.map_append]; exact h2, h3⟩

/-- slices' headers in a row, and what they hold -/
def RowsAt (W : World) (b o : Nat) (xss : List (List ByteArray)) : Prop := ∀ i xs, xss[i]? = some xs → ∃ A c, W.cell? ⟨b, o + i, none⟩ = some (.slice A xs.length c) ∧ StrsAt W.heap.size W A xs
theorem RowsAt.later {W W' : World} {b o : Nat} {xss : List (List ByteArray)} (h : RowsAt W b o xss) (hb : Below W.heap.size W W') : RowsAt W' b o xss := fun i xs hi => by
  obtain ⟨A, c, h1, h2⟩ := h i xs hi
  exact ⟨A, c, (hb.cell (World.block_lt_of_cell? W _ h1)).trans h1, (h2.below hb).mono hb.size⟩
end Go.Proofs.YtainigjbjfpoaaaGreatDoor

namespace Go.Proofs.YtainigjbjfpoaaaGreatDoor
open Go.RowKit Go.Shelf Go.Maps

theorem flat_take {α : Type} (xss : List (List α)) {k : Nat} {xs : List α} (h : xss[k]? = some xs) : (xss.take (k + 1)).flatten = (xss.take k).flatten ++ xs := by
  rw [take_one h, List.flatten_append]; simp
theorem flat_take_le {α : Type} (xss : List (List α)) (k : Nat) : (xss.take k).flatten.length ≤ xss.flatten.length := by
  have h := congrArg (fun l => l.flatten.length) (List.take_append_drop k xss)
  simp only [List.flatten_append, List.length_append] at h
  omega

/-- how long they are together -/
def flatLen (xss : List (List ByteArray)) : Nat := xss.flatten.length
theorem flatLen_succ {xss : List (List ByteArray)} {k : Nat} {xs : List ByteArray} (h : xss[k]? = some xs) : flatLen (xss.take (k + 1)) = flatLen (xss.take k) + xs.length := by
  unfold flatLen
  rw [flat_take xss h, List.length_append]

set_option maxRecDepth 100000 in
set_option maxHeartbeats 4000000 in
theorem concat_calls (b o c : Nat) (xss : List (List ByteArray)) (w : World) (hl : xss.length ≤ 4294967296) (hx : RowsAt w b o xss) (hsum : xss.flatten.length ≤ 4294967296) :
    Calls Tryz.prog 75 #[.slice (some ⟨b, o, none⟩) xss.length c] w fun e w' => (∃ A c', e = .returned (.slice A xss.flatten.length c') ∧ xss.flatten.length ≤ c' ∧ StrsAt w'.heap.size w' A xss.flatten) ∧ Below w.heap.size w w' := by
  have HX := As.mk hx
  have HSU := As.mk (show flatLen xss ≤ 4294967296 from hsum)
  clear hx hsum
  go_enter Tryz.func75, Tryz.ntmps75
  go_wp2
  go_loopw [3, 11] (fun s i wr => ∃ k : Nat, s = .int .i64 (flatLen (xss.take k) : Nat) ∧ i = .int .i64 k ∧ k ≤ xss.length ∧ As (w = wr)) (fun _ i _ => xss.length - (intOf i).toNat)
  case atStart => exact ⟨0, rfl, rfl, Nat.zero_le _, ⟨rfl⟩⟩
  case round =>
    obtain ⟨k, rfl, rfl, hk, ⟨rfl⟩⟩ := hrel
    by_cases hlt : k < xss.length
    · obtain ⟨xs, hxs⟩ : ∃ xs, As (xss[k]? = some xs) := ⟨xss[k], ⟨List.getElem?_eq_getElem hlt⟩⟩
      obtain ⟨A, ca, hc, _⟩ := HX.out k xs hxs.out
      have HN := As.mk (flatLen_succ hxs.out)
      have hle : flatLen (xss.take k) + xs.length ≤ 4294967296 := by
        rw [← HN.out]
        exact Nat.le_trans (flat_take_le xss (k + 1)) HSU.out
      have hw : IntKind.i64.wrap ((flatLen (xss.take k) : Int) + (xs.length : Int)) = (flatLen (xss.take k) : Int) + (xs.length : Int) := IntWalk.i64_in _ (by omega)
      have hneg : decide ((flatLen (xss.take k) : Int) + (xs.length : Int) < 0) = false := decide_eq_false (by omega)
      generalize flatLen (xss.take k) = s at *
      go_wp2
      go_roundw
      case rel => exact ⟨k + 1, by rw [HN.out]; simp, by go_num, by omega, ⟨trivial⟩⟩
      case measure => simp [intOf]; omega
    · obtain rfl : k = xss.length := by omega
      have ht := List.take_length (l := xss)
      rw [ht]
      have HG := As.mk (grow_calls (flatLen xss) w HSU.out)
      clear ht
      go_wp2_with (go_at_call 101; refine HG.out.mono ?_; rintro e w2 ⟨v0, rfl, hrow0, hb0⟩)
      have HB0 := As.mk hb0
      have HR0 := As.mk hrow0
      clear hb0 hrow0
      go_loopw [6, 27] (fun v i wr => ∃ k : Nat, i = .int .i64 k ∧ k ≤ xss.length ∧ As (Below w.heap.size w wr) ∧ As (wr.ownsRow w.heap.size 9 1 v (xss.take k).flatten.length ((xss.take k).flatten.map Value.string))) (fun _ i _ => xss.length - (intOf i).toNat)
      case atStart => exact ⟨0, rfl, Nat.zero_le _, HB0, ⟨by simpa using HR0.out⟩⟩
      case round =>
        obtain ⟨k, rfl, hk, hBr, hrow⟩ := hrel
        by_cases hlt : k < xss.length
        · obtain ⟨xs, hxs⟩ : ∃ xs, As (xss[k]? = some xs) := ⟨xss[k], ⟨List.getElem?_eq_getElem hlt⟩⟩
          obtain ⟨A, ca, hc, hst⟩ := (HX.out.later hBr.out) k xs hxs.out
          have hn : (xss.take (k + 1)).flatten = (xss.take k).flatten ++ xs := flat_take xss hxs.out
          have hle := Nat.le_trans (flat_take_le xss (k + 1)) HSU.out
          obtain ⟨v', w4, hrun, hrow4, hg4⟩ := append_run w.heap.size _ (xss.take k).flatten xs A ca wr hrow.out hst (by rw [hn, List.length_append] at hle; omega) hBr.out.size 22
          rw [← hn] at hrow4
          have HX4 := As.mk (And.intro (hBr.out.grown hg4 hBr.out.size (fun j hj => (hrow.out.lt j hj).1)) hrow4)
          clear hn hle hst hrow4 hg4 hrow
          go_wp2_with (at_builtin; refine Lib.wpList_append_run _ rfl _ _ _ _ rfl _ _ rfl rfl _ _ hrun ?_)
          go_roundw
          case rel => exact ⟨k + 1, by go_num, by omega, ⟨HX4.out.1⟩, ⟨HX4.out.2⟩⟩
          case measure => simp [intOf]; omega
        · obtain rfl : k = xss.length := by omega
          have hr := hrow.out
          rw [List.take_length] at hr
          have HR := As.mk hr
          clear hr hrow
          go_wp2
          go_ret
          obtain ⟨A, c', e, hc, hst⟩ := StrsAt.of_row HR.out
          exact ⟨⟨A, c', by rw [← e]; rfl, hc, hst⟩, hBr.out⟩
end Go.Proofs.YtainigjbjfpoaaaGreatDoor
