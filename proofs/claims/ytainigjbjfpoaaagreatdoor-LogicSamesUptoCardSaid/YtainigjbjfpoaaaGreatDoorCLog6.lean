/- logic.check: the five functions together. -/
import Derived.Test.YtainigjbjfpoaaaGreatDoorCLog5
namespace Go.Proofs.YtainigjbjfpoaaaGreatDoor
open Go.RowKit Go.Shelf Go.Maps

set_option maxRecDepth 100000 in
set_option maxHeartbeats 1000000 in
theorem check5_calls (Q : Pers) (G : Glob Q) (B : Nat) (x : Lo) (cs : List Value) (w : World) (hB : ∀ j v, cs[j]? = some v → Q ⟨B, j, none⟩ v) (hx : Lo.Rep Q x cs) (hs : Sat Q w) :
    Calls Tryz.prog 70 #[.pointer (some ⟨B, 0, none⟩)] w fun e w' => e = .returned (.int .i64 (firstErr (ruErr x) x.ru)) ∧ Below w.heap.size w w' := by
  have C := As.mk (rules_calls Q G x cs w hx hs)
  obtain ⟨A3, c3, A4, c4, A6, c6, A7, c7, A8, c8, A9, c9, A10, c10, rfl, l3, r3, l4, r4, l6, r6, l7, r7, l8, r8, l9, r9, l10, r10, z2, z5, zk, zk2⟩ := hx.open
  have h0 := hs _ _ (hB 0 _ rfl)
  have h1 := hs _ _ (hB 1 _ rfl)
  have h2 := hs _ _ (hB 2 _ rfl)
  have h3 := hs _ _ (hB 3 _ rfl)
  have h4 := hs _ _ (hB 4 _ rfl)
  have h5 := hs _ _ (hB 5 _ rfl)
  have h6 := hs _ _ (hB 6 _ rfl)
  have h7 := hs _ _ (hB 7 _ rfl)
  have h8 := hs _ _ (hB 8 _ rfl)
  have h9 := hs _ _ (hB 9 _ rfl)
  have h10 := hs _ _ (hB 10 _ rfl)
  clear hx hs hB r3 r4 r6 r7 r8 r9 r10
  go_enter Tryz.func70, Tryz.ntmps70
  go_wp2_with (go_at_call 71; refine C.out.mono ?_; rintro e w' ⟨rfl, hb⟩)
  go_ret
  exact ⟨rfl, hb⟩

/-- what is wrong with one itself, its kind and form being right -/
def fiveErr (gl : List ByteArray) (x : Lo) : Nat := firstErr id [nameErr gl, nameErr x.out, headErr x.k x.e, firstErr expErr x.inp, firstErr (ruErr x) x.ru]

theorem firstErr_map {α : Type} (f : α → Nat) (xs : List α) : firstErr f xs = firstErr id (xs.map f) := by
  induction xs with
  | nil => rfl
  | cons x xs ih => simp only [List.map_cons, firstErr, id, ih]

def fiveCells (B0 B1 : Nat) : List Value := [.func (.func 64) #[] #[.pointer (some ⟨B1, 0, none⟩)], .func (.func 66) #[] #[.pointer (some ⟨B0, 0, none⟩)], .func (.func 67) #[] #[.pointer (some ⟨B0, 0, none⟩)], .func (.func 69) #[] #[.pointer (some ⟨B0, 0, none⟩)], .func (.func 70) #[] #[.pointer (some ⟨B0, 0, none⟩)]]

set_option maxRecDepth 100000 in
set_option maxHeartbeats 1000000 in
theorem five_calls (P : Pers) (G : Glob P) (x : Lo) (cs : List Value) (W : World) (B0 B1 c : Nat) (A : Option Addr) (gl : List ByteArray) (hx : Lo.Rep P x cs) (hs : Sat P W)
    (hB0 : ∀ j v, cs[j]? = some v → W.cell? ⟨B0, j, none⟩ = some v) (hB1 : W.cell? ⟨B1, 0, none⟩ = some (.slice A gl.length c)) (hgl : Strs P A gl) (n : Nat) (hn : W.heap.size = n) :
    Calls Tryz.prog 63 #[.slice (some ⟨n, 0, none⟩) 5 5] (W.alloc (.cells (fiveCells B0 B1).toArray 91)) fun e w' => e = .returned (.int .i64 (fiveErr gl x)) ∧ Below W.heap.size W w' := by
  subst hn
  obtain ⟨W', hW'⟩ : ∃ W', W' = W.alloc (.cells (fiveCells B0 B1).toArray 91) := ⟨_, rfl⟩
  have hBW : Below W.heap.size W W' := hW' ▸ (Below.refl _ _).alloc (Nat.le_refl _) _
  have hsW : Sat P W' := hs.below hBW
  have hle := Pers.le_snap P W'
  have G' := G.mono hle
  have hx' := hx.mono hle
  have hgl' : Strs (P.snap W') A gl := hgl.mono hle (fun _ _ _ h => h)
  have k0 : ∀ j v, cs[j]? = some v → (P.snap W') ⟨B0, j, none⟩ v := fun j v h => .inr ((hBW.cell (p := ⟨B0, j, none⟩) (cell_block (hB0 j v h))).trans (hB0 j v h))
  have k1 : (P.snap W') ⟨B1, 0, none⟩ (.slice A gl.length c) := .inr ((hBW.cell (p := ⟨B1, 0, none⟩) (cell_block hB1)).trans hB1)
  have hrow : Row (P.snap W') askRep 1 (some ⟨W.heap.size, 0, none⟩) [(⟨64, #[.pointer (some ⟨B1, 0, none⟩)], nameErr gl⟩ : Ask), ⟨66, #[.pointer (some ⟨B0, 0, none⟩)], nameErr x.out⟩, ⟨67, #[.pointer (some ⟨B0, 0, none⟩)], headErr x.k x.e⟩, ⟨69, #[.pointer (some ⟨B0, 0, none⟩)], firstErr expErr x.inp⟩, ⟨70, #[.pointer (some ⟨B0, 0, none⟩)], firstErr (ruErr x) x.ru⟩] := by
    refine Row.made ((fiveCells B0 B1).map fun v => [v]) (show 5 ≤ maxRow by decide) rfl (fun i y c hy hc => ?_) (fun i c j v hc hv => ?_)
    · rcases i with _ | _ | _ | _ | _ | i <;> simp [fiveCells] at hy hc
      all_goals (subst hy; subst hc; rfl)
    · rw [List.getElem?_map] at hc
      cases hi : (fiveCells B0 B1)[i]? with
      | none => rw [hi] at hc; cases hc
      | some u =>
        rw [hi] at hc
        cases hc
        cases j with
        | succ j => simp at hv
        | zero =>
          simp at hv
          subst hv
          refine .inr ?_
          rw [hW', Nat.mul_one, Nat.zero_add, Nat.add_zero, World.cell?_alloc_mark]
          simpa using hi
  have h := firstOf_calls (P.snap W') (some ⟨W.heap.size, 0, none⟩) 5 _ W' hrow (Sat.snap hsW) (by
    intro y hy
    simp only [List.mem_cons, List.not_mem_nil, or_false] at hy
    rcases hy with rfl | rfl | rfl | rfl | rfl
    · exact enters_of Tryz.func64 (by kernel_rfl) rfl
    · exact enters_of Tryz.func66 (by kernel_rfl) rfl
    · exact enters_of Tryz.func67 (by kernel_rfl) rfl
    · exact enters_of Tryz.func69 (by kernel_rfl) rfl
    · exact enters_of Tryz.func70 (by kernel_rfl) rfl) (by
    obtain ⟨A3, c3, A4, c4, A6, c6, A7, c7, A8, c8, A9, c9, A10, c10, rfl, l3, r3, l4, r4, l6, r6, l7, r7, l8, r8, l9, r9, l10, r10, z2, z5, zk, zk2⟩ := hx'.open
    intro y hy w' hs'
    simp only [List.mem_cons, List.not_mem_nil, or_false] at hy
    rcases hy with rfl | rfl | rfl | rfl | rfl
    · exact check1_calls _ G' B1 A c gl w' k1 hgl' hs'
    · exact check2_calls _ G' B0 A7 c7 x.out w' (k0 7 _ rfl) r7 hs'
    · exact check3_calls _ G' B0 x.k x.e A3 A4 c3 c4 w' (Lo.ex l3 r3 l4 r4 z2 zk2) (k0 0 _ rfl) (k0 1 _ rfl) (k0 2 _ rfl) (k0 3 _ rfl) (k0 4 _ rfl) hs'
    · exact check4_calls _ G' B0 A6 c6 x.inp w' (k0 6 _ rfl) r6 hs'
    · exact check5_calls _ G' B0 x _ w' k0 hx' hs')
  rw [hW'] at h hBW
  refine h.mono ?_
  rintro e w' ⟨rfl, hb⟩
  exact ⟨by rw [firstErr_map]; rfl, Below.then hBW hb⟩
end Go.Proofs.YtainigjbjfpoaaaGreatDoor
