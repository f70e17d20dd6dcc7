/- logic.check's functions. -/
/- logic.check: the five functions together. -/
/- logic.check. -/
import Derived.Test.YtainigjbjfpoaaaGreatDoorCLog3
namespace Go.Proofs.YtainigjbjfpoaaaGreatDoor
open Go.RowKit Go.Shelf Go.Maps

theorem check1_calls (Q : Pers) (G : Glob Q) (B : Nat) (A : Option Addr) (c : Nat) (l : List ByteArray) (w : World) (hB : Q ⟨B, 0, none⟩ (.slice A l.length c)) (hl : Strs Q A l) (hs : Sat Q w) :
    Calls Tryz.prog 64 #[.pointer (some ⟨B, 0, none⟩)] w fun e w' => e = .returned (.int .i64 (nameErr l)) ∧ Below w.heap.size w w' := by
  have hc := hs _ _ hB
  have C := As.mk (named_calls Q G A c l w hl hs)
  clear hl hs hB
  go_enter Tryz.func64, Tryz.ntmps64
  go_wp2_with (go_at_call 65; refine C.out.mono ?_; rintro e w' ⟨rfl, hb⟩)
  go_ret
  exact ⟨rfl, hb⟩
theorem check2_calls (Q : Pers) (G : Glob Q) (B : Nat) (A : Option Addr) (c : Nat) (l : List ByteArray) (w : World) (hB : Q ⟨B, 7, none⟩ (.slice A l.length c)) (hl : Strs Q A l) (hs : Sat Q w) :
    Calls Tryz.prog 66 #[.pointer (some ⟨B, 0, none⟩)] w fun e w' => e = .returned (.int .i64 (nameErr l)) ∧ Below w.heap.size w w' := by
  have hc := hs _ _ hB
  have C := As.mk (named_calls Q G A c l w hl hs)
  clear hl hs hB
  go_enter Tryz.func66, Tryz.ntmps66
  go_wp2_with (go_at_call 65; refine C.out.mono ?_; rintro e w' ⟨rfl, hb⟩)
  go_ret
  exact ⟨rfl, hb⟩
theorem check4_calls (Q : Pers) (G : Glob Q) (B : Nat) (A : Option Addr) (c : Nat) (l : List Ex) (w : World) (hB : Q ⟨B, 6, none⟩ (.slice A l.length c)) (hl : Exs Q A l) (hs : Sat Q w) :
    Calls Tryz.prog 69 #[.pointer (some ⟨B, 0, none⟩)] w fun e w' => e = .returned (.int .i64 (firstErr expErr l)) ∧ Below w.heap.size w w' := by
  have hc := hs _ _ hB
  have C := As.mk (exprs_calls Q G A c l w hl hs)
  clear hl hs hB
  go_enter Tryz.func69, Tryz.ntmps69
  go_wp2_with (go_at_call 68; refine C.out.mono ?_; rintro e w' ⟨rfl, hb⟩)
  go_ret
  exact ⟨rfl, hb⟩

/-- a row of one expression, made by the call itself -/
theorem exs_one {P : Pers} {x : Ex} {cs : List Value} (h : Ex.Rep P x cs) (b : Nat) : Exs (P.put b 0 cs) (some ⟨b, 0, none⟩) [x] := by
  refine Row.made [cs] (show 1 ≤ maxRow by decide) rfl (fun i y c hy hc => ?_) (fun i c j v hc hv => ?_)
  · cases i with
    | zero => simp at hy hc; subst hy; subst hc; exact h.mono (Pers.le_put _ _ _ _)
    | succ i => simp at hy
  · cases i with
    | zero => simp at hc; subst hc; simpa using Pers.put_at P b 0 cs hv
    | succ i => simp at hc

/-- what is wrong with what is called, or told -/
def headErr (k : Int) (x : Ex) : Nat := if k = 0 ∨ k = 3 then firstErr expErr [x] else 0

set_option maxRecDepth 100000 in
set_option maxHeartbeats 1000000 in
theorem check3_calls (Q : Pers) (G : Glob Q) (B : Nat) (k : Int) (x : Ex) (A2 A3 : Option Addr) (c2 c3 : Nat) (w : World) (hx : Ex.Rep Q x [.int .i64 x.k, .string x.s, .slice A2 x.ns.length c2, .slice A3 x.l.length c3])
    (b0 : Q ⟨B, 0, none⟩ (.int .i64 k)) (b1 : Q ⟨B, 1, none⟩ (.int .i64 x.k)) (b2 : Q ⟨B, 2, none⟩ (.string x.s)) (b3 : Q ⟨B, 3, none⟩ (.slice A2 x.ns.length c2)) (b4 : Q ⟨B, 4, none⟩ (.slice A3 x.l.length c3)) (hs : Sat Q w) :
    Calls Tryz.prog 67 #[.pointer (some ⟨B, 0, none⟩)] w fun e w' => e = .returned (.int .i64 (headErr k x)) ∧ Below w.heap.size w w' := by
  have h0 := hs _ _ b0
  have h1 := hs _ _ b1
  have h2 := hs _ _ b2
  have h3 := hs _ _ b3
  have h4 := hs _ _ b4
  have hz := cell_block h0
  have hrow := exs_one hx w.heap.size
  have hsQ : Sat (Q.put w.heap.size 0 [.int .i64 x.k, .string x.s, .slice A2 x.ns.length c2, .slice A3 x.l.length c3]) (w.alloc (.cells #[.int .i64 x.k, .string x.s, .slice A2 x.ns.length c2, .slice A3 x.l.length c3] 25)) :=
    Sat.put (hs.alloc _) fun j v hj => by rw [Nat.zero_add, World.cell?_alloc_mark]; simpa using hj
  have C := As.mk (exprs_calls _ (G.mono (Pers.le_put _ _ _ _)) (some ⟨w.heap.size, 0, none⟩) 1 [x] _ hrow hsQ)
  clear b0 b1 b2 b3 b4 hs hrow hsQ hx
  by_cases k0 : k = 0
  · have HK := As.mk (show headErr k x = firstErr expErr [x] from if_pos (by omega))
    subst k0
    go_enter Tryz.func67, Tryz.ntmps67
    go_wp2_with (go_at_call 68; refine C.out.mono ?_; rintro e w' ⟨rfl, hb⟩)
    go_ret
    exact ⟨by rw [HK.out]; rfl, Below.then ((Below.refl _ _).alloc (Nat.le_refl _) _) hb⟩
  · have q0 : (k == 0) = false := beq_eq_false_iff_ne.2 k0
    by_cases k3 : k = 3
    · have HK := As.mk (show headErr k x = firstErr expErr [x] from if_pos (by omega))
      subst k3
      go_enter Tryz.func67, Tryz.ntmps67
      go_wp2_with (go_at_call 68; refine C.out.mono ?_; rintro e w' ⟨rfl, hb⟩)
      go_ret
      exact ⟨by rw [HK.out]; rfl, Below.then ((Below.refl _ _).alloc (Nat.le_refl _) _) hb⟩
    · have q3 : (k == 3) = false := beq_eq_false_iff_ne.2 k3
      have HK := As.mk (show headErr k x = 0 from if_neg (by omega))
      clear k0 k3
      go_enter Tryz.func67, Tryz.ntmps67
      go_wp2
      go_ret
      exact ⟨by rw [HK.out]; rfl, Below.refl _ _⟩
end Go.Proofs.YtainigjbjfpoaaaGreatDoor

namespace Go.Proofs.YtainigjbjfpoaaaGreatDoor
open Go.RowKit Go.Shelf Go.Maps

set_option maxRecDepth 100000 in
set_option maxHeartbeats 1000000 in
theorem check5_calls (Q : Pers) (G : Glob Q) (B : Nat) (x : Lo) (cs : List Value) (w : World) (hB : ∀ j v, cs[j]? = some v → Q ⟨B, j, none⟩ v) (hx : Lo.Rep Q x cs) (hs : Sat Q w) :
    Calls Tryz.prog 70 #[.pointer (some ⟨B, 0, none⟩)] w fun e w' => e = .returned (.int .i64 (firstErr (ruErr x) x.ru)) ∧ Below w.heap.size w w' := by
  have C := As.mk (rules_calls Q G x cs w hx hs)
  obtain ⟨A3, c3, A4, c4, A6, c6, A7, c7, A8, c8, A9, c9, A10, c10, rfl, l3, r3, l4, r4, l6, r6, l7, r7, l8, r8, l9, r9, l10, r10, z2, z5, zk, zk2⟩ := hx.open
  have h0 := hs _ _ (hB 0 _ rfl)
  have h1 := hs _ _ (hB 1 _ rfl)
  have h2 := hs _ _ (hB 2 _ rfl)
  have h3 := hs _ _ (hB 3 _ rfl)
  have h4 := hs _ _ (hB 4 _ rfl)
  have h5 := hs _ _ (hB 5 _ rfl)
  have h6 := hs _ _ (hB 6 _ rfl)
  have h7 := hs _ _ (hB 7 _ rfl)
  have h8 := hs _ _ (hB 8 _ rfl)
  have h9 := hs _ _ (hB 9 _ rfl)
  have h10 := hs _ _ (hB 10 _ rfl)
  clear hx hs hB r3 r4 r6 r7 r8 r9 r10
  go_enter Tryz.func70, Tryz.ntmps70
  go_wp2_with (go_at_call 71; refine C.out.mono ?_; rintro e w' ⟨rfl, hb⟩)
  go_ret
  exact ⟨rfl, hb⟩

/-- what is wrong with one itself, its kind and form being right -/
def fiveErr (gl : List ByteArray) (x : Lo) : Nat := firstErr id [nameErr gl, nameErr x.out, headErr x.k x.e, firstErr expErr x.inp, firstErr (ruErr x) x.ru]

theorem firstErr_map {α : Type} (f : α → Nat) (xs : List α) : firstErr f xs = firstErr id (xs.map f) := by
  induction xs with
  | nil => rfl
  | cons x xs ih => simp only [List.map_cons, firstErr, id, ih]

def fiveCells (B0 B1 : Nat) : List Value := [.func (.func 64) #[] #[.pointer (some ⟨B1, 0, none⟩)], .func (.func 66) #[] #[.pointer (some ⟨B0, 0, none⟩)], .func (.func 67) #[] #[.pointer (some ⟨B0, 0, none⟩)], .func (.func 69) #[] #[.pointer (some ⟨B0, 0, none⟩)], .func (.func 70) #[] #[.pointer (some ⟨B0, 0, none⟩)]]

set_option maxRecDepth 100000 in
set_option maxHeartbeats 1000000 in
theorem five_calls (P : Pers) (G : Glob P) (x : Lo) (cs : List Value) (W : World) (B0 B1 c : Nat) (A : Option Addr) (gl : List ByteArray) (hx : Lo.Rep P x cs) (hs : Sat P W)
    (hB0 : ∀ j v, cs[j]? = some v → W.cell? ⟨B0, j, none⟩ = some v) (hB1 : W.cell? ⟨B1, 0, none⟩ = some (.slice A gl.length c)) (hgl : Strs P A gl) (n : Nat) (hn : W.heap.size = n) :
    Calls Tryz.prog 63 #[.slice (some ⟨n, 0, none⟩) 5 5] (W.alloc (.cells (fiveCells B0 B1).toArray 91)) fun e w' => e = .returned (.int .i64 (fiveErr gl x)) ∧ Below W.heap.size W w' := by
  subst hn
  obtain ⟨W', hW'⟩ : ∃ W', W' = W.alloc (.cells (fiveCells B0 B1).toArray 91) := ⟨_, rfl⟩
  have hBW : Below W.heap.size W W' := hW' ▸ (Below.refl _ _).alloc (Nat.le_refl _) _
  have hsW : Sat P W' := hs.below hBW
  have hle := Pers.le_snap P W'
  have G' := G.mono hle
  have hx' := hx.mono hle
  have hgl' : Strs (P.snap W') A gl := hgl.mono hle (fun _ _ _ h => h)
  have k0 : ∀ j v, cs[j]? = some v → (P.snap W') ⟨B0, j, none⟩ v := fun j v h => .inr ((hBW.cell (p := ⟨B0, j, none⟩) (cell_block (hB0 j v h))).trans (hB0 j v h))
  have k1 : (P.snap W') ⟨B1, 0, none⟩ (.slice A gl.length c) := .inr ((hBW.cell (p := ⟨B1, 0, none⟩) (cell_block hB1)).trans hB1)
  have hrow : Row (P.snap W') askRep 1 (some ⟨W.heap.size, 0, none⟩) [(⟨64, #[.pointer (some ⟨B1, 0, none⟩)], nameErr gl⟩ : Ask), ⟨66, #[.pointer (some ⟨B0, 0, none⟩)], nameErr x.out⟩, ⟨67, #[.pointer (some ⟨B0, 0, none⟩)], headErr x.k x.e⟩, ⟨69, #[.pointer (some ⟨B0, 0, none⟩)], firstErr expErr x.inp⟩, ⟨70, #[.pointer (some ⟨B0, 0, none⟩)], firstErr (ruErr x) x.ru⟩] := by
    refine Row.made ((fiveCells B0 B1).map fun v => [v]) (show 5 ≤ maxRow by decide) rfl (fun i y c hy hc => ?_) (fun i c j v hc hv => ?_)
    · rcases i with _ | _ | _ | _ | _ | i <;> simp [fiveCells] at hy hc
      all_goals (subst hy; subst hc; rfl)
    · rw [List.getElem?_map] at hc
      cases hi : (fiveCells B0 B1)[i]? with
      | none => rw [hi] at hc; cases hc
      | some u =>
        rw [hi] at hc
        cases hc
        cases j with
        | succ j => simp at hv
        | zero =>
          simp at hv
          subst hv
          refine .inr ?_
          rw [hW', Nat.mul_one, Nat.zero_add, Nat.add_zero, World.cell?_alloc_mark]
          simpa using hi
  have h := firstOf_calls (P.snap W') (some ⟨W.heap.size, 0, none⟩) 5 _ W' hrow (Sat.snap hsW) (by
    intro y hy
    simp only [List.mem_cons, List.not_mem_nil, or_false] at hy
    rcases hy with rfl | rfl | rfl | rfl | rfl
    · exact enters_of Tryz.func64 (by kernel_rfl) rfl
    · exact enters_of Tryz.func66 (by kernel_rfl) rfl
    · exact enters_of Tryz.func67 (by kernel_rfl) rfl
    · exact enters_of Tryz.func69 (by kernel_rfl) rfl
    · exact enters_of Tryz.func70 (by kernel_rfl) rfl) (by
    obtain ⟨A3, c3, A4, c4, A6, c6, A7, c7, A8, c8, A9, c9, A10, c10, rfl, l3, r3, l4, r4, l6, r6, l7, r7, l8, r8, l9, r9, l10, r10, z2, z5, zk, zk2⟩ := hx'.open
    intro y hy w' hs'
    simp only [List.mem_cons, List.not_mem_nil, or_false] at hy
    rcases hy with rfl | rfl | rfl | rfl | rfl
    · exact check1_calls _ G' B1 A c gl w' k1 hgl' hs'
    · exact check2_calls _ G' B0 A7 c7 x.out w' (k0 7 _ rfl) r7 hs'
    · exact check3_calls _ G' B0 x.k x.e A3 A4 c3 c4 w' (Lo.ex l3 r3 l4 r4 z2 zk2) (k0 0 _ rfl) (k0 1 _ rfl) (k0 2 _ rfl) (k0 3 _ rfl) (k0 4 _ rfl) hs'
    · exact check4_calls _ G' B0 A6 c6 x.inp w' (k0 6 _ rfl) r6 hs'
    · exact check5_calls _ G' B0 x _ w' k0 hx' hs')
  rw [hW'] at h hBW
  refine h.mono ?_
  rintro e w' ⟨rfl, hb⟩
  exact ⟨by rw [firstErr_map]; rfl, Below.then hBW hb⟩
end Go.Proofs.YtainigjbjfpoaaaGreatDoor

namespace Go.Proofs.YtainigjbjfpoaaaGreatDoor
open Go.RowKit Go.Shelf Go.Maps

/-- does a context's last name stand for its result? -/
def open_ (x : Lo) : Bool := decide (x.k = 2) && (match x.ns.getLast? with | some s => decide (s.size = 0) | none => false)
/-- the names that are names -/
def given (x : Lo) : List ByteArray := if open_ x then x.ns.take (x.ns.length - 1) else x.ns
/-- what is wrong with one itself -/
def loOwn (x : Lo) : Nat := if x.k < 0 ∨ 3 < x.k then 2 else if form x = false then 17 else fiveErr (given x) x
mutual
def Lo.err : Lo → Nat
  | ⟨k, e, pol, inp, out, ru, ns, l⟩ => if loOwn ⟨k, e, pol, inp, out, ru, ns, l⟩ = 0 then Lo.errs l else loOwn ⟨k, e, pol, inp, out, ru, ns, l⟩
def Lo.errs : List Lo → Nat
  | [] => 0
  | x :: xs => if Lo.err x = 0 then Lo.errs xs else Lo.err x
end
theorem Lo.err_eq (x : Lo) : Lo.err x = if loOwn x = 0 then Lo.errs x.l else loOwn x := by
  cases x
  rw [Lo.err]
theorem Strs.take {P : Pers} {A : Option Addr} {l : List ByteArray} (h : Strs P A l) (n : Nat) : Strs P A (l.take n) := by
  obtain ⟨css, h0, h1, h2⟩ := h
  refine ⟨css, Nat.le_trans (List.length_take_le' _ _) h0, fun i x hx => h1 i x ?_, fun i j v hi hj => h2 i j v (Nat.lt_of_lt_of_le hi (List.length_take_le' _ _)) hj⟩
  rw [List.getElem?_take] at hx
  split at hx
  · exact hx
  · cases hx

set_option maxRecDepth 100000 in
set_option maxHeartbeats 6000000 in
theorem loCheck_calls (P : Pers) (G : Glob P) : ∀ (m : Nat) (x : Lo) (cs : List Value) (w : World), x.sz ≤ m → Lo.Rep P x cs → Sat P w →
    Calls Tryz.prog 27 #[.agg cs.toArray] w fun e w' => e = .returned (.int .i64 (Lo.err x)) ∧ Below w.heap.size w w' := by
  intro m
  induction m with
  | zero => intro x cs w h; cases x; simp [Lo.sz] at h
  | succ m ih =>
    intro x cs w hn hx hs
    have IH := As.mk (fun (y : Lo) (hy : y ∈ x.l) cy w hr hs => ih y cy w (by have := Lo.lt_of_mem hy; omega) hr hs)
    have HQ := As.mk (Lo.err_eq x)
    have HO := As.mk (loOwn.eq_1 x)
    have HF := As.mk (fun w hs => form_calls P G x cs w hx hs)
    have HX := As.mk hx
    obtain ⟨A3, c3, A4, c4, A6, c6, A7, c7, A8, c8, A9, c9, A10, c10, rfl, l3, r3, l4, r4, l6, r6, l7, r7, l8, r8, l9, r9, l10, r10, z2, z5, zk, zk2⟩ := hx.open
    have HR := As.mk r10
    have HN := As.mk r9
    have hlen := r10.len
    have hlen9 := r9.len
    have hB0 : Below w.heap.size w (w.alloc (.cells #[.int .i64 x.k, .int .i64 x.e.k, .string x.e.s, .slice A3 x.e.ns.length c3, .slice A4 x.e.l.length c4, .string x.pol, .slice A6 x.inp.length c6, .slice A7 x.out.length c7, .slice A8 x.ru.length c8, .slice A9 x.ns.length c9, .slice A10 x.l.length c10] 29)) := (Below.refl _ _).alloc (Nat.le_refl _) _
    have HB := As.mk hB0
    have HS := As.mk (hs.alloc (.cells #[.int .i64 x.k, .int .i64 x.e.k, .string x.e.s, .slice A3 x.e.ns.length c3, .slice A4 x.e.l.length c4, .string x.pol, .slice A6 x.inp.length c6, .slice A7 x.out.length c7, .slice A8 x.ru.length c8, .slice A9 x.ns.length c9, .slice A10 x.l.length c10] 29))
    have HK : As (∀ j v, [.int .i64 x.k, .int .i64 x.e.k, .string x.e.s, .slice A3 x.e.ns.length c3, .slice A4 x.e.l.length c4, .string x.pol, .slice A6 x.inp.length c6, .slice A7 x.out.length c7, .slice A8 x.ru.length c8, .slice A9 x.ns.length c9, .slice A10 x.l.length c10][j]? = some v → (w.alloc (.cells #[.int .i64 x.k, .int .i64 x.e.k, .string x.e.s, .slice A3 x.e.ns.length c3, .slice A4 x.e.l.length c4, .string x.pol, .slice A6 x.inp.length c6, .slice A7 x.out.length c7, .slice A8 x.ru.length c8, .slice A9 x.ns.length c9, .slice A10 x.l.length c10] 29)).cell? ⟨w.heap.size, j, none⟩ = some v) := ⟨fun j v h => by rw [World.cell?_alloc_mark]; simpa using h⟩
    have hz0 : w.heap.size < (w.alloc (.cells #[.int .i64 x.k, .int .i64 x.e.k, .string x.e.s, .slice A3 x.e.ns.length c3, .slice A4 x.e.l.length c4, .string x.pol, .slice A6 x.inp.length c6, .slice A7 x.out.length c7, .slice A8 x.ru.length c8, .slice A9 x.ns.length c9, .slice A10 x.l.length c10] 29)).heap.size := by simp
    clear ih hx hs r3 r4 r6 r7 r8 r9 r10 hB0
    by_cases hk : x.k < 0 ∨ 3 < x.k
    · have HO1 := As.mk (HO.out.trans (if_pos hk))
      have HV := As.mk (HQ.out.trans (if_neg (by rw [HO1.out]; decide)))
      clear HO HQ
      rcases hk with hk | hk
      · go_enter Tryz.func27, Tryz.ntmps27
        go_wp2
        go_ret
        exact ⟨by rw [HV.out, HO1.out]; rfl, HB.out⟩
      · have hk1 : ¬ x.k < 0 := by omega
        go_enter Tryz.func27, Tryz.ntmps27
        go_wp2
        go_ret
        exact ⟨by rw [HV.out, HO1.out]; rfl, HB.out⟩
    have HO1 := As.mk (HO.out.trans (if_neg hk))
    have hk1 : 0 ≤ x.k := by omega
    have hk2 : x.k ≤ 3 := by omega
    clear hk HO
    cases hf : form x
    · have HO2 := As.mk (HO1.out.trans (if_pos hf))
      have HV := As.mk (HQ.out.trans (if_neg (by rw [HO2.out]; decide)))
      rw [hf] at HF
      clear HO1 HQ hf
      go_enter Tryz.func27, Tryz.ntmps27
      go_wp2_with (go_at_call 62; refine (HF.out _ HS.out).mono ?_; rintro e w1 ⟨rfl, hb1⟩)
      go_ret
      exact ⟨by rw [HV.out, HO2.out]; rfl, Below.then HB.out hb1⟩
    have HO2 := As.mk (HO1.out.trans (if_neg (by rw [hf]; decide)))
    have HFm := As.mk hf
    rw [hf] at HF
    clear HO1 hf
    by_cases k2 : x.k = 2
    · have hn0 : 0 < x.ns.length := by
        have h := HFm.out
        unfold form at h
        rw [if_neg (by omega), if_neg (by omega), if_pos k2] at h
        simp only [Bool.and_eq_true, decide_eq_true_eq, beq_iff_eq] at h
        omega
      obtain ⟨s, hs⟩ : ∃ s, As (x.ns[x.ns.length - 1]? = some s) := ⟨x.ns[x.ns.length - 1], ⟨List.getElem?_eq_getElem (by omega)⟩⟩
      obtain ⟨b9, o9, rfl, hp9, hsz⟩ := Row.str HN.out hs.out
      have hla : x.ns.getLast? = some s := by rw [List.getLast?_eq_getElem?]; exact hs.out
      have q2 : (x.k == 2) = true := beq_iff_eq.2 k2
      have ho : open_ x = decide (s.size = 0) := by unfold open_; rw [decide_eq_true k2, hla]; rfl
      have he := size_empty s
      have HP9 := As.mk hp9
      have n1 : (0 : Int) ≤ (x.ns.length : Int) - 1 := by omega
      have n2 : (x.ns.length : Int) - 1 < (x.ns.length : Int) := by omega
      have n3 : ((x.ns.length : Int) - 1).toNat = x.ns.length - 1 := by omega
      have n4 : x.ns.length - 1 ≤ c9 := by omega
      clear k2 hla hp9
      cases h0 : decide (s.size = 0)
      · have hg : given x = x.ns := by unfold given; rw [ho, h0]; rfl
        rw [hg] at HO2
        rw [h0] at he
        clear hg ho h0
        go_enter Tryz.func27, Tryz.ntmps27
        go_wp2_with (go_at_call 62; refine (HF.out _ HS.out).mono ?_; rintro e w1 ⟨rfl, hb1⟩; have k0 := fun j v h => (bcell hb1 _ _ hz0).trans (HK.out j v h); have q0 := k0 0 _ rfl; have q9 := k0 9 _ rfl; have q10 := k0 10 _ rfl; have hz1 := cell_block q0; have hB1 := As.mk (Below.then HB.out hb1); have hs1 := As.mk (HS.out.below hb1); have K0 := As.mk k0; have qs := hs1.out _ _ HP9.out; have hz9 := cell_block qs; clear k0 hb1)
        have hbW : Below w1.heap.size w1 (w1.alloc (.cells #[.slice (some ⟨b9, o9, none⟩) x.ns.length c9] 22)) := (Below.refl _ _).alloc (Nat.le_refl _) _
        have H5 := As.mk (five_calls P G x _ (w1.alloc (.cells #[.slice (some ⟨b9, o9, none⟩) x.ns.length c9] 22)) w.heap.size w1.heap.size c9 (some ⟨b9, o9, none⟩) x.ns HX.out (hs1.out.alloc _) (fun j v h => (bcell hbW _ _ hz1).trans (K0.out j v h)) (World.cell?_alloc_mark ..) HN.out (w1.heap.size + 1) (by simp))
        unfold fiveCells at H5
        by_cases hv : fiveErr x.ns x = 0
        · rw [hv] at HO2
          have HV := As.mk (HQ.out.trans (if_pos HO2.out))
          have HI := As.mk (show Lo.errs x.l = Lo.errs (x.l.drop 0) from rfl)
          rw [hv] at H5
          clear hv HQ HO2
          go_wp2_with fail
          refine H5.out.mono ?_
          rintro e w2 ⟨rfl, hb2⟩
          have hb3 := Below.then hbW hb2
          have p10 := (bcell hb3 _ _ hz1).trans q10
          have hB2 := As.mk (hB1.out.trans (hb3.mono hB1.out.size))
          have hs2 := As.mk (hs1.out.below hb3)
          clear hb2 hb3 q9 q10 q0 H5
          go_wp2
          go_loopw [53] (fun i wr => ∃ k : Nat, i = .int .i64 k ∧ k ≤ x.l.length ∧ As (Below w.heap.size w wr) ∧ As (Sat P wr) ∧ As (Lo.errs x.l = Lo.errs (x.l.drop k))) (fun i _ => x.l.length - (intOf i).toNat)
          case atStart => exact ⟨0, rfl, Nat.zero_le _, hB2, hs2, HI⟩
          case round =>
            obtain ⟨k, rfl, hk, hBr, hsr, hQ⟩ := hrel
            by_cases hlt : k < x.l.length
            · have hd : x.l.drop k = x.l[k] :: x.l.drop (k + 1) := List.drop_eq_getElem_cons hlt
              have hQ2 := hQ.out
              rw [hd, Lo.errs] at hQ2
              have HQ2 := As.mk hQ2
              obtain ⟨y, hy⟩ : ∃ y, As (x.l[k] = y) := ⟨_, ⟨rfl⟩⟩
              rw [hy.out] at HQ2
              have hym : y ∈ x.l := hy.out ▸ List.getElem_mem hlt
              obtain ⟨be, oe, B3, d3, B4, d4, B6, d6, B7, d7, B8, d8, B9, d9, B10, d10, rfl, hbe, hry, e0, e1, e2, e3, e4, e5, e6, e7, e8, e9, e10⟩ := HR.out.at hsr.out (i := k) (x := y) (by rw [List.getElem?_eq_getElem hlt, hy.out])
              have IY := As.mk (fun W hs => IH.out y hym _ W hry hs)
              clear hd hQ2 hQ hry
              by_cases hv : Lo.err y = 0
              · have HV2 := As.mk (HQ2.out.trans (if_pos hv))
                rw [hv] at IY
                clear HQ2 hv
                go_wp2_with (go_at_call 27; refine (IY.out _ (hsr.out.alloc _)).mono ?_; rintro e w2 ⟨rfl, hb2⟩)
                have hb3 := Below.then ((Below.refl _ _).alloc (Nat.le_refl _) _) hb2
                go_roundw
                case rel => exact ⟨k + 1, by go_num, by omega, ⟨hBr.out.trans (hb3.mono hBr.out.size)⟩, ⟨hsr.out.below hb3⟩, HV2⟩
                case measure => simp [intOf]; omega
              · have HV2 := As.mk (HQ2.out.trans (if_neg hv))
                have h0' : ((Lo.err y : Int) != 0) = true := by rw [bne_iff_ne]; omega
                clear HQ2 hv
                generalize Lo.err y = v at *
                go_wp2_with (go_at_call 27; refine (IY.out _ (hsr.out.alloc _)).mono ?_; rintro e w2 ⟨rfl, hb2⟩)
                go_ret
                exact ⟨by rw [HV.out, HV2.out]; rfl, hBr.out.trans ((Below.then ((Below.refl _ _).alloc (Nat.le_refl _) _) hb2).mono hBr.out.size)⟩
            · obtain rfl : k = x.l.length := by omega
              have HE := As.mk (show Lo.errs x.l = 0 by rw [hQ.out, List.drop_length, Lo.errs])
              clear hQ
              go_wp2
              go_ret
              exact ⟨by rw [HV.out, HE.out]; rfl, hBr.out⟩
        · have HV := As.mk (HQ.out.trans (if_neg (by rw [HO2.out]; exact hv)))
          have h0' : ((fiveErr x.ns x : Int) != 0) = true := by rw [bne_iff_ne]; omega
          clear hv HQ
          generalize fiveErr x.ns x = v at *
          go_wp2_with fail
          refine H5.out.mono ?_
          rintro e w2 ⟨rfl, hb2⟩
          go_wp2
          go_ret
          exact ⟨by rw [HV.out, HO2.out]; rfl, hB1.out.trans ((Below.then hbW hb2).mono hB1.out.size)⟩
      · have hg : given x = x.ns.take (x.ns.length - 1) := by unfold given; rw [ho, h0]; rfl
        rw [hg] at HO2
        rw [h0] at he
        have hgl : (x.ns.take (x.ns.length - 1)).length = x.ns.length - 1 := by rw [List.length_take]; omega
        have HGL := As.mk hgl
        clear hg ho h0 hgl
        go_enter Tryz.func27, Tryz.ntmps27
        go_wp2_with (go_at_call 62; refine (HF.out _ HS.out).mono ?_; rintro e w1 ⟨rfl, hb1⟩; have k0 := fun j v h => (bcell hb1 _ _ hz0).trans (HK.out j v h); have q0 := k0 0 _ rfl; have q9 := k0 9 _ rfl; have q10 := k0 10 _ rfl; have hz1 := cell_block q0; have hB1 := As.mk (Below.then HB.out hb1); have hs1 := As.mk (HS.out.below hb1); have K0 := As.mk k0; have qs := hs1.out _ _ HP9.out; have hz9 := cell_block qs; clear k0 hb1)
        have hbW : Below w1.heap.size w1 (w1.alloc (.cells #[.slice (some ⟨b9, o9, none⟩) (x.ns.length - 1) c9] 22)) := (Below.refl _ _).alloc (Nat.le_refl _) _
        have H5 := As.mk (five_calls P G x _ (w1.alloc (.cells #[.slice (some ⟨b9, o9, none⟩) (x.ns.length - 1) c9] 22)) w.heap.size w1.heap.size c9 (some ⟨b9, o9, none⟩) (x.ns.take (x.ns.length - 1)) HX.out (hs1.out.alloc _) (fun j v h => (bcell hbW _ _ hz1).trans (K0.out j v h)) (by rw [HGL.out]; exact World.cell?_alloc_mark ..) (Strs.take HN.out _) (w1.heap.size + 1) (by simp))
        unfold fiveCells at H5
        by_cases hv : fiveErr (x.ns.take (x.ns.length - 1)) x = 0
        · rw [hv] at HO2
          have HV := As.mk (HQ.out.trans (if_pos HO2.out))
          have HI := As.mk (show Lo.errs x.l = Lo.errs (x.l.drop 0) from rfl)
          rw [hv] at H5
          clear hv HQ HO2
          go_wp2_with fail
          refine H5.out.mono ?_
          rintro e w2 ⟨rfl, hb2⟩
          have hb3 := Below.then hbW hb2
          have p10 := (bcell hb3 _ _ hz1).trans q10
          have hB2 := As.mk (hB1.out.trans (hb3.mono hB1.out.size))
          have hs2 := As.mk (hs1.out.below hb3)
          clear hb2 hb3 q9 q10 q0 H5
          go_wp2
          go_loopw [53] (fun i wr => ∃ k : Nat, i = .int .i64 k ∧ k ≤ x.l.length ∧ As (Below w.heap.size w wr) ∧ As (Sat P wr) ∧ As (Lo.errs x.l = Lo.errs (x.l.drop k))) (fun i _ => x.l.length - (intOf i).toNat)
          case atStart => exact ⟨0, rfl, Nat.zero_le _, hB2, hs2, HI⟩
          case round =>
            obtain ⟨k, rfl, hk, hBr, hsr, hQ⟩ := hrel
            by_cases hlt : k < x.l.length
            · have hd : x.l.drop k = x.l[k] :: x.l.drop (k + 1) := List.drop_eq_getElem_cons hlt
              have hQ2 := hQ.out
              rw [hd, Lo.errs] at hQ2
              have HQ2 := As.mk hQ2
              obtain ⟨y, hy⟩ : ∃ y, As (x.l[k] = y) := ⟨_, ⟨rfl⟩⟩
              rw [hy.out] at HQ2
              have hym : y ∈ x.l := hy.out ▸ List.getElem_mem hlt
              obtain ⟨be, oe, B3, d3, B4, d4, B6, d6, B7, d7, B8, d8, B9, d9, B10, d10, rfl, hbe, hry, e0, e1, e2, e3, e4, e5, e6, e7, e8, e9, e10⟩ := HR.out.at hsr.out (i := k) (x := y) (by rw [List.getElem?_eq_getElem hlt, hy.out])
              have IY := As.mk (fun W hs => IH.out y hym _ W hry hs)
              clear hd hQ2 hQ hry
              by_cases hv : Lo.err y = 0
              · have HV2 := As.mk (HQ2.out.trans (if_pos hv))
                rw [hv] at IY
                clear HQ2 hv
                go_wp2_with (go_at_call 27; refine (IY.out _ (hsr.out.alloc _)).mono ?_; rintro e w2 ⟨rfl, hb2⟩)
                have hb3 := Below.then ((Below.refl _ _).alloc (Nat.le_refl _) _) hb2
                go_roundw
                case rel => exact ⟨k + 1, by go_num, by omega, ⟨hBr.out.trans (hb3.mono hBr.out.size)⟩, ⟨hsr.out.below hb3⟩, HV2⟩
                case measure => simp [intOf]; omega
              · have HV2 := As.mk (HQ2.out.trans (if_neg hv))
                have h0' : ((Lo.err y : Int) != 0) = true := by rw [bne_iff_ne]; omega
                clear HQ2 hv
                generalize Lo.err y = v at *
                go_wp2_with (go_at_call 27; refine (IY.out _ (hsr.out.alloc _)).mono ?_; rintro e w2 ⟨rfl, hb2⟩)
                go_ret
                exact ⟨by rw [HV.out, HV2.out]; rfl, hBr.out.trans ((Below.then ((Below.refl _ _).alloc (Nat.le_refl _) _) hb2).mono hBr.out.size)⟩
            · obtain rfl : k = x.l.length := by omega
              have HE := As.mk (show Lo.errs x.l = 0 by rw [hQ.out, List.drop_length, Lo.errs])
              clear hQ
              go_wp2
              go_ret
              exact ⟨by rw [HV.out, HE.out]; rfl, hBr.out⟩
        · have HV := As.mk (HQ.out.trans (if_neg (by rw [HO2.out]; exact hv)))
          have h0' : ((fiveErr (x.ns.take (x.ns.length - 1)) x : Int) != 0) = true := by rw [bne_iff_ne]; omega
          clear hv HQ
          generalize fiveErr (x.ns.take (x.ns.length - 1)) x = v at *
          go_wp2_with fail
          refine H5.out.mono ?_
          rintro e w2 ⟨rfl, hb2⟩
          go_wp2
          go_ret
          exact ⟨by rw [HV.out, HO2.out]; rfl, hB1.out.trans ((Below.then hbW hb2).mono hB1.out.size)⟩
    · have q2 : (x.k == 2) = false := beq_eq_false_iff_ne.2 k2
      have hg : given x = x.ns := by unfold given open_; rw [decide_eq_false k2]; rfl
      rw [hg] at HO2
      clear k2 hg
      go_enter Tryz.func27, Tryz.ntmps27
      go_wp2_with (go_at_call 62; refine (HF.out _ HS.out).mono ?_; rintro e w1 ⟨rfl, hb1⟩; have k0 := fun j v h => (bcell hb1 _ _ hz0).trans (HK.out j v h); have q0 := k0 0 _ rfl; have q9 := k0 9 _ rfl; have q10 := k0 10 _ rfl; have hz1 := cell_block q0; have hB1 := As.mk (Below.then HB.out hb1); have hs1 := As.mk (HS.out.below hb1); have K0 := As.mk k0; clear k0 hb1)
      have hbW : Below w1.heap.size w1 (w1.alloc (.cells #[.slice A9 x.ns.length c9] 22)) := (Below.refl _ _).alloc (Nat.le_refl _) _
      have H5 := As.mk (five_calls P G x _ (w1.alloc (.cells #[.slice A9 x.ns.length c9] 22)) w.heap.size w1.heap.size c9 A9 x.ns HX.out (hs1.out.alloc _) (fun j v h => (bcell hbW _ _ hz1).trans (K0.out j v h)) (World.cell?_alloc_mark ..) HN.out (w1.heap.size + 1) (by simp))
      unfold fiveCells at H5
      by_cases hv : fiveErr x.ns x = 0
      · rw [hv] at HO2
        have HV := As.mk (HQ.out.trans (if_pos HO2.out))
        have HI := As.mk (show Lo.errs x.l = Lo.errs (x.l.drop 0) from rfl)
        rw [hv] at H5
        clear hv HQ HO2
        go_wp2_with fail
        refine H5.out.mono ?_
        rintro e w2 ⟨rfl, hb2⟩
        have hb3 := Below.then hbW hb2
        have p10 := (bcell hb3 _ _ hz1).trans q10
        have hB2 := As.mk (hB1.out.trans (hb3.mono hB1.out.size))
        have hs2 := As.mk (hs1.out.below hb3)
        clear hb2 hb3 q9 q10 q0 H5
        go_wp2
        go_loopw [53] (fun i wr => ∃ k : Nat, i = .int .i64 k ∧ k ≤ x.l.length ∧ As (Below w.heap.size w wr) ∧ As (Sat P wr) ∧ As (Lo.errs x.l = Lo.errs (x.l.drop k))) (fun i _ => x.l.length - (intOf i).toNat)
        case atStart => exact ⟨0, rfl, Nat.zero_le _, hB2, hs2, HI⟩
        case round =>
          obtain ⟨k, rfl, hk, hBr, hsr, hQ⟩ := hrel
          by_cases hlt : k < x.l.length
          · have hd : x.l.drop k = x.l[k] :: x.l.drop (k + 1) := List.drop_eq_getElem_cons hlt
            have hQ2 := hQ.out
            rw [hd, Lo.errs] at hQ2
            have HQ2 := As.mk hQ2
            obtain ⟨y, hy⟩ : ∃ y, As (x.l[k] = y) := ⟨_, ⟨rfl⟩⟩
            rw [hy.out] at HQ2
            have hym : y ∈ x.l := hy.out ▸ List.getElem_mem hlt
            obtain ⟨be, oe, B3, d3, B4, d4, B6, d6, B7, d7, B8, d8, B9, d9, B10, d10, rfl, hbe, hry, e0, e1, e2, e3, e4, e5, e6, e7, e8, e9, e10⟩ := HR.out.at hsr.out (i := k) (x := y) (by rw [List.getElem?_eq_getElem hlt, hy.out])
            have IY := As.mk (fun W hs => IH.out y hym _ W hry hs)
            clear hd hQ2 hQ hry
            by_cases hv : Lo.err y = 0
            · have HV2 := As.mk (HQ2.out.trans (if_pos hv))
              rw [hv] at IY
              clear HQ2 hv
              go_wp2_with (go_at_call 27; refine (IY.out _ (hsr.out.alloc _)).mono ?_; rintro e w2 ⟨rfl, hb2⟩)
              have hb3 := Below.then ((Below.refl _ _).alloc (Nat.le_refl _) _) hb2
              go_roundw
              case rel => exact ⟨k + 1, by go_num, by omega, ⟨hBr.out.trans (hb3.mono hBr.out.size)⟩, ⟨hsr.out.below hb3⟩, HV2⟩
              case measure => simp [intOf]; omega
            · have HV2 := As.mk (HQ2.out.trans (if_neg hv))
              have h0' : ((Lo.err y : Int) != 0) = true := by rw [bne_iff_ne]; omega
              clear HQ2 hv
              generalize Lo.err y = v at *
              go_wp2_with (go_at_call 27; refine (IY.out _ (hsr.out.alloc _)).mono ?_; rintro e w2 ⟨rfl, hb2⟩)
              go_ret
              exact ⟨by rw [HV.out, HV2.out]; rfl, hBr.out.trans ((Below.then ((Below.refl _ _).alloc (Nat.le_refl _) _) hb2).mono hBr.out.size)⟩
          · obtain rfl : k = x.l.length := by omega
            have HE := As.mk (show Lo.errs x.l = 0 by rw [hQ.out, List.drop_length, Lo.errs])
            clear hQ
            go_wp2
            go_ret
            exact ⟨by rw [HV.out, HE.out]; rfl, hBr.out⟩
      · have HV := As.mk (HQ.out.trans (if_neg (by rw [HO2.out]; exact hv)))
        have h0' : ((fiveErr x.ns x : Int) != 0) = true := by rw [bne_iff_ne]; omega
        clear hv HQ
        generalize fiveErr x.ns x = v at *
        go_wp2_with fail
        refine H5.out.mono ?_
        rintro e w2 ⟨rfl, hb2⟩
        go_wp2
        go_ret
        exact ⟨by rw [HV.out, HO2.out]; rfl, hB1.out.trans ((Below.then hbW hb2).mono hB1.out.size)⟩
end Go.Proofs.YtainigjbjfpoaaaGreatDoor
