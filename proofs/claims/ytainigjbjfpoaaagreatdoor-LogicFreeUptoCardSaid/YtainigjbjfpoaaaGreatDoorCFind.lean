/- (*expr.finder).find: looks through an expression. -/
import Derived.Test.YtainigjbjfpoaaaGreatDoorCFv
import Derived.StillTailTactics
import Derived.Deep.QuietTactic
import Derived.BigQuiet
namespace Go.Proofs.YtainigjbjfpoaaaGreatDoor
open Go.RowKit Go.Shelf Go.Maps

theorem StrsAt.cells {n n' : Nat} {W W' : World} {A : Option Addr} {zs : List ByteArray} (h : StrsAt n W A zs) (hc : Cells W W') (hn : n ≤ n') : StrsAt n' W' A zs := fun j x hj =>
  let ⟨b, o, e, hb, hv⟩ := h j x hj
  ⟨b, o, e, Nat.lt_of_lt_of_le hb hn, hc _ _ hv⟩
theorem Cells.trans {A B C : World} (h : Cells A B) (k : Cells B C) : Cells A C := fun a v hv => k a v (h a v hv)
theorem Cells.below {A B : World} (h : Below A.heap.size A B) : Cells A B := fun a _ hv => (h.cell (World.block_lt_of_cell? A a hv)).trans hv
theorem Sat.cells {P : Pers} {A B : World} (h : Sat P A) (hc : Cells A B) : Sat P B := fun a v p => hc a v (h a v p)
theorem MapOf.cells {E : Elm} {W W' : World} {b n : Nat} {f : ByteArray → Option E.α} (h : MapOf E W b n f) (hg : W.grownBy W' (some b)) : Cells W W' := by
  obtain ⟨D, ⟨es, ck, hh, _⟩, _⟩ := h
  exact Cells.map hh hg
/-- what find leaves as it was: the cells, and all that lies below the two maps -/
structure Kept2 (b c : Nat) (A B : World) : Prop where
  cells : Cells A B
  below : ∀ n, n ≤ b → n ≤ c → n ≤ A.heap.size → Below n A B
  size : A.heap.size ≤ B.heap.size
theorem Kept2.refl (b c : Nat) (A : World) : Kept2 b c A A := ⟨Cells.refl _, fun _ _ _ _ => Below.refl _ _, Nat.le_refl _⟩
theorem Kept2.trans {b c : Nat} {A B C : World} (h : Kept2 b c A B) (k : Kept2 b c B C) : Kept2 b c A C :=
  ⟨h.cells.trans k.cells, fun n h1 h2 h3 => (h.below n h1 h2 h3).trans (k.below n h1 h2 (Nat.le_trans h3 h.size)), Nat.le_trans h.size k.size⟩
theorem Kept2.of {b c : Nat} {A B : World} (h : Below A.heap.size A B) : Kept2 b c A B := ⟨Cells.below h, fun _ _ _ hn => h.mono hn, h.size⟩
theorem Kept2.drew {b c : Nat} (A : World) (n : Nat) : Kept2 b c A (A.drewN n) := .of (pw_below_drewN' (Below.refl _ _) n)
theorem Kept2.left {b c : Nat} {E : Elm} {A B : World} {n : Nat} {f : ByteArray → Option E.α} (h : MapOf E A b n f) (hg : A.grownBy B (some b)) : Kept2 b c A B :=
  ⟨h.cells hg, fun n h1 _ h3 => (Below.refl n A).grown hg h3 (fun k e => by cases e; exact h1), hg.size⟩
theorem Kept2.right {b c : Nat} {E : Elm} {A B : World} {n : Nat} {f : ByteArray → Option E.α} (h : MapOf E A c n f) (hg : A.grownBy B (some c)) : Kept2 b c A B :=
  ⟨h.cells hg, fun n _ h2 h3 => (Below.refl n A).grown hg h3 (fun k e => by cases e; exact h2), hg.size⟩
theorem MapOf.later {E : Elm} {W W' : World} {b n : Nat} {f : ByteArray → Option E.α} (h : MapOf E W b n f) (hB : Below W.heap.size W W') : MapOf E W' b n f := h.below h.lt hB
theorem MapOf.cast {E : Elm} {W : World} {b n n' : Nat} {f f' : ByteArray → Option E.α} (h : MapOf E W b n f) (hn : n = n') (hf : f = f') : MapOf E W b n' f' := by subst hn; subst hf; exact h

/-- one more -/
theorem BdMap.up {W : World} {b : Nat} {bd : List ByteArray} (h : BdMap W b bd) (s : ByteArray) (hs : s.size ≤ maxLen) (hb : bd.length ≤ 4611686018427387904) :
    ∃ W', (Instr.mapUpdate 113 (.map (some b)) (.string s) (.int .i64 ((cnt bd s : Int) + 1))).run Tryz.prog W = .ok () W' ∧ BdMap W' b (s :: bd) ∧ W.grownBy W' (some b) := by
  have hc := cnt_le bd s
  obtain ⟨W', h1, h2, h3⟩ := MapOf.store (E := Io) h (Nat.lt_of_le_of_lt hb (by decide)) hs (a := (cnt bd s : Int) + 1) (inI64.wf (by unfold inI64; omega))
  exact ⟨W', h1, (h2.cast rfl (cntf_up bd s)).trim _ (fun t ht => cntf_mem ht), h3⟩
def less (bd : List ByteArray) (s : ByteArray) : ByteArray → Option Int := fun t => if t = s then some (cnt bd s : Int) else cntf (s :: bd) t
theorem less_at (bd : List ByteArray) (s : ByteArray) : (less bd s s).getD 0 = (cnt bd s : Int) := by
  unfold less
  rw [if_pos rfl]; rfl
/-- one less: the store -/
theorem BdMap.down {W : World} {b : Nat} {bd : List ByteArray} (s : ByteArray) (h : BdMap W b (s :: bd)) (hs : s.size ≤ maxLen) (hb : bd.length ≤ 4611686018427387904) :
    ∃ W', (Instr.mapUpdate 113 (.map (some b)) (.string s) (.int .i64 (cnt bd s : Int))).run Tryz.prog W = .ok () W' ∧
      MapOf Io W' b (bd.length + 2) (less bd s) ∧ W.grownBy W' (some b) := by
  have hc := cnt_le bd s
  exact MapOf.store (E := Io) h (Nat.lt_of_le_of_lt (show (s :: bd).length ≤ 4611686018427387905 by simp; omega) (by decide)) hs (a := (cnt bd s : Int)) (inI64.wf (by unfold inI64; omega))
theorem cntf_down' (bd : List ByteArray) (s : ByteArray) (h : has bd s = false) : (fun t => if t = s then none else less bd s t) = cntf bd := by
  rw [← cntf_down bd s h]
  funext t
  unfold less
  by_cases e : t = s <;> simp [e]
theorem cntf_less' (bd : List ByteArray) (s : ByteArray) (h : has bd s = true) : less bd s = cntf bd := by
  rw [← cntf_less bd s h]
  funext t
  unfold less
  by_cases e : t = s
  · simp only [e, if_true, cnt_self]
    exact congrArg some (by omega)
  · simp [e]
theorem BdMap.look {W : World} {b : Nat} {bd : List ByteArray} (h : BdMap W b bd) (s : ByteArray) (hs : s.size ≤ maxLen) :
    (Instr.lookup 113 (.map (some b)) (.string s) false).run Tryz.prog W = .ok (.int .i64 (cnt bd s)) W := by
  have := MapOf.look (E := Io) h hs
  rw [← cntf_get]
  exact this
theorem MapOf.lookI {W : World} {b n : Nat} {f : ByteArray → Option Int} (h : MapOf Io W b n f) (s : ByteArray) (hs : s.size ≤ maxLen) (v : Int) (hv : (f s).getD 0 = v) :
    (Instr.lookup 113 (.map (some b)) (.string s) false).run Tryz.prog W = .ok (.int .i64 v) W := by
  subst hv
  exact MapOf.look (E := Io) h hs
theorem MapOf.dropI {W : World} {b n : Nat} {f : ByteArray → Option Int} (h : MapOf Io W b n f) {s : ByteArray} (hs : s.size ≤ maxLen) :
    ∃ W', (Builtin.delete_ #[113, 9] 0 #[.map (some b), .string s]).run Tryz.prog W = .ok (.tuple #[]) W' ∧ MapOf Io W' b n (fun t => if t = s then none else f t) ∧ W.grownBy W' (some b) := MapOf.drop (E := Io) h hs 0
theorem FdMap.add {W : World} {b : Nat} {l : List ByteArray} (h : FdMap W b l) (s : ByteArray) (hs : s.size ≤ maxLen) (hb : l.length ≤ 4611686018427387904) :
    ∃ W', (Instr.mapUpdate 55 (.map (some b)) (.string s) (.bool true)).run Tryz.prog W = .ok () W' ∧ FdMap W' b (l ++ [s]) ∧ W.grownBy W' (some b) := by
  obtain ⟨W', h1, h2, h3⟩ := MapOf.store (E := Bo) h (Nat.lt_of_le_of_lt hb (by decide)) hs (a := true) trivial
  exact ⟨W', h1, (h2.cast rfl ((fnd_one s _).trans (fnd_app l [s] _))).trim _ (fun t ht => fnd_mem ht), h3⟩
theorem gv_size {P : Pers} {x : Ex} {cs : List Value} (h : Ex.Rep P x cs) (i : Nat) : ∀ s ∈ gv x i, s.size ≤ maxStr := by
  obtain ⟨A2, c2, A3, c3, rfl, l2, r2, l3, r3, z1, zk⟩ := h.open
  have hn : ∀ s ∈ x.ns, s.size ≤ maxStr := fun s hs => by
    obtain ⟨j, hj⟩ := List.mem_iff_getElem?.1 hs
    obtain ⟨_, _, _, _, h⟩ := Row.str r2 hj
    exact h
  intro s hs
  unfold gv at hs
  split at hs
  · exact hn s hs
  · split at hs
    · exact hn s (List.mem_of_mem_take hs)
    · split at hs
      · split at hs
        · simp at hs; subst hs; decide
        · split at hs
          · simp at hs; subst hs; exact z1
          · simp at hs
      · simp at hs
theorem short_of {s : ByteArray} (h : s.size ≤ maxStr) : s.size ≤ maxLen := Nat.le_trans h (by decide)
end Go.Proofs.YtainigjbjfpoaaaGreatDoor
