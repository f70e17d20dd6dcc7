/- What memory says for good: a set of cells that keep their values (Pers), a world that has them (Sat), rows and trees that lie in it. No function of the program is met here. -/
/- The program's structs as Lean structures, and what it means that one lies in memory for good. Printed by wip/tools/types_.py (own tool). -/
/- How much an expression, a test, a rule, a logic is: a number. No function of the program is met here. -/
import Derived.Test.YtainigjbjfpoaaaGreatDoorProg
import Derived.WalkKit
import Derived.KernelRfl
import Derived.Deep.Draws
namespace Go.Proofs.YtainigjbjfpoaaaGreatDoor
open Go.RowKit

/-- a fact that the walk's simp does not look into -/
structure As (p : Prop) : Prop where
  out : p
/-- cells that keep their values -/
abbrev Pers := Addr → Value → Prop
/-- the world has them -/
def Sat (P : Pers) (w : World) : Prop := ∀ a v, P a v → w.cell? a = some v
def PLe (P Q : Pers) : Prop := ∀ a v, P a v → Q a v
/-- no such cell lies in a block -/
def Fresh (P : Pers) (b : Nat) : Prop := ∀ a v, P a v → a.block ≠ b
theorem PLe.refl (P : Pers) : PLe P P := fun _ _ h => h
theorem PLe.trans {P Q R : Pers} (h : PLe P Q) (k : PLe Q R) : PLe P R := fun a v p => k a v (h a v p)
theorem Sat.lt {P : Pers} {w : World} (h : Sat P w) {a : Addr} {v : Value} (p : P a v) : a.block < w.heap.size := World.block_lt_of_cell? w a (h a v p)
theorem Sat.below {P : Pers} {w w' : World} (h : Sat P w) (hb : Below w.heap.size w w') : Sat P w' := fun a v p => (hb.cell (h.lt p)).trans (h a v p)
theorem Sat.le {P Q : Pers} {w : World} (h : Sat Q w) (k : PLe P Q) : Sat P w := fun a v p => h a v (k a v p)
theorem Sat.alloc {P : Pers} {w : World} (h : Sat P w) (o : Obj) : Sat P (w.alloc o) := h.below ((Below.refl _ _).alloc (Nat.le_refl _) o)
theorem Sat.drew {P : Pers} {w : World} (h : Sat P w) : Sat P w.drew := fun a v p => h a v p
theorem Sat.drewN {P : Pers} {w : World} (h : Sat P w) (n : Nat) : Sat P (w.drewN n) := fun a v p => h a v p
theorem Sat.set {P : Pers} {w : World} (h : Sat P w) {p : Addr} (hf : Fresh P p.block) (u : Value) : Sat P (w.setCell p u) := fun a v q => by
  rw [World.cell?_of_block (Below.heap_setCell w p u a.block (hf a v q))]
  exact h a v q
theorem Sat.grown {P : Pers} {w w' : World} (h : Sat P w) {row : Option Nat} (hg : w.grownBy w' row) (hf : ∀ b, row = some b → Fresh P b) : Sat P w' := fun a v p =>
  hg.cell (h a v p) (fun e => hf _ e.symm a v p rfl)
theorem Sat.fresh {P : Pers} {w : World} (h : Sat P w) {b : Nat} (hb : w.heap.size ≤ b) : Fresh P b := fun a v p e => by have := h.lt p; omega

/-- behind a call: what lay there reads as it did -/
theorem bcell {W w1 : World} (hb : Below W.heap.size W w1) : ∀ b o, b < W.heap.size → w1.cell? ⟨b, o, none⟩ = W.cell? ⟨b, o, none⟩ := fun b o h => hb.cell (p := ⟨b, o, none⟩) h
theorem bfroz {W w1 : World} (hb : Below W.heap.size W w1) : ∀ b o, b < W.heap.size → w1.frozen? ⟨b, o, none⟩ = W.frozen? ⟨b, o, none⟩ := fun b o h => hb.frozen (p := ⟨b, o, none⟩) h
theorem Below.then {w W w1 : World} (h : Below w.heap.size w W) (k : Below W.heap.size W w1) : Below w.heap.size w w1 := h.trans (k.mono h.size)

/-- a block's cells from an offset on, besides -/
def Pers.put (P : Pers) (b : Nat) (o : Nat) (cs : List Value) : Pers := fun a v => P a v ∨ ∃ j, cs[j]? = some v ∧ a = ⟨b, o + j, none⟩
theorem Pers.le_put (P : Pers) (b o : Nat) (cs : List Value) : PLe P (P.put b o cs) := fun _ _ h => .inl h
theorem Pers.put_at (P : Pers) (b o : Nat) (cs : List Value) {j : Nat} {v : Value} (h : cs[j]? = some v) : P.put b o cs ⟨b, o + j, none⟩ v := .inr ⟨j, h, rfl⟩
theorem Sat.put {P : Pers} {w : World} (h : Sat P w) {b o : Nat} {cs : List Value} (hc : ∀ j v, cs[j]? = some v → w.cell? ⟨b, o + j, none⟩ = some v) : Sat (P.put b o cs) w := by
  rintro a v (p | ⟨j, hj, rfl⟩)
  · exact h a v p
  · exact hc j v hj

/-- no row is longer (2 to the 47th) -/
def maxRow : Nat := 2147483648
theorem maxRow_le {n : Nat} (h : n ≤ maxRow) : n ≤ 2147483648 := h
/-- values one behind the other, of so many cells each -/
def Row {α : Type} (P : Pers) (rep : α → List Value → Prop) (sz : Nat) (A : Option Addr) (xs : List α) : Prop :=
  ∃ css : Nat → List Value, xs.length ≤ maxRow ∧ (∀ i x, xs[i]? = some x → rep x (css i)) ∧
    ∀ i j v, i < xs.length → (css i)[j]? = some v → ∃ b o, A = some ⟨b, o, none⟩ ∧ P ⟨b, o + i * sz + j, none⟩ v
theorem Row.len {α : Type} {P : Pers} {rep : α → List Value → Prop} {sz : Nat} {A : Option Addr} {xs : List α} (h : Row P rep sz A xs) : xs.length ≤ 2147483648 := by
  obtain ⟨_, hl, _⟩ := h
  exact hl
theorem Row.len63 {α : Type} {P : Pers} {rep : α → List Value → Prop} {sz : Nat} {A : Option Addr} {xs : List α} (h : Row P rep sz A xs) : xs.length ≤ 9223372036854775807 := by
  have := h.len
  omega
theorem Row.nil {α : Type} (P : Pers) (rep : α → List Value → Prop) (sz : Nat) (A : Option Addr) : Row P rep sz A [] :=
  ⟨fun _ => [], Nat.zero_le _, fun i x h => by simp at h, fun i j v h => by simp at h⟩
theorem Row.mono {α : Type} {P Q : Pers} {rep rep' : α → List Value → Prop} {sz : Nat} {A : Option Addr} {xs : List α} (h : Row P rep sz A xs) (hp : PLe P Q) (hr : ∀ x cs, x ∈ xs → rep x cs → rep' x cs) : Row Q rep' sz A xs := by
  obtain ⟨css, hl, h1, h2⟩ := h
  refine ⟨css, hl, fun i x hx => hr _ _ (List.mem_of_getElem? hx) (h1 i x hx), fun i j v hi hj => ?_⟩
  obtain ⟨b, o, e, p⟩ := h2 i j v hi hj
  exact ⟨b, o, e, hp _ _ p⟩
/-- element i: its cells, and where they lie -/
theorem Row.get {α : Type} {P : Pers} {rep : α → List Value → Prop} {sz : Nat} {A : Option Addr} {xs : List α} (h : Row P rep sz A xs) {i : Nat} {x : α} (hx : xs[i]? = some x) (hne : ∀ cs, rep x cs → cs ≠ []) :
    ∃ b o cs, A = some ⟨b, o, none⟩ ∧ rep x cs ∧ ∀ j v, cs[j]? = some v → P ⟨b, o + i * sz + j, none⟩ v := by
  obtain ⟨css, _, h1, h2⟩ := h
  have hi : i < xs.length := (List.getElem?_eq_some_iff.1 hx).1
  have hr := h1 i x hx
  have h0 : ∃ v, (css i)[0]? = some v := by
    cases hc : css i with
    | nil => exact absurd hc (hne _ hr)
    | cons v l => exact ⟨v, rfl⟩
  obtain ⟨v0, hv0⟩ := h0
  obtain ⟨b, o, e, _⟩ := h2 i 0 v0 hi hv0
  refine ⟨b, o, css i, e, hr, fun j v hj => ?_⟩
  obtain ⟨b', o', e', p⟩ := h2 i j v hi hj
  rw [e] at e'
  obtain ⟨rfl, rfl⟩ : b = b' ∧ o = o' := by
    injection e' with e'
    injection e' with e1 e2
    exact ⟨e1, e2⟩
  exact p
/-- what lies in a row of one's own, once it is kept -/
theorem Row.made {α : Type} {P : Pers} {rep : α → List Value → Prop} {sz b o : Nat} {xs : List α} (css : List (List Value)) (hm : xs.length ≤ maxRow) (hl : css.length = xs.length) (hr : ∀ (i : Nat) (x : α) (cs : List Value), xs[i]? = some x → css[i]? = some cs → rep x cs)
    (hP : ∀ (i : Nat) (cs : List Value) (j : Nat) (v : Value), css[i]? = some cs → cs[j]? = some v → P ⟨b, o + i * sz + j, none⟩ v) : Row P rep sz (some ⟨b, o, none⟩) xs := by
  refine ⟨fun i => css.getD i [], hm, fun i x hx => ?_, fun i j v hi hj => ?_⟩
  · have hi : i < css.length := hl ▸ (List.getElem?_eq_some_iff.1 hx).1
    have e : css[i]? = some (css.getD i []) := by simp [List.getElem?_eq_getElem hi]
    exact hr i x _ hx e
  · have hi' : i < css.length := hl ▸ hi
    have e : css[i]? = some (css.getD i []) := by simp [List.getElem?_eq_getElem hi']
    exact ⟨b, o, rfl, hP i _ j v e hj⟩

/-- no text is longer (2 to the 30th) -/
def maxStr : Nat := 1073741824
def inI64 (k : Int) : Prop := -9223372036854775808 ≤ k ∧ k ≤ 9223372036854775807
theorem inI64.wf {k : Int} (h : inI64 k) : (Lit.int .i64 k).wf = true := by
  have h1 : IntKind.i64.min = -9223372036854775808 := by decide
  have h2 : IntKind.i64.max = 9223372036854775807 := by decide
  simp only [Lit.wf, Bool.and_eq_true, decide_eq_true_eq, h1, h2]
  exact h
/-- a text's one cell -/
def strRep (x : ByteArray) (cs : List Value) : Prop := cs = [.string x] ∧ x.size ≤ maxStr
abbrev Strs (P : Pers) (A : Option Addr) (xs : List ByteArray) : Prop := Row P strRep 1 A xs
theorem Row.str {P : Pers} {A : Option Addr} {xs : List ByteArray} (h : Strs P A xs) {i : Nat} {x : ByteArray} (hx : xs[i]? = some x) : ∃ b o, A = some ⟨b, o, none⟩ ∧ P ⟨b, o + i, none⟩ (.string x) ∧ x.size ≤ maxStr := by
  obtain ⟨b, o, cs, e, hr, hp⟩ := h.get hx (fun cs h => by rw [h.1]; simp)
  have := hp 0 (.string x) (by rw [hr.1]; rfl)
  exact ⟨b, o, e, by simpa using this, hr.2⟩

/-! ### which of some tests is the first that says no -/
theorem chain2 : ∀ a0 a1 : Bool, (a0 = false) ∨ (a0 = true ∧ a1 = false) ∨ (a0 = true ∧ a1 = true) := by decide
theorem chain3 : ∀ a0 a1 a2 : Bool, (a0 = false) ∨ (a0 = true ∧ a1 = false) ∨ (a0 = true ∧ a1 = true ∧ a2 = false) ∨ (a0 = true ∧ a1 = true ∧ a2 = true) := by decide
theorem chain4 : ∀ a0 a1 a2 a3 : Bool, (a0 = false) ∨ (a0 = true ∧ a1 = false) ∨ (a0 = true ∧ a1 = true ∧ a2 = false) ∨ (a0 = true ∧ a1 = true ∧ a2 = true ∧ a3 = false) ∨ (a0 = true ∧ a1 = true ∧ a2 = true ∧ a3 = true) := by decide
theorem chain5 : ∀ a0 a1 a2 a3 a4 : Bool, (a0 = false) ∨ (a0 = true ∧ a1 = false) ∨ (a0 = true ∧ a1 = true ∧ a2 = false) ∨ (a0 = true ∧ a1 = true ∧ a2 = true ∧ a3 = false) ∨ (a0 = true ∧ a1 = true ∧ a2 = true ∧ a3 = true ∧ a4 = false) ∨ (a0 = true ∧ a1 = true ∧ a2 = true ∧ a3 = true ∧ a4 = true) := by decide
theorem chain6 (a0 a1 a2 a3 a4 a5 : Bool) : (a0 = false) ∨ (a0 = true ∧ a1 = false) ∨ (a0 = true ∧ a1 = true ∧ a2 = false) ∨ (a0 = true ∧ a1 = true ∧ a2 = true ∧ a3 = false) ∨ (a0 = true ∧ a1 = true ∧ a2 = true ∧ a3 = true ∧ a4 = false) ∨ (a0 = true ∧ a1 = true ∧ a2 = true ∧ a3 = true ∧ a4 = true ∧ a5 = false) ∨ (a0 = true ∧ a1 = true ∧ a2 = true ∧ a3 = true ∧ a4 = true ∧ a5 = true) := by
  cases a0
  · exact .inl rfl
  · simpa using chain5 a1 a2 a3 a4 a5
theorem chain7 (a0 a1 a2 a3 a4 a5 a6 : Bool) : (a0 = false) ∨ (a0 = true ∧ a1 = false) ∨ (a0 = true ∧ a1 = true ∧ a2 = false) ∨ (a0 = true ∧ a1 = true ∧ a2 = true ∧ a3 = false) ∨ (a0 = true ∧ a1 = true ∧ a2 = true ∧ a3 = true ∧ a4 = false) ∨ (a0 = true ∧ a1 = true ∧ a2 = true ∧ a3 = true ∧ a4 = true ∧ a5 = false) ∨ (a0 = true ∧ a1 = true ∧ a2 = true ∧ a3 = true ∧ a4 = true ∧ a5 = true ∧ a6 = false) ∨ (a0 = true ∧ a1 = true ∧ a2 = true ∧ a3 = true ∧ a4 = true ∧ a5 = true ∧ a6 = true) := by
  cases a0
  · exact .inl rfl
  · simpa using chain6 a1 a2 a3 a4 a5 a6
theorem chain8 (a0 a1 a2 a3 a4 a5 a6 a7 : Bool) : (a0 = false) ∨ (a0 = true ∧ a1 = false) ∨ (a0 = true ∧ a1 = true ∧ a2 = false) ∨ (a0 = true ∧ a1 = true ∧ a2 = true ∧ a3 = false) ∨ (a0 = true ∧ a1 = true ∧ a2 = true ∧ a3 = true ∧ a4 = false) ∨ (a0 = true ∧ a1 = true ∧ a2 = true ∧ a3 = true ∧ a4 = true ∧ a5 = false) ∨ (a0 = true ∧ a1 = true ∧ a2 = true ∧ a3 = true ∧ a4 = true ∧ a5 = true ∧ a6 = false) ∨ (a0 = true ∧ a1 = true ∧ a2 = true ∧ a3 = true ∧ a4 = true ∧ a5 = true ∧ a6 = true ∧ a7 = false) ∨ (a0 = true ∧ a1 = true ∧ a2 = true ∧ a3 = true ∧ a4 = true ∧ a5 = true ∧ a6 = true ∧ a7 = true) := by
  cases a0
  · exact .inl rfl
  · simpa using chain7 a1 a2 a3 a4 a5 a6 a7
end Go.Proofs.YtainigjbjfpoaaaGreatDoor

namespace Go.Proofs.YtainigjbjfpoaaaGreatDoor
open Go.RowKit

/-! ### api.Expr -/
structure Ex where
  k : Int
  s : ByteArray
  ns : List ByteArray
  l : List Ex
def Ex.zero : Ex := ⟨0, ⟨#[]⟩, [], []⟩
instance : Inhabited Ex := ⟨Ex.zero⟩
inductive Ex.Rep (P : Pers) : Ex → List Value → Prop
  | mk {xk : Int} {xs : ByteArray} {xns : List ByteArray} {xl : List Ex} {A2 : Option Addr} {c2 : Nat} {A3 : Option Addr} {c3 : Nat} (css : Nat → List Value) (h2 : xns.length ≤ c2) (r2 : Strs P A2 xns) (h3 : xl.length ≤ c3) (z1 : xs.size ≤ maxStr) (z0 : inI64 xk) (hm : xl.length ≤ maxRow)
      (hr : ∀ i x, xl[i]? = some x → Ex.Rep P x (css i)) (hp : ∀ i j v, i < xl.length → (css i)[j]? = some v → ∃ b o, A3 = some ⟨b, o, none⟩ ∧ P ⟨b, o + i * 4 + j, none⟩ v) :
      Ex.Rep P ⟨xk, xs, xns, xl⟩ [.int .i64 xk, .string xs, .slice A2 xns.length c2, .slice A3 xl.length c3]
abbrev Exs (P : Pers) (A : Option Addr) (xs : List Ex) : Prop := Row P (Ex.Rep P) 4 A xs
theorem Ex.Rep.open {P : Pers} {x : Ex} {cs : List Value} (h : Ex.Rep P x cs) : ∃ A2 c2 A3 c3, cs = [.int .i64 x.k, .string x.s, .slice A2 x.ns.length c2, .slice A3 x.l.length c3] ∧ x.ns.length ≤ c2 ∧ Strs P A2 x.ns ∧ x.l.length ≤ c3 ∧ Exs P A3 x.l ∧ x.s.size ≤ maxStr ∧ inI64 x.k := by
  cases h with
  | mk css h2 r2 h3 z1 z0 hm hr hp => exact ⟨_, _, _, _, rfl, h2, r2, h3, ⟨css, hm, hr, hp⟩, z1, z0⟩
theorem Ex.Rep.shut {P : Pers} (x : Ex) {A2 : Option Addr} {c2 : Nat} (h2 : x.ns.length ≤ c2) (r2 : Strs P A2 x.ns) {A3 : Option Addr} {c3 : Nat} (h3 : x.l.length ≤ c3) (r3 : Exs P A3 x.l) (z1 : x.s.size ≤ maxStr) (z0 : inI64 x.k) : Ex.Rep P x [.int .i64 x.k, .string x.s, .slice A2 x.ns.length c2, .slice A3 x.l.length c3] := by
  obtain ⟨css, hm, hr, hp⟩ := r3
  cases x
  exact .mk css h2 r2 h3 z1 z0 hm hr hp
theorem Ex.Rep.mono {P Q : Pers} (hp : PLe P Q) {x : Ex} {cs : List Value} (h : Ex.Rep P x cs) : Ex.Rep Q x cs := by
  induction h with
  | mk css h2 r2 h3 z1 z0 hm _ hq ih =>
    refine .mk css h2 (r2.mono hp (fun _ _ _ h => h)) h3 z1 z0 hm ih (fun i j v hi hj => ?_)
    obtain ⟨b, o, e, p⟩ := hq i j v hi hj
    exact ⟨b, o, e, hp _ _ p⟩
theorem Exs.mono {P Q : Pers} (hp : PLe P Q) {A : Option Addr} {xs : List Ex} (h : Exs P A xs) : Exs Q A xs := Row.mono h hp (fun _ _ _ h => Ex.Rep.mono hp h)
theorem Exs.at {P : Pers} {w : World} {A : Option Addr} {xs : List Ex} (h : Exs P A xs) (hs : Sat P w) {i : Nat} {x : Ex} (hx : xs[i]? = some x) : ∃ b o A2 c2 A3 c3, A = some ⟨b, o, none⟩ ∧ b < w.heap.size ∧ Ex.Rep P x [.int .i64 x.k, .string x.s, .slice A2 x.ns.length c2, .slice A3 x.l.length c3] ∧
    w.cell? ⟨b, o + i * 4, none⟩ = some (.int .i64 x.k) ∧ w.cell? ⟨b, o + i * 4 + 1, none⟩ = some (.string x.s) ∧ w.cell? ⟨b, o + i * 4 + 2, none⟩ = some (.slice A2 x.ns.length c2) ∧ w.cell? ⟨b, o + i * 4 + 3, none⟩ = some (.slice A3 x.l.length c3) := by
  obtain ⟨b, o, cs, e, hr, hp⟩ := Row.get h hx (fun cs h => by obtain ⟨_, _, _, _, rfl, _⟩ := Ex.Rep.open h; simp)
  obtain ⟨A2, c2, A3, c3, rfl, hrr⟩ := Ex.Rep.open hr
  exact ⟨b, o, A2, c2, A3, c3, e, hs.lt (hp 0 _ rfl), hr, hs _ _ (hp 0 _ rfl), hs _ _ (hp 1 _ rfl), hs _ _ (hp 2 _ rfl), hs _ _ (hp 3 _ rfl)⟩

/-! ### api.Tests -/
structure Te where
  any : Bool
  no : Bool
  l : List Ex
def Te.zero : Te := ⟨false, false, []⟩
instance : Inhabited Te := ⟨Te.zero⟩
def Te.Rep (P : Pers) (x : Te) (cs : List Value) : Prop := ∃ A2 c2, cs = [.bool x.any, .bool x.no, .slice A2 x.l.length c2] ∧ x.l.length ≤ c2 ∧ Exs P A2 x.l
abbrev Tes (P : Pers) (A : Option Addr) (xs : List Te) : Prop := Row P (Te.Rep P) 3 A xs
theorem Te.Rep.open {P : Pers} {x : Te} {cs : List Value} (h : Te.Rep P x cs) : ∃ A2 c2, cs = [.bool x.any, .bool x.no, .slice A2 x.l.length c2] ∧ x.l.length ≤ c2 ∧ Exs P A2 x.l := h
theorem Te.Rep.shut {P : Pers} (x : Te) {A2 : Option Addr} {c2 : Nat} (h2 : x.l.length ≤ c2) (r2 : Exs P A2 x.l) : Te.Rep P x [.bool x.any, .bool x.no, .slice A2 x.l.length c2] := ⟨_, _, rfl, h2, r2⟩
theorem Te.Rep.mono {P Q : Pers} (hp : PLe P Q) {x : Te} {cs : List Value} (h : Te.Rep P x cs) : Te.Rep Q x cs := by
  obtain ⟨A2, c2, e, h2, r2⟩ := h
  exact ⟨A2, c2, e, h2, r2.mono hp⟩
theorem Tes.mono {P Q : Pers} (hp : PLe P Q) {A : Option Addr} {xs : List Te} (h : Tes P A xs) : Tes Q A xs := Row.mono h hp (fun _ _ _ h => Te.Rep.mono hp h)
theorem Tes.at {P : Pers} {w : World} {A : Option Addr} {xs : List Te} (h : Tes P A xs) (hs : Sat P w) {i : Nat} {x : Te} (hx : xs[i]? = some x) : ∃ b o A2 c2, A = some ⟨b, o, none⟩ ∧ b < w.heap.size ∧ Te.Rep P x [.bool x.any, .bool x.no, .slice A2 x.l.length c2] ∧
    w.cell? ⟨b, o + i * 3, none⟩ = some (.bool x.any) ∧ w.cell? ⟨b, o + i * 3 + 1, none⟩ = some (.bool x.no) ∧ w.cell? ⟨b, o + i * 3 + 2, none⟩ = some (.slice A2 x.l.length c2) := by
  obtain ⟨b, o, cs, e, hr, hp⟩ := Row.get h hx (fun cs h => by obtain ⟨_, _, rfl, _⟩ := Te.Rep.open h; simp)
  obtain ⟨A2, c2, rfl, hrr⟩ := Te.Rep.open hr
  exact ⟨b, o, A2, c2, e, hs.lt (hp 0 _ rfl), hr, hs _ _ (hp 0 _ rfl), hs _ _ (hp 1 _ rfl), hs _ _ (hp 2 _ rfl)⟩

/-! ### api.Rule -/
structure Ru where
  ins : List Te
  out : List Ex
def Ru.zero : Ru := ⟨[], []⟩
instance : Inhabited Ru := ⟨Ru.zero⟩
def Ru.Rep (P : Pers) (x : Ru) (cs : List Value) : Prop := ∃ A0 c0 A1 c1, cs = [.slice A0 x.ins.length c0, .slice A1 x.out.length c1] ∧ x.ins.length ≤ c0 ∧ Tes P A0 x.ins ∧ x.out.length ≤ c1 ∧ Exs P A1 x.out
abbrev Rus (P : Pers) (A : Option Addr) (xs : List Ru) : Prop := Row P (Ru.Rep P) 2 A xs
theorem Ru.Rep.open {P : Pers} {x : Ru} {cs : List Value} (h : Ru.Rep P x cs) : ∃ A0 c0 A1 c1, cs = [.slice A0 x.ins.length c0, .slice A1 x.out.length c1] ∧ x.ins.length ≤ c0 ∧ Tes P A0 x.ins ∧ x.out.length ≤ c1 ∧ Exs P A1 x.out := h
theorem Ru.Rep.shut {P : Pers} (x : Ru) {A0 : Option Addr} {c0 : Nat} (h0 : x.ins.length ≤ c0) (r0 : Tes P A0 x.ins) {A1 : Option Addr} {c1 : Nat} (h1 : x.out.length ≤ c1) (r1 : Exs P A1 x.out) : Ru.Rep P x [.slice A0 x.ins.length c0, .slice A1 x.out.length c1] := ⟨_, _, _, _, rfl, h0, r0, h1, r1⟩
theorem Ru.Rep.mono {P Q : Pers} (hp : PLe P Q) {x : Ru} {cs : List Value} (h : Ru.Rep P x cs) : Ru.Rep Q x cs := by
  obtain ⟨A0, c0, A1, c1, e, h0, r0, h1, r1⟩ := h
  exact ⟨A0, c0, A1, c1, e, h0, r0.mono hp, h1, r1.mono hp⟩
theorem Rus.mono {P Q : Pers} (hp : PLe P Q) {A : Option Addr} {xs : List Ru} (h : Rus P A xs) : Rus Q A xs := Row.mono h hp (fun _ _ _ h => Ru.Rep.mono hp h)
theorem Rus.at {P : Pers} {w : World} {A : Option Addr} {xs : List Ru} (h : Rus P A xs) (hs : Sat P w) {i : Nat} {x : Ru} (hx : xs[i]? = some x) : ∃ b o A0 c0 A1 c1, A = some ⟨b, o, none⟩ ∧ b < w.heap.size ∧ Ru.Rep P x [.slice A0 x.ins.length c0, .slice A1 x.out.length c1] ∧
    w.cell? ⟨b, o + i * 2, none⟩ = some (.slice A0 x.ins.length c0) ∧ w.cell? ⟨b, o + i * 2 + 1, none⟩ = some (.slice A1 x.out.length c1) := by
  obtain ⟨b, o, cs, e, hr, hp⟩ := Row.get h hx (fun cs h => by obtain ⟨_, _, _, _, rfl, _⟩ := Ru.Rep.open h; simp)
  obtain ⟨A0, c0, A1, c1, rfl, hrr⟩ := Ru.Rep.open hr
  exact ⟨b, o, A0, c0, A1, c1, e, hs.lt (hp 0 _ rfl), hr, hs _ _ (hp 0 _ rfl), hs _ _ (hp 1 _ rfl)⟩

/-! ### api.Logic -/
structure Lo where
  k : Int
  e : Ex
  pol : ByteArray
  inp : List Ex
  out : List ByteArray
  ru : List Ru
  ns : List ByteArray
  l : List Lo
def Lo.zero : Lo := ⟨0, Ex.zero, ⟨#[]⟩, [], [], [], [], []⟩
instance : Inhabited Lo := ⟨Lo.zero⟩
inductive Lo.Rep (P : Pers) : Lo → List Value → Prop
  | mk {xk : Int} {xe : Ex} {xpol : ByteArray} {xinp : List Ex} {xout : List ByteArray} {xru : List Ru} {xns : List ByteArray} {xl : List Lo} {A3 : Option Addr} {c3 : Nat} {A4 : Option Addr} {c4 : Nat} {A6 : Option Addr} {c6 : Nat} {A7 : Option Addr} {c7 : Nat} {A8 : Option Addr} {c8 : Nat} {A9 : Option Addr} {c9 : Nat} {A10 : Option Addr} {c10 : Nat} (css : Nat → List Value) (h3 : xe.ns.length ≤ c3) (r3 : Strs P A3 xe.ns) (h4 : xe.l.length ≤ c4) (r4 : Exs P A4 xe.l) (h6 : xinp.length ≤ c6) (r6 : Exs P A6 xinp) (h7 : xout.length ≤ c7) (r7 : Strs P A7 xout) (h8 : xru.length ≤ c8) (r8 : Rus P A8 xru) (h9 : xns.length ≤ c9) (r9 : Strs P A9 xns) (h10 : xl.length ≤ c10) (z2 : xe.s.size ≤ maxStr) (z5 : xpol.size ≤ maxStr) (z0 : inI64 xk) (z1 : inI64 xe.k) (hm : xl.length ≤ maxRow)
      (hr : ∀ i x, xl[i]? = some x → Lo.Rep P x (css i)) (hp : ∀ i j v, i < xl.length → (css i)[j]? = some v → ∃ b o, A10 = some ⟨b, o, none⟩ ∧ P ⟨b, o + i * 11 + j, none⟩ v) :
      Lo.Rep P ⟨xk, xe, xpol, xinp, xout, xru, xns, xl⟩ [.int .i64 xk, .int .i64 xe.k, .string xe.s, .slice A3 xe.ns.length c3, .slice A4 xe.l.length c4, .string xpol, .slice A6 xinp.length c6, .slice A7 xout.length c7, .slice A8 xru.length c8, .slice A9 xns.length c9, .slice A10 xl.length c10]
abbrev Los (P : Pers) (A : Option Addr) (xs : List Lo) : Prop := Row P (Lo.Rep P) 11 A xs
theorem Lo.Rep.open {P : Pers} {x : Lo} {cs : List Value} (h : Lo.Rep P x cs) : ∃ A3 c3 A4 c4 A6 c6 A7 c7 A8 c8 A9 c9 A10 c10, cs = [.int .i64 x.k, .int .i64 x.e.k, .string x.e.s, .slice A3 x.e.ns.length c3, .slice A4 x.e.l.length c4, .string x.pol, .slice A6 x.inp.length c6, .slice A7 x.out.length c7, .slice A8 x.ru.length c8, .slice A9 x.ns.length c9, .slice A10 x.l.length c10] ∧ x.e.ns.length ≤ c3 ∧ Strs P A3 x.e.ns ∧ x.e.l.length ≤ c4 ∧ Exs P A4 x.e.l ∧ x.inp.length ≤ c6 ∧ Exs P A6 x.inp ∧ x.out.length ≤ c7 ∧ Strs P A7 x.out ∧ x.ru.length ≤ c8 ∧ Rus P A8 x.ru ∧ x.ns.length ≤ c9 ∧ Strs P A9 x.ns ∧ x.l.length ≤ c10 ∧ Los P A10 x.l ∧ x.e.s.size ≤ maxStr ∧ x.pol.size ≤ maxStr ∧ inI64 x.k ∧ inI64 x.e.k := by
  cases h with
  | mk css h3 r3 h4 r4 h6 r6 h7 r7 h8 r8 h9 r9 h10 z2 z5 z0 z1 hm hr hp => exact ⟨_, _, _, _, _, _, _, _, _, _, _, _, _, _, rfl, h3, r3, h4, r4, h6, r6, h7, r7, h8, r8, h9, r9, h10, ⟨css, hm, hr, hp⟩, z2, z5, z0, z1⟩
theorem Lo.Rep.shut {P : Pers} (x : Lo) {A3 : Option Addr} {c3 : Nat} (h3 : x.e.ns.length ≤ c3) (r3 : Strs P A3 x.e.ns) {A4 : Option Addr} {c4 : Nat} (h4 : x.e.l.length ≤ c4) (r4 : Exs P A4 x.e.l) {A6 : Option Addr} {c6 : Nat} (h6 : x.inp.length ≤ c6) (r6 : Exs P A6 x.inp) {A7 : Option Addr} {c7 : Nat} (h7 : x.out.length ≤ c7) (r7 : Strs P A7 x.out) {A8 : Option Addr} {c8 : Nat} (h8 : x.ru.length ≤ c8) (r8 : Rus P A8 x.ru) {A9 : Option Addr} {c9 : Nat} (h9 : x.ns.length ≤ c9) (r9 : Strs P A9 x.ns) {A10 : Option Addr} {c10 : Nat} (h10 : x.l.length ≤ c10) (r10 : Los P A10 x.l) (z2 : x.e.s.size ≤ maxStr) (z5 : x.pol.size ≤ maxStr) (z0 : inI64 x.k) (z1 : inI64 x.e.k) : Lo.Rep P x [.int .i64 x.k, .int .i64 x.e.k, .string x.e.s, .slice A3 x.e.ns.length c3, .slice A4 x.e.l.length c4, .string x.pol, .slice A6 x.inp.length c6, .slice A7 x.out.length c7, .slice A8 x.ru.length c8, .slice A9 x.ns.length c9, .slice A10 x.l.length c10] := by
  obtain ⟨css, hm, hr, hp⟩ := r10
  cases x
  exact .mk css h3 r3 h4 r4 h6 r6 h7 r7 h8 r8 h9 r9 h10 z2 z5 z0 z1 hm hr hp
theorem Lo.Rep.mono {P Q : Pers} (hp : PLe P Q) {x : Lo} {cs : List Value} (h : Lo.Rep P x cs) : Lo.Rep Q x cs := by
  induction h with
  | mk css h3 r3 h4 r4 h6 r6 h7 r7 h8 r8 h9 r9 h10 z2 z5 z0 z1 hm _ hq ih =>
    refine .mk css h3 (r3.mono hp (fun _ _ _ h => h)) h4 (r4.mono hp) h6 (r6.mono hp) h7 (r7.mono hp (fun _ _ _ h => h)) h8 (r8.mono hp) h9 (r9.mono hp (fun _ _ _ h => h)) h10 z2 z5 z0 z1 hm ih (fun i j v hi hj => ?_)
    obtain ⟨b, o, e, p⟩ := hq i j v hi hj
    exact ⟨b, o, e, hp _ _ p⟩
theorem Los.mono {P Q : Pers} (hp : PLe P Q) {A : Option Addr} {xs : List Lo} (h : Los P A xs) : Los Q A xs := Row.mono h hp (fun _ _ _ h => Lo.Rep.mono hp h)
theorem Los.at {P : Pers} {w : World} {A : Option Addr} {xs : List Lo} (h : Los P A xs) (hs : Sat P w) {i : Nat} {x : Lo} (hx : xs[i]? = some x) : ∃ b o A3 c3 A4 c4 A6 c6 A7 c7 A8 c8 A9 c9 A10 c10, A = some ⟨b, o, none⟩ ∧ b < w.heap.size ∧ Lo.Rep P x [.int .i64 x.k, .int .i64 x.e.k, .string x.e.s, .slice A3 x.e.ns.length c3, .slice A4 x.e.l.length c4, .string x.pol, .slice A6 x.inp.length c6, .slice A7 x.out.length c7, .slice A8 x.ru.length c8, .slice A9 x.ns.length c9, .slice A10 x.l.length c10] ∧
    w.cell? ⟨b, o + i * 11, none⟩ = some (.int .i64 x.k) ∧ w.cell? ⟨b, o + i * 11 + 1, none⟩ = some (.int .i64 x.e.k) ∧ w.cell? ⟨b, o + i * 11 + 2, none⟩ = some (.string x.e.s) ∧ w.cell? ⟨b, o + i * 11 + 3, none⟩ = some (.slice A3 x.e.ns.length c3) ∧ w.cell? ⟨b, o + i * 11 + 4, none⟩ = some (.slice A4 x.e.l.length c4) ∧ w.cell? ⟨b, o + i * 11 + 5, none⟩ = some (.string x.pol) ∧ w.cell? ⟨b, o + i * 11 + 6, none⟩ = some (.slice A6 x.inp.length c6) ∧ w.cell? ⟨b, o + i * 11 + 7, none⟩ = some (.slice A7 x.out.length c7) ∧ w.cell? ⟨b, o + i * 11 + 8, none⟩ = some (.slice A8 x.ru.length c8) ∧ w.cell? ⟨b, o + i * 11 + 9, none⟩ = some (.slice A9 x.ns.length c9) ∧ w.cell? ⟨b, o + i * 11 + 10, none⟩ = some (.slice A10 x.l.length c10) := by
  obtain ⟨b, o, cs, e, hr, hp⟩ := Row.get h hx (fun cs h => by obtain ⟨_, _, _, _, _, _, _, _, _, _, _, _, _, _, rfl, _⟩ := Lo.Rep.open h; simp)
  obtain ⟨A3, c3, A4, c4, A6, c6, A7, c7, A8, c8, A9, c9, A10, c10, rfl, hrr⟩ := Lo.Rep.open hr
  exact ⟨b, o, A3, c3, A4, c4, A6, c6, A7, c7, A8, c8, A9, c9, A10, c10, e, hs.lt (hp 0 _ rfl), hr, hs _ _ (hp 0 _ rfl), hs _ _ (hp 1 _ rfl), hs _ _ (hp 2 _ rfl), hs _ _ (hp 3 _ rfl), hs _ _ (hp 4 _ rfl), hs _ _ (hp 5 _ rfl), hs _ _ (hp 6 _ rfl), hs _ _ (hp 7 _ rfl), hs _ _ (hp 8 _ rfl), hs _ _ (hp 9 _ rfl), hs _ _ (hp 10 _ rfl)⟩

end Go.Proofs.YtainigjbjfpoaaaGreatDoor

namespace Go.Proofs.YtainigjbjfpoaaaGreatDoor
open Go.RowKit

def strsW (l : List ByteArray) : Nat := (l.map fun s => s.size + 1).sum
mutual
/-- how much an expression is -/
def Ex.wt : Ex → Nat
  | ⟨_, s, ns, l⟩ => 1 + s.size + strsW ns + Ex.wts l
def Ex.wts : List Ex → Nat
  | [] => 0
  | x :: xs => Ex.wt x + Ex.wts xs
end
theorem Ex.wts_eq : ∀ l, Ex.wts l = (l.map Ex.wt).sum
  | [] => rfl
  | x :: xs => by rw [Ex.wts, Ex.wts_eq xs]; rfl
theorem Ex.wt_eq (x : Ex) : x.wt = 1 + x.s.size + strsW x.ns + (x.l.map Ex.wt).sum := by cases x; rw [Ex.wt, Ex.wts_eq]
def Te.wt (t : Te) : Nat := 1 + (t.l.map Ex.wt).sum
def Ru.wt (r : Ru) : Nat := 1 + (r.ins.map Te.wt).sum + (r.out.map Ex.wt).sum
mutual
def Lo.wt : Lo → Nat
  | ⟨_, e, pol, inp, out, ru, ns, l⟩ => 1 + e.wt + pol.size + (inp.map Ex.wt).sum + strsW out + (ru.map Ru.wt).sum + strsW ns + Lo.wts l
def Lo.wts : List Lo → Nat
  | [] => 0
  | x :: xs => Lo.wt x + Lo.wts xs
end
theorem Lo.wts_eq : ∀ l, Lo.wts l = (l.map Lo.wt).sum
  | [] => rfl
  | x :: xs => by rw [Lo.wts, Lo.wts_eq xs]; rfl
theorem Lo.wt_eq (x : Lo) : x.wt = 1 + x.e.wt + x.pol.size + (x.inp.map Ex.wt).sum + strsW x.out + (x.ru.map Ru.wt).sum + strsW x.ns + (x.l.map Lo.wt).sum := by cases x; rw [Lo.wt, Lo.wts_eq]

theorem le_sum_of_mem {α : Type} (f : α → Nat) : ∀ {l : List α} {x : α}, x ∈ l → f x ≤ (l.map f).sum
  | y :: l, x, h => by
    rw [List.map_cons, List.sum_cons]
    rcases List.mem_cons.1 h with rfl | h
    · omega
    · have := le_sum_of_mem f h
      omega
theorem len_le_strsW (l : List ByteArray) : l.length ≤ strsW l := by
  induction l with
  | nil => exact Nat.zero_le _
  | cons s l ih => simp only [strsW, List.map_cons, List.sum_cons, List.length_cons] at *; omega
theorem Ex.one_le_wt (x : Ex) : 1 ≤ x.wt := by rw [Ex.wt_eq]; omega
end Go.Proofs.YtainigjbjfpoaaaGreatDoor
