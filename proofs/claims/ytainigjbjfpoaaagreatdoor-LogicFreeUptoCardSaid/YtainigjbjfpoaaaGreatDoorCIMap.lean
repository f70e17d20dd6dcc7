/- Maps from int to whatever. -/
import Derived.Test.YtainigjbjfpoaaaGreatDoorCMap
namespace Go.Proofs.YtainigjbjfpoaaaGreatDoor
open Go.RowKit Go.Shelf Go.Maps Go.WideMaps

def anyR (v : Value) : Option (DataW Value × List MemPlace) := some (.held v, [])
def intLit (k : Int) : Lit := .int .i64 k
theorem intLit_ne {s t : Int} (h : s ≠ t) : intLit s ≠ intLit t := fun e => h (by simpa [intLit] using e)
theorem intKeyed : Keyed Tryz.prog 3 := int_keyed Tryz.underlying3

/-- block b is a map from int, its type m, its elements' e, that answers as f does -/
structure IMap (m e : TypeId) (W : World) (b n : Nat) (f : Int → Option Value) : Prop where
  hm : Tryz.prog.underlying m = some (.map 3 e)
  own : ∃ D : DataW Value, W.ownsMap Tryz.prog 3 anyR b n D ∧ ∀ k d, (Lit.int .i64 k).wf = true → D.atKey (intLit k) d = ((f k).map .held).getD d

variable {m e : TypeId} {W : World} {b n : Nat} {f : Int → Option Value}
theorem IMap.made (W : World) (hm : Tryz.prog.underlying m = some (.map 3 e)) : IMap m e (W.alloc (.map #[] 0)) W.heap.size 0 (fun _ => none) :=
  ⟨hm, _, World.ownsMap_made W _ _ _, fun _ _ _ => rfl⟩
theorem IMap.lt (h : IMap m e W b n f) : b < W.heap.size := let ⟨_, h, _⟩ := h.own; h.lt
theorem IMap.below {W' : World} (h : IMap m e W b n f) {n₀ : Nat} (hb : b < n₀) (hB : Below n₀ W W') : IMap m e W' b n f := by
  obtain ⟨D, ⟨es, clock, hh, r⟩, hf⟩ := h.own
  exact ⟨h.hm, D, ⟨es, clock, (hB.block b hb).trans hh, r⟩, hf⟩
theorem IMap.kept {W' : World} {row : Option Nat} (h : IMap m e W b n f) (hg : W.grownBy W' row) (hne : some b ≠ row) : IMap m e W' b n f := by
  obtain ⟨D, h', hf⟩ := h.own
  exact ⟨h.hm, D, h'.kept hg hne, hf⟩
theorem IMap.alloc (h : IMap m e W b n f) (o : Obj) : IMap m e (W.alloc o) b n f := h.kept (World.grownBy_alloc W o none) (by simp)

theorem keyOf_i64 {k : Int} (hk : (Lit.int .i64 k).wf = true) : keyOf Tryz.prog 3 (.int .i64 k) = some (.int .i64 k) := Maps.keyOf_int_mk Tryz.underlying3 hk

/-- v, ok := m[k] -/
theorem IMap.look (h : IMap m e W b n f) {z : Value} (hz : (zeroValue e).run Tryz.prog W = .ok z W) {k : Int} (hk : (Lit.int .i64 k).wf = true) :
    (Instr.lookup m (.map (some b)) (.int .i64 k) true).run Tryz.prog W = .ok (.tuple #[(f k).getD z, .bool (f k).isSome]) W := by
  obtain ⟨D, h', hf⟩ := h.own
  obtain ⟨v, ps, hrun, hv⟩ := h'.look_ok intKeyed h.hm hz (zd := .held z) (zp := []) rfl (keyOf_i64 hk)
  rw [hrun]
  have h1 := hf k (.held z) hk
  simp only [anyR, Option.some.injEq, Prod.mk.injEq] at hv
  rw [show intLit k = .int .i64 k from rfl, ← hv.1] at h1
  have h2 : v = (f k).getD z := by
    cases hfk : f k <;> rw [hfk] at h1 <;> simpa using h1
  have h3 : Maps.has D (.int .i64 k) = (f k).isSome := by
    cases hfk : f k with
    | none => exact Maps.has_false_of_atKey (fun d => by rw [show (Lit.int .i64 k) = intLit k from rfl, hf k d hk, hfk]; rfl)
    | some a => exact Maps.has_true_of_atKey (y := .held a) (fun d => by rw [show (Lit.int .i64 k) = intLit k from rfl, hf k d hk, hfk]; rfl)
  rw [h2, h3]

/-- m[k] = v -/
theorem IMap.store (h : IMap m e W b n f) (hn : n < maxLen) {k : Int} (hk : (Lit.int .i64 k).wf = true) (v : Value) :
    ∃ W', (Instr.mapUpdate m (.map (some b)) (.int .i64 k) v).run Tryz.prog W = .ok () W' ∧ IMap m e W' b (n + 1) (fun t => if t = k then some v else f t) ∧ W.grownBy W' (some b) := by
  obtain ⟨D, h', hf⟩ := h.own
  obtain ⟨W', hrun, h2, hg⟩ := h'.update intKeyed h.hm hn (keyOf_i64 hk) (d := .held v) (ps := []) rfl
  refine ⟨W', hrun, ⟨h.hm, _, h2, fun t d ht => ?_⟩, hg⟩
  by_cases e : t = k
  · subst e
    rw [show intLit t = .int .i64 t from rfl, Maps.atKey_put_same h'.isMap (intKeyed.key (keyOf_i64 hk))]
    simp
  · refine (Maps.atKey_put_other (intLit_ne e) _ _).trans ?_
    rw [hf _ _ ht]
    simp [e]

/-- an entry of a map that is written out -/
theorem wpList_insert {ops : Array Oper} {rest : List Oper} {o : Oper} {a : Act} {Q : Exit → Act → World → Prop}
    (hg : o.guard = none) (mo x v : Operand) (hop : o.op = Op.insert m mo x v) (hm : a.eval mo = .map (some b)) (h : IMap m e W b n f) (hn : n < maxLen) (k : Int) (val : Value) (hx : a.eval x = .int .i64 k) (hv : a.eval v = val) (hk : (Lit.int .i64 k).wf = true)
    (hK : ∀ w', IMap m e w' b (n + 1) (fun t => if t = k then some val else f t) → W.grownBy w' (some b) → wpList Tryz.prog ops Q rest (a.put o.dst undef) w') :
    wpList Tryz.prog ops Q (o :: rest) a W := by
  refine wpList_plain hg fun K' hK' => ?_
  obtain ⟨w', hrun, r1, r2⟩ := h.store hn hk val
  unfold Oper.wp
  simp [execOp, hop, hm, hx, hv, hrun, Result.andThen]
  exact hK' _ _ (hK w' r1 r2)

end Go.Proofs.YtainigjbjfpoaaaGreatDoor
