/- What a row's list of variables gives: the package-level variables' cells. -/
/- A world for the witness: the listed variables hold what the list says. -/
import Derived.Test.YtainigjbjfpoaaaGreatDoorCards
import Derived.Test.YtainigjbjfpoaaaGreatDoorTie
import Derived.Test.YtainigjbjfpoaaaGreatDoorCTrod
import Derived.Test.YtainigjbjfpoaaaGreatDoorCUtf
import Derived.Test.YtainigjbjfpoaaaGreatDoorShelf
import Derived.Lib.LaidU8T
import Derived.Lib.LaidIn
import Derived.LaidHandle
import Derived.LaidMore
import Derived.Lay
import Derived.MakeChecks
import Derived.Shelf.Vars
import Derived.ProofKit
import Derived.OpenShut
import Derived.Carry
import Derived.Deep.DeepHandedRow
import Derived.Deep.DeepWitnessRowRef
import Derived.SevenTiedAt
import Derived.Stop.Joined
namespace Go.Proofs.YtainigjbjfpoaaaGreatDoor
open Go.ChangeShapes Go.WideShapes Go.ChangeAt Go.RowKit

theorem ownKnob_none : ownKnob Tryz.prog.godebug = none := by kernel_rfl
theorem laidOut : laidOutB Tryz.prog = true := by kernel_rfl

/-- the row's list -/
abbrev laidRow : List (String × DataW Unit) := [("unicode/utf8.acceptRanges", Rows.laid_unicode_utf8_acceptRanges), ("errors.errorType", Rows.laid_errors_errorType), ("tipstave/logic.policies", Rows.laid_tipstave_logic_policies), ("unicode/utf8.first", Rows.laid_unicode_utf8_first)]
abbrev laidPlain : List (String × DataW Unit) := [("unicode/utf8.acceptRanges", Rows.laid_unicode_utf8_acceptRanges), ("tipstave/logic.policies", Rows.laid_tipstave_logic_policies), ("unicode/utf8.first", Rows.laid_unicode_utf8_first)]
theorem laid_filter : (laidRow.filter fun x => x.2.handleName?.isNone) = laidPlain := by kernel_rfl
theorem laid_plain {W : World} (h : laidMetH Tryz.prog laidRow W) : laidMet Tryz.prog laidPlain W := by
  have h' : laidMet Tryz.prog (laidRow.filter fun x => x.2.handleName?.isNone) W ∧ _ := h
  rw [laid_filter] at h'
  exact h'.1
theorem first_data : (Rows.laid_unicode_utf8_first : DataW Unit) = Lib.firstData := by kernel_rfl
theorem accept_data : (Rows.laid_unicode_utf8_acceptRanges : DataW Unit) = Lib.acceptData := by kernel_rfl
theorem pol_data : (Rows.laid_tipstave_logic_policies : DataW Unit) = .agg (policies.map fun s => .lit (.string s.data.toList)) := by kernel_rfl
theorem u8types : U8Types Tryz.prog Tryz.lays146_ren := ⟨by kernel_rfl, by kernel_rfl, by kernel_rfl, by kernel_rfl⟩
theorem u8extra : U8Extra Tryz.prog Tryz.lays146_ren := ⟨by kernel_rfl, by kernel_rfl, by kernel_rfl, by kernel_rfl, by kernel_rfl, by kernel_rfl, by kernel_rfl⟩
theorem tabs_of_laid {W : World} (h : laidMetH Tryz.prog laidRow W) : Lib.Utf8Tabs 2 3 W :=
  utf8Tabs_of_readsT u8types u8extra (first_data ▸ Lib.laidMet.reads (laid_plain h) (.tail _ (.tail _ (.head _)))) (accept_data ▸ Lib.laidMet.reads (laid_plain h) (.head _))
theorem gPol : Tryz.prog.globalNamed "tipstave/logic.policies" = some 0 := by kernel_rfl
theorem tPol : (Tryz.prog.globals[0]?).map (·.type) = some 86 := by kernel_rfl
theorem pol_of_laid {W : World} (h : laidMetH Tryz.prog laidRow W) (i : Nat) (s : ByteArray) (hs : policies[i]? = some s) : W.cell? ⟨0, i, none⟩ = some (.string s) := by
  obtain ⟨g, t, cs, fuel, p, hg, ht, hv, hd⟩ := Lib.laidMet.reads (laid_plain h) (n := "tipstave/logic.policies") (.tail _ (.head _))
  obtain rfl := Option.some.inj (gPol.symm.trans hg)
  obtain rfl := Option.some.inj (tPol.symm.trans ht)
  rw [pol_data] at hd
  have hi : i < 7 := (List.getElem?_eq_some_iff.1 hs).1
  obtain ⟨fuel', d, q, hdi, he⟩ := Lib.array_elem Tryz.underlying86 hd i hi
  rw [List.getElem?_map, hs] at hdi
  simp only [Option.map_some, Option.some.injEq] at hdi
  subst hdi
  rw [cells_str, Nat.mul_one] at he
  obtain ⟨s', hcs, hx, _⟩ := DataW.trod_string Tryz.underlying9 he
  have e1 : s'.data.toList = s.data.toList := by
    have := congrArg Prod.fst hx
    simpa using this.symm
  have e2 : s' = s := by rw [ByteArray.ext_iff, ← Array.toList_inj]; exact e1
  subst e2
  rw [World.var?_cell gPol hv i, ← Array.getElem?_toList]
  have h0 := congrArg (fun l : List Value => l[0]?) hcs
  simpa [List.getElem?_take, List.getElem?_drop] using h0
theorem maxLen_of_shape {W : World} (h : W.ShapedOpen Tryz.prog) : ∃ m, W.cell? ⟨1, 0, none⟩ = some (.int .i64 m) :=
  cell_of_shapedOpen_int (t := 3) (zero := #[.int .i64 0]) h (of_decide_eq_true (by kernel_rfl)) (by kernel_rfl) rfl (by kernel_rfl) (by kernel_rfl) Tryz.underlying3
theorem glob_of {W : World} (h : laidMetH Tryz.prog laidRow W) (hsh : W.ShapedOpen Tryz.prog) : Glob (now W) :=
  ⟨maxLen_of_shape hsh, (tabs_of_laid h).1, (tabs_of_laid h).2, fun i s hs => pol_of_laid h i s hs⟩

/-- an argument reads behind the call as it did -/
theorem kept_reads {H : Type} {enc : TypeId × Value → H} {t : TypeId} (hr : Tryz.prog.readableRec t = true) (hrow : t < Tryz.prog.types.size) {W W' : World} {v : Value} {d : DataW H} {ps : List MemPlace}
    (h : DataW.Trod enc Tryz.prog W 0 (fun _ => true) true t v d ps) (hb : Below W.heap.size W W') (hlt : ∀ x ∈ ps, x.block < W.heap.size) : DataW.Trod enc Tryz.prog W' 0 (fun b => decide (b < W.heap.size)) true t v d ps :=
  Below.trod laidOut hr hrow h hb hlt
/-- the bound, of each argument -/
theorem bulk_of_cond {H : Type} {ds : List (DataW H)} (h : Rows.uptoSmall H ds = true) : Rows.uptoBulkAll ds ≤ maxBulk := of_decide_eq_true h
end Go.Proofs.YtainigjbjfpoaaaGreatDoor

namespace Go.Proofs.YtainigjbjfpoaaaGreatDoor
open Go.ChangeShapes Go.WideShapes Go.ChangeAt Go.RowKit

noncomputable def rtypeId : Nat := ((Tryz.prog.cutTypes.find? (·.1 == "internal/reflectlite.rtype")).map (·.2)).getD 0
noncomputable def errorRow : Nat := ((List.range Tryz.prog.types.size).find? fun t => Tryz.prog.rowNamed t [101, 114, 114, 111, 114]).getD 0
noncomputable def laidWorld (os : Os) : World :=
  let w0 := World.holding Tryz.prog os ⟨#[], #[], []⟩
  let put (h : Array Obj) (g : Nat) (cs : Array Value) : Array Obj := h.modify g fun
    | .cells _ t frozen => .cells cs t frozen
    | o => o
  { w0 with heap := put (put (put (put w0.heap 2 (Lib.firstTab.map fun z => Value.int .u8 z).toArray) 3 ((List.range 16).flatMap fun i => [Value.int .u8 (Lib.accLo i), Value.int .u8 (Lib.accHi i)]).toArray)
      0 (policies.map Value.string).toArray) 4 #[.iface rtypeId (.agg #[typeHandle Tryz.prog errorRow])] }
theorem laid_met (os : Os) (args : Array Value) : laidMetH Tryz.prog laidRow ((laidWorld os).forCall (fun _ _ => 0) ⟨#[], args, []⟩).memory :=
  laidMetH_of_parts (laidMet_of_run' 10 (by kernel_rfl) (by kernel_rfl)) (by kernel_rfl)
/-- the zero logic: its value, what it reads as -/
def zeroLoV : Value := .agg #[.int .i64 0, .int .i64 0, .string ⟨#[]⟩, .slice none 0 0, .slice none 0 0, .string ⟨#[]⟩, .slice none 0 0, .slice none 0 0, .slice none 0 0, .slice none 0 0, .slice none 0 0]
def zeroLoD {H : Type} : DataW H := .agg [.lit (.int .i64 0), .agg [.lit (.int .i64 0), .lit (.string []), .nil, .nil], .lit (.string []), .nil, .nil, .nil, .nil, .nil]
theorem zero_reads2 (os : Os) {H : Type} (enc : TypeId × Value → H) : ∃ places, DataW.whole enc Tryz.prog ((laidWorld os).forCall (fun _ _ => 0) ⟨#[], #[zeroLoV, zeroLoV], []⟩).memory Tryz.f4.params.toList Rows.logicSamesSpec.vars false #[zeroLoV, zeroLoV].toList 8 = some ([zeroLoD, zeroLoD], [], places) :=
  ⟨[], by kernel_rfl⟩
end Go.Proofs.YtainigjbjfpoaaaGreatDoor
