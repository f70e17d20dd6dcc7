/- Without the document: what a logic needs, asked beside more names: where a scope holds them all, nothing but them is needed: where what is read is of bulk at most 1048576, and the listed package-level variables hold what the program's text lays: LogicFree answers true, and its arguments read behind the call as before. -/
import Derived.Test.YtainigjbjfpoaaaGreatDoorCLaid
import Derived.Test.YtainigjbjfpoaaaGreatDoorCLfreeP
namespace Go.Proofs.YtainigjbjfpoaaaGreatDoor.lfree
open Go.ChangeShapes Go.WideShapes Go.ChangeAt Go.RowKit

theorem zero_readsF (os : Os) {H : Type} (enc : TypeId × Value → H) : ∃ places, DataW.whole enc Tryz.prog ((laidWorld os).forCall (fun _ _ => 0) ⟨#[], #[zeroLoV, .slice none 0 0], []⟩).memory Tryz.f6.params.toList Rows.logicFreeSpec.vars false #[zeroLoV, .slice none 0 0].toList 8 = some ([zeroLoD, .nil], [], places) :=
  ⟨[], by kernel_rfl⟩
theorem agg_of_lo {P : Pers} {x : Lo} {v : Value} (h : Lo.Rep P x v.cells.toList) : v = .agg (v.cells.toList).toArray := by
  obtain ⟨_, _, _, _, _, _, _, _, _, _, _, _, _, _, e, _⟩ := h.open
  cases v with
  | agg cs => simp [Value.cells]
  | _ => simp [Value.cells] at e

set_option maxRecDepth 100000 in
theorem contract (H : Type) (enc : TypeId × Value → H) (W : World) (base : Nat) (args : Array Value) (ds gs : List (DataW H)) (before : List MemPlace)
    (hval : ∀ (j : Nat) t v, Tryz.f6.params[j]? = some t → args[j]? = some v → Value.okWide Tryz.prog W .any base t v)
    (hW : DataW.Whole enc Tryz.prog Tryz.f6.params.toList Rows.logicFreeSpec.vars false W args.toList ds gs before) (hk : Rows.uptoSmall H (ds ++ gs) = true) (hL : laidMetH Tryz.prog laidRow W) (hsh : W.ShapedOpen Tryz.prog) :
    Calls Tryz.prog 6 args W fun e W' => ∃ v, e = .returned v ∧ Rows.logicFreeSpec.post enc Tryz.prog Tryz.f6 false true false false W args v W' := by
  have hW' := hW
  obtain ⟨p, q, hA0, hV, rfl, hfz, hnd⟩ := hW
  have hA : DataW.TrodAll enc Tryz.prog W 0 (fun _ => true) true Tryz.f6.params.toList args.toList ds p := hA0
  rw [Tryz.params6] at hA hval
  obtain ⟨v0, v1, d0, d1, p0, p1, rfl, rfl, rfl, h0, h1⟩ := trodAll_two hA
  obtain ⟨rfl, rfl⟩ := trodVars_none hV
  simp only [List.append_nil] at hW' hk
  have hb := bulk_of_cond hk
  simp only [Rows.uptoBulkAll] at hb
  have hlt0 : ∀ x ∈ p0, x.block < W.heap.size := fun x hx => by simpa using hW'.lt x (by simp [hx])
  have hlt1 : ∀ x ∈ p1, x.block < W.heap.size := fun x hx => by simpa using hW'.lt x (by simp [hx])
  have k0 := h0
  have k1 := h1
  obtain ⟨n0, e0⟩ := h0
  obtain ⟨n1, e1⟩ := h1
  obtain ⟨a, ha, wa⟩ := lo_of_trod n0 _ _ e0 (by simp only; omega)
  obtain ⟨Am, more, cm, hv, _, hb', _⟩ := strs_of_trod e1 (by simp only; omega)
  have va : v0 = .agg (v0.cells.toList).toArray := agg_of_lo ha
  have vb : v1 = .slice Am more.length cm := by
    obtain ⟨A', l', c', rfl⟩ := okWide_slice Tryz.underlying22 (hval 1 _ v1 rfl rfl)
    simpa [Value.cells] using hv
  have hmb : maxBulk = 1048576 := rfl
  have C := lfree_calls (now W) (glob_of hL hsh) a _ Am cm more W ha hb' (now_sat W) (by simp only at wa; omega)
  rw [← va, ← vb] at C
  refine C.mono fun e W' ⟨he, hB⟩ => ?_
  subst he
  have e1 : Rows.logicFreeSpec.fn H ([d0, d1] ++ []) = { results := [.lit (.bool true)], args := [d0, d1] } := by simp [Rows.logicFreeSpec]
  refine ⟨_, rfl, _, _, _, [], p0 ++ p1, [], hW', ?_, ?_, ?_, hB.frame _, fun h => by cases h⟩
  · rw [e1]; exact trodAll_mk1 (shut_bool Tryz.underlying4 true)
  · rw [e1, Tryz.params6]
    exact trodAll_mk2 (kept_reads (by kernel_rfl) (of_decide_eq_true (by kernel_rfl)) k0 hB hlt0) (kept_reads (by kernel_rfl) (of_decide_eq_true (by kernel_rfl)) k1 hB hlt1)
  · rw [e1]; rfl

set_option maxRecDepth 100000 in
theorem lifted (os : Os) (started : os.Started) (H : Type) (enc : TypeId × Value → H) (F : Stop.Interp) :
    ReturnsInHanded {} Tryz.checked os 6 .any ((Rows.OpenSpec.upto Rows.logicFreeSpec).preRow enc Tryz.prog Tryz.f6 Rows.logicFreeUptoRow.domain false Rows.logicFreeUptoRow.laid) (((Rows.OpenSpec.upto Rows.logicFreeSpec).at F).post enc Tryz.prog Tryz.f6 false true false false) := by
  obtain ⟨places, hx⟩ := zero_readsF os enc
  refine returnsInHanded_of_row (C := Tryz.checked) (s := Rows.OpenSpec.upto Rows.logicFreeSpec) ownKnob_none started (by kernel_rfl) Tryz.func6
    (witness_row_atRef (enc := enc) (C := Tryz.checked) false (laidWorld os) #[zeroLoV, .slice none 0 0] rfl (by kernel_rfl) (by kernel_rfl) (by kernel_rfl)
      (OpenSpec.preRow_of_cond 8 hx (by kernel_rfl) (fun k hk => by cases hk; kernel_rfl) (by kernel_rfl) (laid_met os _))) ?_
  intro W base args ds gs before hval hW _ hcond _ hL hsh _
  exact contract H enc W base args ds gs before hval hW (hcond _ rfl) hL hsh

theorem saidUpto : Rows.LogicFreeUptoSaid :=
  OpenClaim.holds_of_cond 6 Tryz.f6 rfl rfl rfl rfl rfl rfl rfl ⟨rfl, rfl, rfl, rfl, rfl⟩ rfl rfl rfl rfl rfl (by kernel_rfl) Tryz.func6 (by kernel_rfl)
    (of_decide_eq_true (by kernel_rfl)) (by unfold Func.isWrapper; first | (rw [if_pos (by decide +kernel)]; kernel_rfl) | (rw [if_neg (by decide +kernel)]; exact ⟨rfl, rfl⟩))
    (fun os started H enc _ F => by rw [OpenClaim.pre_eq_preRow]; exact lifted os started H enc F)

theorem plain (f : FuncId) (fn : Func) (hf : Tryz.pinned.checked.prog.funcNamed "tipstave/tipstavelaw15.LogicFree" = some f) (hfn : Tryz.pinned.checked.prog.funcs[f]? = some fn) :
    true = Tryz.pinned.checked.prog.looks [] ∧ ∀ (j : Nat) t, fn.params[j]? = some t → Tryz.pinned.checked.prog.wantsStandIn t = false := by
  obtain rfl : f = 6 := Option.some.inj ((show Tryz.prog.funcNamed "tipstave/tipstavelaw15.LogicFree" = some 6 by kernel_rfl).symm.trans hf) |>.symm
  obtain rfl : fn = Tryz.f6 := (Option.some.inj (Tryz.func6.symm.trans hfn)).symm
  refine ⟨by kernel_rfl, fun j t ht => ?_⟩
  rw [Tryz.params6] at ht
  rcases (show t = 29 ∨ t = 22 by simpa using Array.mem_of_getElem? ht) with rfl | rfl
  · exact (show Tryz.prog.wantsStandIn 29 = false by kernel_rfl)
  · exact (show Tryz.prog.wantsStandIn 22 = false by kernel_rfl)

theorem cardUpto : Rows.LogicFreeUptoCardSaid :=
  Claim7.holds_tied_plain_at .later [] _ _ _ _ saidUpto (fun _ h => by cases h) (by kernel_rfl) (fun _ h => by cases h) logicFreeUpto_row_tie rfl ⟨rfl, rfl⟩ (by kernel_rfl) rfl plain (by kernel_rfl)
end Go.Proofs.YtainigjbjfpoaaaGreatDoor.lfree
