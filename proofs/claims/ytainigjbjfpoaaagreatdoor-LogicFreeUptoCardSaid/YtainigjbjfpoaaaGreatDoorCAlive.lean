/- tipstavelaw15.alive. -/
/- tipstavelaw15.alive: the walk. -/
/- A call's world under a name; rows of cells that a walk has laid. -/
import Derived.Test.YtainigjbjfpoaaaGreatDoorCPol
import Derived.Test.YtainigjbjfpoaaaGreatDoorCLgFree2
import Derived.Test.YtainigjbjfpoaaaGreatDoorCLog8
import Derived.Laws.EntriesVeiled
import Derived.Deep.RegionHeld3
import Derived.RangeFuncBox
import Derived.RangeFuncLeaves
import Derived.RangeFuncNested
namespace Go.Proofs.YtainigjbjfpoaaaGreatDoor
open Go.RowKit Go.Shelf Go.Maps

/-! ### the example -/
def exA : Ex := ⟨3, ⟨#[97]⟩, [], []⟩
def exB : Ex := ⟨3, ⟨#[98]⟩, [], []⟩
def exOne : Ex := ⟨0, ⟨#[49]⟩, [], []⟩
def exAB : Ex := ⟨5, ⟨#[43]⟩, [], [exA, exB]⟩
def loLit (e : Ex) : Lo := ⟨0, e, ⟨#[]⟩, [], [], [], [], []⟩
def loEx : Lo := ⟨2, Ex.zero, ⟨#[]⟩, [], [], [], [⟨#[97]⟩, ⟨#[]⟩], [loLit exOne, loLit exAB]⟩
theorem loEx_right : loErr loEx = 0 := by kernel_rfl
theorem need_mem {bd : List ByteArray} {y : Ex} {s : ByteArray} : s ∈ need bd y ↔ s ∈ Ex.fv y [] ∧ s ∉ bd := by
  unfold need unb
  rw [List.mem_filter, freeOf_mem]
  have : (!has bd s) = true ↔ s ∉ bd := by
    rw [Bool.not_eq_true', Bool.eq_false_iff, ne_eq, has_iff]
  rw [this]
theorem freeOf_one (s : ByteArray) : freeOf [s] = [s] := by
  have h1 : nub [s] = [s] := by simp [nub, has]
  unfold freeOf
  rw [h1]
  simp [lists, texts]
theorem loEx_free : freeOf (Lo.fv loEx []) = [⟨#[98]⟩] := by
  rw [← freeOf_one ⟨#[98]⟩]
  refine freeOf_ext fun s => ?_
  have ha : Ex.fv exOne [] = [] := by kernel_rfl
  have hb : Ex.fv exAB [] = [⟨#[97]⟩, ⟨#[98]⟩] := by kernel_rfl
  have hz : Ex.fv Ex.zero [] = [] := by kernel_rfl
  have h1 : Lo.fv loEx [] = need [] exOne ++ need [⟨#[97]⟩] exAB := by
    simp [loEx, loLit, Lo.fv, Lo.fvs, Lo.parts, Lo.hd, bdAt]
  rw [h1, List.mem_append, need_mem, need_mem, ha, hb]
  have hne : (⟨#[97]⟩ : ByteArray) ≠ ⟨#[98]⟩ := by decide
  simp
  constructor
  · rintro ⟨rfl | rfl, h⟩
    · exact absurd rfl h
    · rfl
  · rintro rfl
    exact ⟨.inr rfl, fun e => hne e.symm⟩

set_option maxRecDepth 100000 in
theorem alive1_calls (s : ByteArray) (w : World) : Calls Tryz.prog 22 #[.string s] w fun e w' => e = .returned (.agg #[.int .i64 3, .string s, .slice none 0 0, .slice none 0 0]) ∧ w' = w.alloc (.cells #[.int .i64 3, .string s, .slice none 0 0, .slice none 0 0] 25) := by
  go_enter Tryz.func22, Tryz.ntmps22
  go_wp2
  exact bodyPost_ret (v := .agg #[.int .i64 3, .string s, .slice none 0 0, .slice none 0 0]) (by
    have hc := fun j => World.cell?_alloc_mark w #[.int .i64 3, .string s, .slice none 0 0, .slice none 0 0] 25 (0, 0) j
    simp [results, Tryz.results22, go_sem, hc]) rfl ⟨rfl, rfl⟩

theorem Row.two {α : Type} {P : Pers} {rep : α → List Value → Prop} {sz b : Nat} {x0 x1 : α} {A B : List Value} (hA : A.length = sz) (r0 : rep x0 A) (r1 : rep x1 B) (hP : ∀ j v, (A ++ B)[j]? = some v → P ⟨b, j, none⟩ v) : Row P rep sz (some ⟨b, 0, none⟩) [x0, x1] := by
  refine Row.made [A, B] (show 2 ≤ maxRow by decide) rfl (fun i x cs hx hc => ?_) (fun i cs j v hc hj => ?_)
  · match i, hx, hc with
    | 0, hx, hc =>
      obtain rfl : x0 = x := by simpa using hx
      obtain rfl : A = cs := by simpa using hc
      exact r0
    | 1, hx, hc =>
      obtain rfl : x1 = x := by simpa using hx
      obtain rfl : B = cs := by simpa using hc
      exact r1
    | i + 2, hx, hc => simp at hx
  · match i, hc with
    | 0, hc =>
      obtain rfl : A = cs := by simpa using hc
      have := hP j v (by
        have hjl := (List.getElem?_eq_some_iff.1 hj).1
        rw [List.getElem?_append_left hjl]; exact hj)
      simpa using this
    | 1, hc =>
      obtain rfl : B = cs := by simpa using hc
      have := hP (sz + j) v (by
        rw [List.getElem?_append_right (by omega), hA, Nat.add_sub_cancel_left]; exact hj)
      simpa using this
    | i + 2, hc => simp at hc
theorem row_later {V W : World} {cs : List Value} {t : TypeId} (hB : Below (V.alloc (.cells cs.toArray t)).heap.size (V.alloc (.cells cs.toArray t)) W) {n : Nat} (hn : V.heap.size = n) : ∀ j v, cs[j]? = some v → W.cell? ⟨n, j, none⟩ = some v := fun j v hj => by
  subst hn
  rw [hB.cell (p := ⟨V.heap.size, j, none⟩) (by simp)]
  refine (World.cell?_alloc_mark ..).trans ?_
  simpa using hj
theorem exName_rep (P : Pers) (s : ByteArray) (hs : s.size ≤ maxStr) (k : Int) (hk : inI64 k) : Ex.Rep P ⟨k, s, [], []⟩ [.int .i64 k, .string s, .slice none 0 0, .slice none 0 0] :=
  Ex.Rep.shut ⟨k, s, [], []⟩ (A2 := none) (c2 := 0) (Nat.le_refl _) (Row.nil _ _ _ _) (A3 := none) (c3 := 0) (Nat.le_refl _) (Row.nil _ _ _ _) hs hk
theorem loLit_rep (P : Pers) (e : Ex) {A3 A4 : Option Addr} {c3 c4 : Nat} (h3 : e.ns.length ≤ c3) (r3 : Strs P A3 e.ns) (h4 : e.l.length ≤ c4) (r4 : Exs P A4 e.l) (hs : e.s.size ≤ maxStr) (hk : inI64 e.k) :
    Lo.Rep P (loLit e) [.int .i64 0, .int .i64 e.k, .string e.s, .slice A3 e.ns.length c3, .slice A4 e.l.length c4, .string ⟨#[]⟩, .slice none 0 0, .slice none 0 0, .slice none 0 0, .slice none 0 0, .slice none 0 0] :=
  Lo.Rep.shut (loLit e) h3 r3 h4 r4 (A6 := none) (c6 := 0) (Nat.le_refl _) (Row.nil _ _ _ _) (A7 := none) (c7 := 0) (Nat.le_refl _) (Row.nil _ _ _ _) (A8 := none) (c8 := 0) (Nat.le_refl _) (Row.nil _ _ _ _) (A9 := none) (c9 := 0) (Nat.le_refl _) (Row.nil _ _ _ _) (A10 := none) (c10 := 0) (Nat.le_refl _) (Row.nil _ _ _ _) hs (show 0 ≤ maxStr from Nat.zero_le _) (show inI64 0 by unfold inI64; omega) hk
theorem loEx_rep (P : Pers) (n : Nat) (hN : ∀ j v, ([.string ⟨#[97]⟩] ++ [.string ⟨#[]⟩] : List Value)[j]? = some v → P ⟨n, j, none⟩ v)
    (hE : ∀ j v, ([.int .i64 3, .string ⟨#[97]⟩, .slice none 0 0, .slice none 0 0] ++ [.int .i64 3, .string ⟨#[98]⟩, .slice none 0 0, .slice none 0 0] : List Value)[j]? = some v → P ⟨n + 1 + 1 + 1, j, none⟩ v)
    (hL : ∀ j v, ([.int .i64 0, .int .i64 0, .string ⟨#[49]⟩, .slice none 0 0, .slice none 0 0, .string ⟨#[]⟩, .slice none 0 0, .slice none 0 0, .slice none 0 0, .slice none 0 0, .slice none 0 0] ++ [.int .i64 0, .int .i64 5, .string ⟨#[43]⟩, .slice none 0 0, .slice (some ⟨n + 1 + 1 + 1, 0, none⟩) 2 2, .string ⟨#[]⟩, .slice none 0 0, .slice none 0 0, .slice none 0 0, .slice none 0 0, .slice none 0 0] : List Value)[j]? = some v → P ⟨n + 1 + 1 + 1 + 1, j, none⟩ v) :
    Lo.Rep P loEx [.int .i64 2, .int .i64 0, .string ⟨#[]⟩, .slice none 0 0, .slice none 0 0, .string ⟨#[]⟩, .slice none 0 0, .slice none 0 0, .slice none 0 0, .slice (some ⟨n, 0, none⟩) 2 2, .slice (some ⟨n + 1 + 1 + 1 + 1, 0, none⟩) 2 2] := by
  have i0 : inI64 0 := by unfold inI64; omega
  have i2 : inI64 2 := by unfold inI64; omega
  have i3 : inI64 3 := by unfold inI64; omega
  have i5 : inI64 5 := by unfold inI64; omega
  have rE : Exs P (some ⟨n + 1 + 1 + 1, 0, none⟩) [exA, exB] := Row.two rfl (exName_rep P _ (by decide) 3 i3) (exName_rep P _ (by decide) 3 i3) hE
  have rN : Strs P (some ⟨n, 0, none⟩) [⟨#[97]⟩, ⟨#[]⟩] := Row.two rfl ⟨rfl, by decide⟩ ⟨rfl, by decide⟩ hN
  have rL : Los P (some ⟨n + 1 + 1 + 1 + 1, 0, none⟩) [loLit exOne, loLit exAB] := Row.two rfl
    (loLit_rep P exOne (A3 := none) (c3 := 0) (Nat.le_refl _) (Row.nil _ _ _ _) (A4 := none) (c4 := 0) (Nat.le_refl _) (Row.nil _ _ _ _) (by decide) i0)
    (loLit_rep P exAB (A3 := none) (c3 := 0) (Nat.le_refl _) (Row.nil _ _ _ _) (c4 := 2) (Nat.le_refl _) rE (by decide) i5) hL
  exact Lo.Rep.shut loEx (A3 := none) (c3 := 0) (Nat.le_refl _) (Row.nil _ _ _ _) (A4 := none) (c4 := 0) (Nat.le_refl _) (Row.nil _ _ _ _) (A6 := none) (c6 := 0) (Nat.le_refl _) (Row.nil _ _ _ _) (A7 := none) (c7 := 0) (Nat.le_refl _) (Row.nil _ _ _ _) (A8 := none) (c8 := 0) (Nat.le_refl _) (Row.nil _ _ _ _) (c9 := 2) (Nat.le_refl _) rN (c10 := 2) (Nat.le_refl _) rL (by decide) (by decide) i2 i0
theorem loEx_wt : loEx.wt ≤ 1000 := Nat.le_of_ble_eq_true (by kernel_rfl)
end Go.Proofs.YtainigjbjfpoaaaGreatDoor

namespace Go.Proofs.YtainigjbjfpoaaaGreatDoor
open Go.RowKit Go.Shelf Go.Maps

attribute [local go_sem] Oper.semAt_some

theorem policies0_calls (w : World) : Calls Tryz.prog 23 #[] w fun e w' => e = .returned (.func (.func 58) #[] #[]) ∧ w' = w := by
  go_enter Tryz.func23, Tryz.ntmps23
  go_wp2
  go_ret
  exact ⟨rfl, rfl⟩
theorem rpolicies_calls (w : World) : Calls Tryz.prog 24 #[] w fun e w' => e = .returned (.slice (some ⟨w.heap.size, 0, none⟩) policies.length 7) ∧ StrsAt w'.heap.size w' (some ⟨w.heap.size, 0, none⟩) policies ∧ Below w.heap.size w w' := by
  go_enter Tryz.func24, Tryz.ntmps24
  go_wp2
  go_ret
  refine ⟨rfl, fun j x hj => ⟨w.heap.size, 0, rfl, by simp, ?_⟩, (Below.refl _ _).alloc (Nat.le_refl _) _⟩
  rw [Nat.zero_add]
  refine (World.cell?_alloc_mark ..).trans ?_
  have : (policies.map Value.string)[j]? = some (.string x) := by rw [List.getElem?_map, hj]; rfl
  rw [← this]
  simp [policies, bs]
theorem policies_sizes : ∀ s ∈ policies, s.size ≤ maxStr := by
  intro s hs
  simp only [policies, List.mem_cons, List.not_mem_nil, or_false] at hs
  rcases hs with rfl | rfl | rfl | rfl | rfl | rfl | rfl <;> decide

theorem keepP {W X X' : World} {p : Addr} {v : Value} (hb : Below X.heap.size X X') (hc : X.cell? p = some v) (hB : Below W.heap.size W X) : X'.cell? p = some v ∧ Below W.heap.size W X' :=
  ⟨Cells.below hb _ _ hc, hB.trans (hb.mono hB.size)⟩

set_option maxRecDepth 100000 in
set_option maxHeartbeats 4000000 in
theorem alive_calls (P : Pers) (G : Glob P) (w : World) (hs : Sat P w) : Calls Tryz.prog 7 #[] w fun e w' => e = .returned (.bool true) ∧ Below w.heap.size w w' := by
  have HG := As.mk G
  have HS := As.mk hs
  clear G hs
  refine (callsIn_wide (n := 6)).1 ?_
  refine callsIn_of_wp_marks Tryz.func7 rfl trivial ?_ rfl
  simp only [Tryz.ntmps7, List.size_toArray, List.length_nil, Nat.reduceSub, Array.replicate_succ, Array.replicate_zero, List.push_toArray, List.append_toArray, List.nil_append, List.cons_append]
  refine wpIn_wide.2 ?_
  go_wp2_with (go_at_call 22; refine (alive1_calls _ _).mono ?_; rintro e w' ⟨rfl, rfl⟩)
  have hN := row_later (V := w) (cs := [.string ⟨#[97]⟩, .string ⟨#[]⟩]) (t := 9) (W := ((((((w.alloc (.cells #[.string ⟨#[97]⟩, .string ⟨#[]⟩] 9)).alloc (.cells #[.int .i64 3, .string ⟨#[97]⟩, .slice none 0 0, .slice none 0 0] 25)).alloc (.cells #[.int .i64 3, .string ⟨#[98]⟩, .slice none 0 0, .slice none 0 0] 25)).alloc (.cells #[.int .i64 3, .string ⟨#[97]⟩, .slice none 0 0, .slice none 0 0, .int .i64 3, .string ⟨#[98]⟩, .slice none 0 0, .slice none 0 0] 25)).alloc (.cells #[.int .i64 0, .int .i64 0, .string ⟨#[49]⟩, .slice none 0 0, .slice none 0 0, .string ⟨#[]⟩, .slice none 0 0, .slice none 0 0, .slice none 0 0, .slice none 0 0, .slice none 0 0, .int .i64 0, .int .i64 5, .string ⟨#[43]⟩, .slice none 0 0, .slice (some ⟨w.heap.size + 1 + 1 + 1, 0, none⟩) 2 2, .string ⟨#[]⟩, .slice none 0 0, .slice none 0 0, .slice none 0 0, .slice none 0 0, .slice none 0 0] 29)).alloc (.cells #[.int .i64 2, .int .i64 0, .string ⟨#[]⟩, .slice none 0 0, .slice none 0 0, .string ⟨#[]⟩, .slice none 0 0, .slice none 0 0, .slice none 0 0, .slice (some ⟨w.heap.size, 0, none⟩) 2 2, .slice (some ⟨w.heap.size + 1 + 1 + 1 + 1, 0, none⟩) 2 2] 29))) (by repeat (first | exact Below.refl _ _ | refine Below.alloc ?_ (by simp; try omega) _)) rfl
  have hE := row_later (V := (((w.alloc (.cells #[.string ⟨#[97]⟩, .string ⟨#[]⟩] 9)).alloc (.cells #[.int .i64 3, .string ⟨#[97]⟩, .slice none 0 0, .slice none 0 0] 25)).alloc (.cells #[.int .i64 3, .string ⟨#[98]⟩, .slice none 0 0, .slice none 0 0] 25))) (cs := [.int .i64 3, .string ⟨#[97]⟩, .slice none 0 0, .slice none 0 0, .int .i64 3, .string ⟨#[98]⟩, .slice none 0 0, .slice none 0 0]) (t := 25) (W := ((((((w.alloc (.cells #[.string ⟨#[97]⟩, .string ⟨#[]⟩] 9)).alloc (.cells #[.int .i64 3, .string ⟨#[97]⟩, .slice none 0 0, .slice none 0 0] 25)).alloc (.cells #[.int .i64 3, .string ⟨#[98]⟩, .slice none 0 0, .slice none 0 0] 25)).alloc (.cells #[.int .i64 3, .string ⟨#[97]⟩, .slice none 0 0, .slice none 0 0, .int .i64 3, .string ⟨#[98]⟩, .slice none 0 0, .slice none 0 0] 25)).alloc (.cells #[.int .i64 0, .int .i64 0, .string ⟨#[49]⟩, .slice none 0 0, .slice none 0 0, .string ⟨#[]⟩, .slice none 0 0, .slice none 0 0, .slice none 0 0, .slice none 0 0, .slice none 0 0, .int .i64 0, .int .i64 5, .string ⟨#[43]⟩, .slice none 0 0, .slice (some ⟨w.heap.size + 1 + 1 + 1, 0, none⟩) 2 2, .string ⟨#[]⟩, .slice none 0 0, .slice none 0 0, .slice none 0 0, .slice none 0 0, .slice none 0 0] 29)).alloc (.cells #[.int .i64 2, .int .i64 0, .string ⟨#[]⟩, .slice none 0 0, .slice none 0 0, .string ⟨#[]⟩, .slice none 0 0, .slice none 0 0, .slice none 0 0, .slice (some ⟨w.heap.size, 0, none⟩) 2 2, .slice (some ⟨w.heap.size + 1 + 1 + 1 + 1, 0, none⟩) 2 2] 29))) (by repeat (first | exact Below.refl _ _ | refine Below.alloc ?_ (by simp; try omega) _)) (n := w.heap.size + 1 + 1 + 1) (by simp)
  have hL := row_later (V := ((((w.alloc (.cells #[.string ⟨#[97]⟩, .string ⟨#[]⟩] 9)).alloc (.cells #[.int .i64 3, .string ⟨#[97]⟩, .slice none 0 0, .slice none 0 0] 25)).alloc (.cells #[.int .i64 3, .string ⟨#[98]⟩, .slice none 0 0, .slice none 0 0] 25)).alloc (.cells #[.int .i64 3, .string ⟨#[97]⟩, .slice none 0 0, .slice none 0 0, .int .i64 3, .string ⟨#[98]⟩, .slice none 0 0, .slice none 0 0] 25))) (cs := [.int .i64 0, .int .i64 0, .string ⟨#[49]⟩, .slice none 0 0, .slice none 0 0, .string ⟨#[]⟩, .slice none 0 0, .slice none 0 0, .slice none 0 0, .slice none 0 0, .slice none 0 0, .int .i64 0, .int .i64 5, .string ⟨#[43]⟩, .slice none 0 0, .slice (some ⟨w.heap.size + 1 + 1 + 1, 0, none⟩) 2 2, .string ⟨#[]⟩, .slice none 0 0, .slice none 0 0, .slice none 0 0, .slice none 0 0, .slice none 0 0]) (t := 29) (W := ((((((w.alloc (.cells #[.string ⟨#[97]⟩, .string ⟨#[]⟩] 9)).alloc (.cells #[.int .i64 3, .string ⟨#[97]⟩, .slice none 0 0, .slice none 0 0] 25)).alloc (.cells #[.int .i64 3, .string ⟨#[98]⟩, .slice none 0 0, .slice none 0 0] 25)).alloc (.cells #[.int .i64 3, .string ⟨#[97]⟩, .slice none 0 0, .slice none 0 0, .int .i64 3, .string ⟨#[98]⟩, .slice none 0 0, .slice none 0 0] 25)).alloc (.cells #[.int .i64 0, .int .i64 0, .string ⟨#[49]⟩, .slice none 0 0, .slice none 0 0, .string ⟨#[]⟩, .slice none 0 0, .slice none 0 0, .slice none 0 0, .slice none 0 0, .slice none 0 0, .int .i64 0, .int .i64 5, .string ⟨#[43]⟩, .slice none 0 0, .slice (some ⟨w.heap.size + 1 + 1 + 1, 0, none⟩) 2 2, .string ⟨#[]⟩, .slice none 0 0, .slice none 0 0, .slice none 0 0, .slice none 0 0, .slice none 0 0] 29)).alloc (.cells #[.int .i64 2, .int .i64 0, .string ⟨#[]⟩, .slice none 0 0, .slice none 0 0, .string ⟨#[]⟩, .slice none 0 0, .slice none 0 0, .slice none 0 0, .slice (some ⟨w.heap.size, 0, none⟩) 2 2, .slice (some ⟨w.heap.size + 1 + 1 + 1 + 1, 0, none⟩) 2 2] 29))) (by repeat (first | exact Below.refl _ _ | refine Below.alloc ?_ (by simp; try omega) _)) (n := w.heap.size + 1 + 1 + 1 + 1) (by simp)
  have hB := row_later (V := (((((w.alloc (.cells #[.string ⟨#[97]⟩, .string ⟨#[]⟩] 9)).alloc (.cells #[.int .i64 3, .string ⟨#[97]⟩, .slice none 0 0, .slice none 0 0] 25)).alloc (.cells #[.int .i64 3, .string ⟨#[98]⟩, .slice none 0 0, .slice none 0 0] 25)).alloc (.cells #[.int .i64 3, .string ⟨#[97]⟩, .slice none 0 0, .slice none 0 0, .int .i64 3, .string ⟨#[98]⟩, .slice none 0 0, .slice none 0 0] 25)).alloc (.cells #[.int .i64 0, .int .i64 0, .string ⟨#[49]⟩, .slice none 0 0, .slice none 0 0, .string ⟨#[]⟩, .slice none 0 0, .slice none 0 0, .slice none 0 0, .slice none 0 0, .slice none 0 0, .int .i64 0, .int .i64 5, .string ⟨#[43]⟩, .slice none 0 0, .slice (some ⟨w.heap.size + 1 + 1 + 1, 0, none⟩) 2 2, .string ⟨#[]⟩, .slice none 0 0, .slice none 0 0, .slice none 0 0, .slice none 0 0, .slice none 0 0] 29))) (cs := [.int .i64 2, .int .i64 0, .string ⟨#[]⟩, .slice none 0 0, .slice none 0 0, .string ⟨#[]⟩, .slice none 0 0, .slice none 0 0, .slice none 0 0, .slice (some ⟨w.heap.size, 0, none⟩) 2 2, .slice (some ⟨w.heap.size + 1 + 1 + 1 + 1, 0, none⟩) 2 2]) (t := 29) (W := ((((((w.alloc (.cells #[.string ⟨#[97]⟩, .string ⟨#[]⟩] 9)).alloc (.cells #[.int .i64 3, .string ⟨#[97]⟩, .slice none 0 0, .slice none 0 0] 25)).alloc (.cells #[.int .i64 3, .string ⟨#[98]⟩, .slice none 0 0, .slice none 0 0] 25)).alloc (.cells #[.int .i64 3, .string ⟨#[97]⟩, .slice none 0 0, .slice none 0 0, .int .i64 3, .string ⟨#[98]⟩, .slice none 0 0, .slice none 0 0] 25)).alloc (.cells #[.int .i64 0, .int .i64 0, .string ⟨#[49]⟩, .slice none 0 0, .slice none 0 0, .string ⟨#[]⟩, .slice none 0 0, .slice none 0 0, .slice none 0 0, .slice none 0 0, .slice none 0 0, .int .i64 0, .int .i64 5, .string ⟨#[43]⟩, .slice none 0 0, .slice (some ⟨w.heap.size + 1 + 1 + 1, 0, none⟩) 2 2, .string ⟨#[]⟩, .slice none 0 0, .slice none 0 0, .slice none 0 0, .slice none 0 0, .slice none 0 0] 29)).alloc (.cells #[.int .i64 2, .int .i64 0, .string ⟨#[]⟩, .slice none 0 0, .slice none 0 0, .string ⟨#[]⟩, .slice none 0 0, .slice none 0 0, .slice none 0 0, .slice (some ⟨w.heap.size, 0, none⟩) 2 2, .slice (some ⟨w.heap.size + 1 + 1 + 1 + 1, 0, none⟩) 2 2] 29))) (Below.refl _ _) (n := w.heap.size + 1 + 1 + 1 + 1 + 1) (by simp)
  have hb2 : Below w.heap.size w ((((((w.alloc (.cells #[.string ⟨#[97]⟩, .string ⟨#[]⟩] 9)).alloc (.cells #[.int .i64 3, .string ⟨#[97]⟩, .slice none 0 0, .slice none 0 0] 25)).alloc (.cells #[.int .i64 3, .string ⟨#[98]⟩, .slice none 0 0, .slice none 0 0] 25)).alloc (.cells #[.int .i64 3, .string ⟨#[97]⟩, .slice none 0 0, .slice none 0 0, .int .i64 3, .string ⟨#[98]⟩, .slice none 0 0, .slice none 0 0] 25)).alloc (.cells #[.int .i64 0, .int .i64 0, .string ⟨#[49]⟩, .slice none 0 0, .slice none 0 0, .string ⟨#[]⟩, .slice none 0 0, .slice none 0 0, .slice none 0 0, .slice none 0 0, .slice none 0 0, .int .i64 0, .int .i64 5, .string ⟨#[43]⟩, .slice none 0 0, .slice (some ⟨w.heap.size + 1 + 1 + 1, 0, none⟩) 2 2, .string ⟨#[]⟩, .slice none 0 0, .slice none 0 0, .slice none 0 0, .slice none 0 0, .slice none 0 0] 29)).alloc (.cells #[.int .i64 2, .int .i64 0, .string ⟨#[]⟩, .slice none 0 0, .slice none 0 0, .string ⟨#[]⟩, .slice none 0 0, .slice none 0 0, .slice none 0 0, .slice (some ⟨w.heap.size, 0, none⟩) 2 2, .slice (some ⟨w.heap.size + 1 + 1 + 1 + 1, 0, none⟩) 2 2] 29)) := by repeat (first | exact Below.refl _ _ | refine Below.alloc ?_ (by simp; try omega) _)
  obtain ⟨W2, hW2⟩ : ∃ W2, W2 = ((((((w.alloc (.cells #[.string ⟨#[97]⟩, .string ⟨#[]⟩] 9)).alloc (.cells #[.int .i64 3, .string ⟨#[97]⟩, .slice none 0 0, .slice none 0 0] 25)).alloc (.cells #[.int .i64 3, .string ⟨#[98]⟩, .slice none 0 0, .slice none 0 0] 25)).alloc (.cells #[.int .i64 3, .string ⟨#[97]⟩, .slice none 0 0, .slice none 0 0, .int .i64 3, .string ⟨#[98]⟩, .slice none 0 0, .slice none 0 0] 25)).alloc (.cells #[.int .i64 0, .int .i64 0, .string ⟨#[49]⟩, .slice none 0 0, .slice none 0 0, .string ⟨#[]⟩, .slice none 0 0, .slice none 0 0, .slice none 0 0, .slice none 0 0, .slice none 0 0, .int .i64 0, .int .i64 5, .string ⟨#[43]⟩, .slice none 0 0, .slice (some ⟨w.heap.size + 1 + 1 + 1, 0, none⟩) 2 2, .string ⟨#[]⟩, .slice none 0 0, .slice none 0 0, .slice none 0 0, .slice none 0 0, .slice none 0 0] 29)).alloc (.cells #[.int .i64 2, .int .i64 0, .string ⟨#[]⟩, .slice none 0 0, .slice none 0 0, .string ⟨#[]⟩, .slice none 0 0, .slice none 0 0, .slice none 0 0, .slice (some ⟨w.heap.size, 0, none⟩) 2 2, .slice (some ⟨w.heap.size + 1 + 1 + 1 + 1, 0, none⟩) 2 2] 29)) := ⟨_, rfl⟩
  rw [← hW2] at hN hE hL hB hb2 ⊢
  have HS2 := As.mk (HS.out.below hb2)
  have HB2 := As.mk hb2
  have HB := As.mk hB
  have hrep := loEx_rep (P.snap W2) w.heap.size (fun j v h => .inr (hN j v h)) (fun j v h => .inr (hE j v h)) (fun j v h => .inr (hL j v h))
  have hck := logicCheck_calls (P.snap W2) (HG.out.mono (Pers.le_snap _ _)) loEx _ W2 hrep (Sat.snap HS2.out)
  rw [loEx_right] at hck
  have hfr := fun W hs => lgFreeAll_calls (P.snap W2) loEx _ W hrep hs (Nat.le_trans loEx_wt (by decide))
  rw [loEx_free] at hfr
  have HFR := As.mk hfr
  clear hN hE hL hB hb2 hrep hfr hW2
  refine hck.mono ?_
  rintro e w3 ⟨rfl, hb3⟩
  have HB3 := As.mk (HB2.out.trans (hb3.mono HB2.out.size))
  have HS3 := As.mk ((Sat.snap HS2.out).below hb3)
  have y := fun j v h => Cells.below hb3 _ _ (HB.out j v h)
  have Y0 := y 0 _ rfl
  have Y1 := y 1 _ rfl
  have Y2 := y 2 _ rfl
  have Y3 := y 3 _ rfl
  have Y4 := y 4 _ rfl
  have Y5 := y 5 _ rfl
  have Y6 := y 6 _ rfl
  have Y7 := y 7 _ rfl
  have Y8 := y 8 _ rfl
  have Y9 := y 9 _ rfl
  have Y10 := y 10 _ rfl
  clear hck hb3 y
  go_wp2_with fail
  refine (HFR.out _ HS3.out).mono ?_
  rintro e w4 ⟨⟨AF, cF, rfl, hcF, hst⟩, hb4⟩
  have HB4 := As.mk (HB3.out.trans (hb4.mono HB3.out.size))
  have HS4 := As.mk (HS3.out.below hb4)
  have hsm := sameAt AF (some ⟨w4.heap.size, 0, none⟩) cF 1 [⟨#[98]⟩] [⟨#[98]⟩] (w4.alloc (.cells #[.string ⟨#[98]⟩] 9)) (hst.cells (Cells.below ((Below.refl _ _).alloc (Nat.le_refl _) _)) (by simp)) (StrsAt.one _ _ _) (by decide) (by decide) (fun s h => by simp at h; subst h; decide) (fun s h => by simp at h; subst h; decide)
  have HSM := As.mk hsm
  clear hst hb4 Y0 Y1 Y2 Y3 Y4 Y5 Y6 Y7 Y8 Y9 Y10 hsm
  go_wp2_with fail
  refine HSM.out.mono ?_
  rintro e w5 ⟨rfl, hb5⟩
  have heq : strsEq [⟨#[98]⟩] [⟨#[98]⟩] = true := by kernel_rfl
  have HB5 := As.mk ((HB4.out.alloc HB4.out.size (.cells #[.string ⟨#[98]⟩] 9)).trans (hb5.mono (by have := HB4.out.size; simp; omega)))
  have HS5 := As.mk ((HS4.out.alloc (.cells #[.string ⟨#[98]⟩] 9)).below hb5)
  clear hb5 HSM
  go_wp2_with (go_at_call 23; refine (policies0_calls _).mono ?_; rintro e w' ⟨rfl, rfl⟩)
  obtain ⟨i0, hi, hz0, hz1, hz2⟩ := info_parts infoStr
  have bO := Boxed.new w5 22 (.slice none 0 0)
  have hBx : Below w5.heap.size w5 (w5.alloc (.cells #[.slice none 0 0] 22)) := (Below.refl _ w5).alloc (Nat.le_refl _) _
  have hpol := PolAt.of (HG.out.mono (Pers.le_snap P W2)) HS5.out
  refine (wpIn_wide (n := 6)).1 ?_
  refine wpIn_rangeFunc_ownG rfl (by omega) (gf := 58) (lb := #[]) rfl trivial (enters_of Tryz.func58 (by kernel_rfl) rfl)
    (pol_stops Fence.wide 5 trivial rfl (by omega) w5.heap.size w5 hpol hpol.lt (Nat.le_refl _)) belowK_t (belowK_b (by simp)) hBx (fun _ => rfl)
    (fun pre W => (∃ v, Boxed W w5.heap.size 22 v ∧ W.ownsRow w5.heap.size 9 1 v pre.length (pre.map Value.string) ∧ True) ∧ Below w5.heap.size w5 W)
    (fun _ _ _ => False)
    (OwnFrom.and (Own.from (holdsRow_own w5.heap.size w5.heap.size 22 9 1 (fun pre : List ByteArray => pre.length) (fun pre => pre.map Value.string) (fun _ _ => True)) _) (ownFrom_below (Nat.le_refl _) (by simp)))
    (fun _ _ _ _ _ hs _ _ => hs)
    ⟨⟨_, bO, World.ownsRow_nil _ _ _ _, trivial⟩, hBx⟩
    ?fr ?assign ?body ?done ?stop
  case assign =>
    intro l x W K hK
    gi_wp2
    exact hK
  case body =>
    rintro l pre x W ⟨⟨v, hv, hrow, _⟩, hB⟩ hlt
    have hc := hv.cell
    have hlt7 : pre.length < 7 := hlt
    gi_wp2_with (gi_at_builtin; refine wpListIn_append_own _ rfl _ _ 22 rfl w5.heap.size 9 i0 (.string ⟨#[]⟩) 1 16 Tryz.underlying22 hi hz0 hz1 hz2 rfl (by decide) _ _ _ rfl (hrow.alloc _) ⟨W.heap.size, 0, none⟩ 1 1 [.string x] rfl rfl (cell_one_new _ _ _) (by simp [Value.oneCell']) (by unfold maxLen; omega) (by omega) (by have := hB.size; simp; omega) ?_; intro v' w1 hown' hgrow _; obtain ⟨g', cap', rfl⟩ := ownsRow_succ hown'; obtain ⟨hv1, hv2, hr2, hk2, hb2⟩ := hv.appended (by decide) hrow hB.size (Nat.le_refl _) hown' hgrow; have hc1 := hv1.cell; have hf1 := hv1.frozen)
    exact ⟨hk2.from _, hb2, ⟨_, hv2, by simpa using hr2, trivial⟩, hB.trans hb2⟩
  case done =>
    rintro D ys W hD rfl ⟨⟨v, hv, hrow, _⟩, hB⟩ hK
    have hc := hv.cell
    obtain ⟨A, c, rfl, hcl, hst⟩ := StrsAt.of_row hrow
    have HST := As.mk hst
    have HBW := As.mk hB
    have HD := As.mk (And.intro hD hK)
    have hDlt : D < W.heap.size := (Array.getElem?_eq_some_iff.1 hK).1
    have hid : strsEq policies policies = true := by kernel_rfl
    have hb0 : Below W.heap.size W W.drew := pw_below_drewN' (Below.refl _ _) 1
    clear hv hrow hB hst hD hK hDlt
    go_wp2_with fail
    go_region_held3 (fun X => X.cell? ⟨w5.heap.size, 0, none⟩ = some (.slice A policies.length c) ∧ Below W.heap.size W X)
      (first
        | exact ⟨hc, hb0⟩
        | (go_split_ands
           first
             | (refine ⟨?_, ?_⟩ <;> assumption)
             | exact keepP hb7 (by assumption) (by assumption)
             | exact keepP hb6 (by assumption) (by assumption)))
      (first
        | (go_at_call 24; refine (rpolicies_calls _).mono ?_; rintro e w6 ⟨rfl, hst6, hb6⟩)
        | (go_at_call 13; refine (sameAt A _ c 7 policies policies _ (by go_split_ands; exact HST.out.cells (Cells.below (by assumption)) (Below.size (by assumption))) (by assumption) (by decide) (by decide) policies_sizes policies_sizes).mono ?_; rintro e w7 ⟨rfl, hb7⟩))
    rename_i hh
    obtain ⟨_, hB7⟩ := hh
    have hD5 : w5.heap.size ≤ D := by have := HD.out.1; simp at this; omega
    have hK7 : w7.heap[D]? = some (.deferred (some [])) := (hB7.block D (Array.getElem?_eq_some_iff.1 HD.out.2).1).trans HD.out.2
    have HK7 := As.mk hK7
    have HF : As (∀ o', Below w.heap.size w (w7.putObj D o')) := ⟨fun o' => HB5.out.trans (((HBW.out.trans (hB7.mono HBW.out.size)).trans (belowK_b (w := w5) (Nat.le_refl _) w7 D _ o' hD5 hK7 rfl rfl)).mono HB5.out.size)⟩
    clear hB7 hK7 hb7 hb6 hst6 hc hb0
    go_wp2_with fail
    refine ⟨by simp, .inl ⟨_, _, rfl, run_takeDeferred HK7.out, ?_⟩⟩
    exact ⟨_, results_tmp rfl _ _ _, rfl, HF.out _⟩
  case stop =>
    rintro D c pre W _ _ h _
    exact h.elim
end Go.Proofs.YtainigjbjfpoaaaGreatDoor

namespace Go.Proofs.YtainigjbjfpoaaaGreatDoor
open Go.RowKit Go.Shelf Go.Maps

theorem calls_abs {p : Program} {f : Nat} {args : Array Value} {W : World} {post : Ending → World → Prop} (h : ∀ W', W' = W → Calls p f args W' post) : Calls p f args W post := h W rfl
theorem wp_abs {p : Program} {c : Code} {Q : Exit → Act → World → Prop} {a : Act} {W : World} (h : ∀ W', W' = W → Code.wp p c Q a W') : Code.wp p c Q a W := h W rfl
theorem row_at {V W : World} {cs : List Value} {t : TypeId} {n : Nat} (hW : W = V.alloc (.cells cs.toArray t)) (hn : V.heap.size = n) : ∀ j v, cs[j]? = some v → W.cell? ⟨n, j, none⟩ = some v := fun j v h => by
  rw [hW]
  exact row_later (Below.refl _ _) hn j v h
theorem row_in {V W W2 : World} {cs : List Value} {t : TypeId} {n : Nat} (hW : W = W2) (hB : Below (V.alloc (.cells cs.toArray t)).heap.size (V.alloc (.cells cs.toArray t)) W2) (hn : V.heap.size = n) : ∀ j v, cs[j]? = some v → W.cell? ⟨n, j, none⟩ = some v := fun j v h => by
  rw [hW]
  exact row_later hB hn j v h
theorem Row.one {α : Type} {P : Pers} {rep : α → List Value → Prop} {sz b : Nat} {x0 : α} {A : List Value} (r0 : rep x0 A) (hP : ∀ j v, A[j]? = some v → P ⟨b, j, none⟩ v) : Row P rep sz (some ⟨b, 0, none⟩) [x0] := by
  refine Row.made [A] (show 1 ≤ maxRow by decide) rfl (fun i x cs hx hc => ?_) (fun i cs j v hc hj => ?_)
  · match i, hx, hc with
    | 0, hx, hc =>
      obtain rfl : x0 = x := by simpa using hx
      obtain rfl : A = cs := by simpa using hc
      exact r0
    | i + 1, hx, hc => simp at hx
  · match i, hc with
    | 0, hc =>
      obtain rfl : A = cs := by simpa using hc
      simpa using hP j v hj
    | i + 1, hc => simp at hc
/-- a row's cells are kept -/
def RowAt (W : World) (b : Nat) (cs : List Value) : Prop := ∀ j v, cs[j]? = some v → W.cell? ⟨b, j, none⟩ = some v
theorem RowAt.below {W W' : World} {b : Nat} {cs : List Value} (h : RowAt W b cs) (hb : Below W.heap.size W W') : RowAt W' b cs := fun j v hj => Cells.below hb _ _ (h j v hj)
theorem RowAt.sat {P : Pers} {V W : World} {b : Nat} {cs : List Value} (h : RowAt V b cs) (hs : Sat (P.snap V) W) : RowAt W b cs := fun j v hj => hs _ _ (.inr (h j v hj))
theorem cells4 {W : World} {b : Nat} {a0 a1 a2 a3 : Value} (h : RowAt W b [a0, a1, a2, a3]) : W.cell? ⟨b, 0, none⟩ = some a0 ∧ W.cell? ⟨b, 1, none⟩ = some a1 ∧ W.cell? ⟨b, 2, none⟩ = some a2 ∧ W.cell? ⟨b, 3, none⟩ = some a3 :=
  ⟨h 0 _ rfl, h 1 _ rfl, h 2 _ rfl, h 3 _ rfl⟩
theorem cells11 {W : World} {b : Nat} {a0 a1 a2 a3 a4 a5 a6 a7 a8 a9 a10 : Value} (h : RowAt W b [a0, a1, a2, a3, a4, a5, a6, a7, a8, a9, a10]) : W.cell? ⟨b, 0, none⟩ = some a0 ∧ W.cell? ⟨b, 1, none⟩ = some a1 ∧ W.cell? ⟨b, 2, none⟩ = some a2 ∧ W.cell? ⟨b, 3, none⟩ = some a3 ∧ W.cell? ⟨b, 4, none⟩ = some a4 ∧ W.cell? ⟨b, 5, none⟩ = some a5 ∧ W.cell? ⟨b, 6, none⟩ = some a6 ∧ W.cell? ⟨b, 7, none⟩ = some a7 ∧ W.cell? ⟨b, 8, none⟩ = some a8 ∧ W.cell? ⟨b, 9, none⟩ = some a9 ∧ W.cell? ⟨b, 10, none⟩ = some a10 :=
  ⟨h 0 _ rfl, h 1 _ rfl, h 2 _ rfl, h 3 _ rfl, h 4 _ rfl, h 5 _ rfl, h 6 _ rfl, h 7 _ rfl, h 8 _ rfl, h 9 _ rfl, h 10 _ rfl⟩
end Go.Proofs.YtainigjbjfpoaaaGreatDoor
