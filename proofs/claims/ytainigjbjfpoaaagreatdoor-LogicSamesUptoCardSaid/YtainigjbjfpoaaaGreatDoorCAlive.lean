/- tipstavelaw15.alive. -/
import Derived.Test.YtainigjbjfpoaaaGreatDoorCPol
import Derived.Test.YtainigjbjfpoaaaGreatDoorCLgFree2
import Derived.Test.YtainigjbjfpoaaaGreatDoorCLog9
import Derived.Laws.EntriesVeiled
namespace Go.Proofs.YtainigjbjfpoaaaGreatDoor
open Go.RowKit Go.Shelf Go.Maps

/-! ### the example -/
def exA : Ex := ⟨3, ⟨#[97]⟩, [], []⟩
def exB : Ex := ⟨3, ⟨#[98]⟩, [], []⟩
def exOne : Ex := ⟨0, ⟨#[49]⟩, [], []⟩
def exAB : Ex := ⟨5, ⟨#[43]⟩, [], [exA, exB]⟩
def loLit (e : Ex) : Lo := ⟨0, e, ⟨#[]⟩, [], [], [], [], []⟩
def loEx : Lo := ⟨2, Ex.zero, ⟨#[]⟩, [], [], [], [⟨#[97]⟩, ⟨#[]⟩], [loLit exOne, loLit exAB]⟩
theorem loEx_right : loErr loEx = 0 := by kernel_rfl
theorem need_mem {bd : List ByteArray} {y : Ex} {s : ByteArray} : s ∈ need bd y ↔ s ∈ Ex.fv y [] ∧ s ∉ bd := by
  unfold need unb
  rw [List.mem_filter, freeOf_mem]
  have : (!has bd s) = true ↔ s ∉ bd := by
    rw [Bool.not_eq_true', Bool.eq_false_iff, ne_eq, has_iff]
  rw [this]
theorem freeOf_one (s : ByteArray) : freeOf [s] = [s] := by
  have h1 : nub [s] = [s] := by simp [nub, has]
  unfold freeOf
  rw [h1]
  simp [lists, texts]
theorem loEx_free : freeOf (Lo.fv loEx []) = [⟨#[98]⟩] := by
  rw [← freeOf_one ⟨#[98]⟩]
  refine freeOf_ext fun s => ?_
  have ha : Ex.fv exOne [] = [] := by kernel_rfl
  have hb : Ex.fv exAB [] = [⟨#[97]⟩, ⟨#[98]⟩] := by kernel_rfl
  have hz : Ex.fv Ex.zero [] = [] := by kernel_rfl
  have h1 : Lo.fv loEx [] = need [] exOne ++ need [⟨#[97]⟩] exAB := by
    simp [loEx, loLit, Lo.fv, Lo.fvs, Lo.parts, Lo.hd, bdAt]
  rw [h1, List.mem_append, need_mem, need_mem, ha, hb]
  have hne : (⟨#[97]⟩ : ByteArray) ≠ ⟨#[98]⟩ := by decide
  simp
  constructor
  · rintro ⟨rfl | rfl, h⟩
    · exact absurd rfl h
    · rfl
  · rintro rfl
    exact ⟨.inr rfl, fun e => hne e.symm⟩

set_option maxRecDepth 100000 in
theorem alive1_calls (s : ByteArray) (w : World) : Calls Tryz.prog 22 #[.string s] w fun e w' => e = .returned (.agg #[.int .i64 3, .string s, .slice none 0 0, .slice none 0 0]) ∧ w' = w.alloc (.cells #[.int .i64 3, .string s, .slice none 0 0, .slice none 0 0] 25) := by
  go_enter Tryz.func22, Tryz.ntmps22
  go_wp2
  exact bodyPost_ret (v := .agg #[.int .i64 3, .string s, .slice none 0 0, .slice none 0 0]) (by
    have hc := fun j => World.cell?_alloc_mark w #[.int .i64 3, .string s, .slice none 0 0, .slice none 0 0] 25 (0, 0) j
    simp [results, Tryz.results22, go_sem, hc]) rfl ⟨rfl, rfl⟩

theorem Row.two {α : Type} {P : Pers} {rep : α → List Value → Prop} {sz b : Nat} {x0 x1 : α} {A B : List Value} (hA : A.length = sz) (r0 : rep x0 A) (r1 : rep x1 B) (hP : ∀ j v, (A ++ B)[j]? = some v → P ⟨b, j, none⟩ v) : Row P rep sz (some ⟨b, 0, none⟩) [x0, x1] := by
  refine Row.made [A, B] (show 2 ≤ maxRow by decide) rfl (fun i x cs hx hc => ?_) (fun i cs j v hc hj => ?_)
  · match i, hx, hc with
    | 0, hx, hc =>
      obtain rfl : x0 = x := by simpa using hx
      obtain rfl : A = cs := by simpa using hc
      exact r0
    | 1, hx, hc =>
      obtain rfl : x1 = x := by simpa using hx
      obtain rfl : B = cs := by simpa using hc
      exact r1
    | i + 2, hx, hc => simp at hx
  · match i, hc with
    | 0, hc =>
      obtain rfl : A = cs := by simpa using hc
      have := hP j v (by
        have hjl := (List.getElem?_eq_some_iff.1 hj).1
        rw [List.getElem?_append_left hjl]; exact hj)
      simpa using this
    | 1, hc =>
      obtain rfl : B = cs := by simpa using hc
      have := hP (sz + j) v (by
        rw [List.getElem?_append_right (by omega), hA, Nat.add_sub_cancel_left]; exact hj)
      simpa using this
    | i + 2, hc => simp at hc
theorem row_later {V W : World} {cs : List Value} {t : TypeId} (hB : Below (V.alloc (.cells cs.toArray t)).heap.size (V.alloc (.cells cs.toArray t)) W) {n : Nat} (hn : V.heap.size = n) : ∀ j v, cs[j]? = some v → W.cell? ⟨n, j, none⟩ = some v := fun j v hj => by
  subst hn
  rw [hB.cell (p := ⟨V.heap.size, j, none⟩) (by simp)]
  refine (World.cell?_alloc_mark ..).trans ?_
  simpa using hj
theorem exName_rep (P : Pers) (s : ByteArray) (hs : s.size ≤ maxStr) (k : Int) (hk : inI64 k) : Ex.Rep P ⟨k, s, [], []⟩ [.int .i64 k, .string s, .slice none 0 0, .slice none 0 0] :=
  Ex.Rep.shut ⟨k, s, [], []⟩ (A2 := none) (c2 := 0) (Nat.le_refl _) (Row.nil _ _ _ _) (A3 := none) (c3 := 0) (Nat.le_refl _) (Row.nil _ _ _ _) hs hk
theorem loLit_rep (P : Pers) (e : Ex) {A3 A4 : Option Addr} {c3 c4 : Nat} (h3 : e.ns.length ≤ c3) (r3 : Strs P A3 e.ns) (h4 : e.l.length ≤ c4) (r4 : Exs P A4 e.l) (hs : e.s.size ≤ maxStr) (hk : inI64 e.k) :
    Lo.Rep P (loLit e) [.int .i64 0, .int .i64 e.k, .string e.s, .slice A3 e.ns.length c3, .slice A4 e.l.length c4, .string ⟨#[]⟩, .slice none 0 0, .slice none 0 0, .slice none 0 0, .slice none 0 0, .slice none 0 0] :=
  Lo.Rep.shut (loLit e) h3 r3 h4 r4 (A6 := none) (c6 := 0) (Nat.le_refl _) (Row.nil _ _ _ _) (A7 := none) (c7 := 0) (Nat.le_refl _) (Row.nil _ _ _ _) (A8 := none) (c8 := 0) (Nat.le_refl _) (Row.nil _ _ _ _) (A9 := none) (c9 := 0) (Nat.le_refl _) (Row.nil _ _ _ _) (A10 := none) (c10 := 0) (Nat.le_refl _) (Row.nil _ _ _ _) hs (show 0 ≤ maxStr from Nat.zero_le _) (show inI64 0 by unfold inI64; omega) hk
theorem loEx_rep (P : Pers) (n : Nat) (hN : ∀ j v, ([.string ⟨#[97]⟩] ++ [.string ⟨#[]⟩] : List Value)[j]? = some v → P ⟨n, j, none⟩ v)
    (hE : ∀ j v, ([.int .i64 3, .string ⟨#[97]⟩, .slice none 0 0, .slice none 0 0] ++ [.int .i64 3, .string ⟨#[98]⟩, .slice none 0 0, .slice none 0 0] : List Value)[j]? = some v → P ⟨n + 1 + 1 + 1, j, none⟩ v)
    (hL : ∀ j v, ([.int .i64 0, .int .i64 0, .string ⟨#[49]⟩, .slice none 0 0, .slice none 0 0, .string ⟨#[]⟩, .slice none 0 0, .slice none 0 0, .slice none 0 0, .slice none 0 0, .slice none 0 0] ++ [.int .i64 0, .int .i64 5, .string ⟨#[43]⟩, .slice none 0 0, .slice (some ⟨n + 1 + 1 + 1, 0, none⟩) 2 2, .string ⟨#[]⟩, .slice none 0 0, .slice none 0 0, .slice none 0 0, .slice none 0 0, .slice none 0 0] : List Value)[j]? = some v → P ⟨n + 1 + 1 + 1 + 1, j, none⟩ v) :
    Lo.Rep P loEx [.int .i64 2, .int .i64 0, .string ⟨#[]⟩, .slice none 0 0, .slice none 0 0, .string ⟨#[]⟩, .slice none 0 0, .slice none 0 0, .slice none 0 0, .slice (some ⟨n, 0, none⟩) 2 2, .slice (some ⟨n + 1 + 1 + 1 + 1, 0, none⟩) 2 2] := by
  have i0 : inI64 0 := by unfold inI64; omega
  have i2 : inI64 2 := by unfold inI64; omega
  have i3 : inI64 3 := by unfold inI64; omega
  have i5 : inI64 5 := by unfold inI64; omega
  have rE : Exs P (some ⟨n + 1 + 1 + 1, 0, none⟩) [exA, exB] := Row.two rfl (exName_rep P _ (by decide) 3 i3) (exName_rep P _ (by decide) 3 i3) hE
  have rN : Strs P (some ⟨n, 0, none⟩) [⟨#[97]⟩, ⟨#[]⟩] := Row.two rfl ⟨rfl, by decide⟩ ⟨rfl, by decide⟩ hN
  have rL : Los P (some ⟨n + 1 + 1 + 1 + 1, 0, none⟩) [loLit exOne, loLit exAB] := Row.two rfl
    (loLit_rep P exOne (A3 := none) (c3 := 0) (Nat.le_refl _) (Row.nil _ _ _ _) (A4 := none) (c4 := 0) (Nat.le_refl _) (Row.nil _ _ _ _) (by decide) i0)
    (loLit_rep P exAB (A3 := none) (c3 := 0) (Nat.le_refl _) (Row.nil _ _ _ _) (c4 := 2) (Nat.le_refl _) rE (by decide) i5) hL
  exact Lo.Rep.shut loEx (A3 := none) (c3 := 0) (Nat.le_refl _) (Row.nil _ _ _ _) (A4 := none) (c4 := 0) (Nat.le_refl _) (Row.nil _ _ _ _) (A6 := none) (c6 := 0) (Nat.le_refl _) (Row.nil _ _ _ _) (A7 := none) (c7 := 0) (Nat.le_refl _) (Row.nil _ _ _ _) (A8 := none) (c8 := 0) (Nat.le_refl _) (Row.nil _ _ _ _) (c9 := 2) (Nat.le_refl _) rN (c10 := 2) (Nat.le_refl _) rL (by decide) (by decide) i2 i0
theorem loEx_wt : loEx.wt ≤ 1000 := Nat.le_of_ble_eq_true (by kernel_rfl)
end Go.Proofs.YtainigjbjfpoaaaGreatDoor
