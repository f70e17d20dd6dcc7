/- package scope: what a scope is in memory; Len. -/
/- scope.Has. -/
/- scope.Has. -/
import Derived.Test.YtainigjbjfpoaaaGreatDoorCLog8
import Derived.WalkMore
namespace Go.Proofs.YtainigjbjfpoaaaGreatDoor
open Go.RowKit Go.Shelf Go.Maps

/-- how many names layers have -/
def layersN : List (List ByteArray) → Nat
  | [] => 0
  | l :: ls => l.length + layersN ls
/-- a scope: its layers, the newest first, each in cells that are kept -/
inductive ScRep (P : Pers) : Option Addr → List (List ByteArray) → Prop
  | nil : ScRep P none []
  | cons {b : Nat} {up A : Option Addr} {c : Nat} {l : List ByteArray} {ls : List (List ByteArray)} (h0 : P ⟨b, 0, none⟩ (.pointer up)) (h1 : P ⟨b, 1, none⟩ (.slice A l.length c)) (h2 : P ⟨b, 2, none⟩ (.int .i64 (layersN (l :: ls)))) (hl : Strs P A l) (hu : ScRep P up ls) :
      ScRep P (some ⟨b, 0, none⟩) (l :: ls)
theorem ScRep.mono {P Q : Pers} (hp : PLe P Q) {a : Option Addr} {ls : List (List ByteArray)} (h : ScRep P a ls) : ScRep Q a ls := by
  induction h with
  | nil => exact .nil
  | cons h0 h1 h2 hl _ ih => exact .cons (hp _ _ h0) (hp _ _ h1) (hp _ _ h2) (hl.mono hp (fun _ _ _ h => h)) ih

theorem scopeLen_calls (P : Pers) (a : Option Addr) (ls : List (List ByteArray)) (w : World) (h : ScRep P a ls) (hs : Sat P w) :
    Calls Tryz.prog 52 #[.pointer a] w fun e w' => e = .returned (.int .i64 (layersN ls)) ∧ w = w' := by
  cases h with
  | nil =>
    go_enter Tryz.func52, Tryz.ntmps52
    go_wp2
    go_ret
    exact ⟨rfl, rfl⟩
  | cons h0 h1 h2 hl hu =>
    have c2 := hs _ _ h2
    go_enter Tryz.func52, Tryz.ntmps52
    go_wp2
    go_ret
    exact ⟨rfl, rfl⟩
end Go.Proofs.YtainigjbjfpoaaaGreatDoor

namespace Go.Proofs.YtainigjbjfpoaaaGreatDoor
open Go.RowKit Go.Shelf Go.Maps

/-- what a binary search finds -/
def found (l : List ByteArray) (x : ByteArray) : Bool := decide (Lib.bsGo (fun t => Op.bytesLess ((l[t]?.getD ⟨#[]⟩)).toList x.toList) l.length 0 l.length < l.length ∧ l[Lib.bsGo (fun t => Op.bytesLess ((l[t]?.getD ⟨#[]⟩)).toList x.toList) l.length 0 l.length]?.getD ⟨#[]⟩ = x)

theorem search_calls (P : Pers) (A : Option Addr) (c : Nat) (l : List ByteArray) (x : ByteArray) (w : World) (h : Strs P A l) (hs : Sat P w) :
    Calls Tryz.prog 90 #[.slice A l.length c, .string x] w fun e w' => (∃ n : Nat, e = .returned (.tuple #[.int .i64 n, .bool (found l x)])) ∧ ∃ q, w' = w.drewN q := by
  have hlen := h.len
  cases hl : l with
  | nil =>
    refine (Tryz.slices_BinarySearch_string_empty A c x w).mono ?_
    rintro e w' ⟨rfl, rfl⟩
    exact ⟨⟨0, rfl⟩, 0, rfl⟩
  | cons y r =>
    rw [← hl]
    obtain ⟨b, o, rfl, _, _⟩ := Row.str h (i := 0) (x := y) (by rw [hl]; rfl)
    refine (Tryz.slices_BinarySearch_string b o l.length c (fun t => l[t]?.getD ⟨#[]⟩) x w (by omega) (fun j hj => ?_)).mono ?_
    · obtain ⟨b', o', e, p, _⟩ := Row.str h (i := j) (x := l[j]) (List.getElem?_eq_getElem hj)
      cases e
      rw [hs _ _ p]
      simp [hj]
    · rintro e w' ⟨rfl, hq⟩
      exact ⟨⟨_, rfl⟩, hq⟩
end Go.Proofs.YtainigjbjfpoaaaGreatDoor

namespace Go.Proofs.YtainigjbjfpoaaaGreatDoor
open Go.RowKit Go.Shelf Go.Maps

/-- is a name in a scope of such layers? -/
def hasIn (ls : List (List ByteArray)) (x : ByteArray) : Bool := ls.any fun l => found l x
theorem ScRep.unique {P : Pers} {w : World} (hs : Sat P w) {a : Option Addr} {ls ls' : List (List ByteArray)} (h : ScRep P a ls) (h' : ScRep P a ls') : ls.length = ls'.length := by
  induction h generalizing ls' with
  | nil => cases h'; rfl
  | cons h0 _ _ _ _ ih =>
    cases h' with
    | cons h0' _ _ _ hu' =>
      have e := (hs _ _ h0).symm.trans (hs _ _ h0')
      simp at e
      subst e
      simp [ih hu']
open Classical in
/-- how many layers are left -/
noncomputable def scLeft (P : Pers) (v : Value) : Nat :=
  if h : ∃ r : Option Addr × List (List ByteArray), v = .pointer r.1 ∧ ScRep P r.1 r.2 then (Classical.choose h).2.length else 0
theorem scLeft_eq {P : Pers} {w : World} (hs : Sat P w) {a : Option Addr} {ls : List (List ByteArray)} (h : ScRep P a ls) : scLeft P (.pointer a) = ls.length := by
  have hex : ∃ r : Option Addr × List (List ByteArray), Value.pointer a = .pointer r.1 ∧ ScRep P r.1 r.2 := ⟨(a, ls), rfl, h⟩
  unfold scLeft
  rw [dif_pos hex]
  obtain ⟨e, hl⟩ := Classical.choose_spec hex
  have e' : a = (Classical.choose hex).1 := by simpa using e
  rw [← e'] at hl
  exact ScRep.unique hs hl h

set_option maxRecDepth 100000 in
set_option maxHeartbeats 1000000 in
theorem scopeHas_calls (P : Pers) (a : Option Addr) (ls : List (List ByteArray)) (x : ByteArray) (w : World) (h : ScRep P a ls) (hs : Sat P w) :
    Calls Tryz.prog 57 #[.pointer a, .string x] w fun e w' => e = .returned (.bool (hasIn ls x)) ∧ ∃ q, w' = w.drewN q := by
  have H := As.mk h
  have HS := As.mk hs
  clear h hs
  go_enter Tryz.func57, Tryz.ntmps57
  go_wp2
  go_step3
  go_wp2
  go_step3
  go_wp2
  go_loopw [0, 5] (fun p g wr => ∃ (b : Option Addr) (ls' : List (List ByteArray)), p = .pointer b ∧ g = .bool false ∧ As (ScRep P b ls') ∧ As (Sat P wr) ∧ As (hasIn ls x = hasIn ls' x) ∧ As (∃ q, wr = w.drewN q)) (fun p _ _ => scLeft P p)
  case atStart => exact ⟨a, ls, rfl, rfl, H, HS, ⟨rfl⟩, ⟨0, rfl⟩⟩
  case round =>
    obtain ⟨b, ls', rfl, rfl, hb, hsr, hQ, hq⟩ := hrel
    have hh := hb.out
    cases hh with
    | nil =>
      have HQ := As.mk (show hasIn ls x = false by rw [hQ.out]; rfl)
      clear hQ
      go_wp2
      simp only [Exit.noGoto]
      go_ret
      exact ⟨by rw [HQ.out]; rfl, hq.out⟩
    | @cons bb up A c l r h0 h1 h2 hl hu =>
      have c0 := hsr.out _ _ h0
      have c1 := hsr.out _ _ h1
      have HF := As.mk (fun W hs => search_calls P A c l x W hl hs)
      have hQ2 := As.mk (show hasIn ls x = (found l x || hasIn r x) by rw [hQ.out]; rfl)
      have HM := As.mk (show scLeft P (.pointer up) < scLeft P (.pointer (some ⟨bb, 0, none⟩)) by rw [scLeft_eq hsr.out hu, scLeft_eq hsr.out hb.out]; simp)
      have HU := As.mk hu
      clear hQ hb h0 h1 h2 hl hu
      cases hf : found l x
      · rw [hf] at HF hQ2
        go_wp2_with (go_at_call 90; refine (HF.out _ hsr.out).mono ?_; rintro e w2 ⟨⟨n, rfl⟩, q, rfl⟩)
        go_roundw
        case rel => exact ⟨up, r, rfl, rfl, HU, ⟨hsr.out.drewN _⟩, ⟨by rw [hQ2.out]; rfl⟩, ⟨let ⟨q', e⟩ := hq.out; ⟨q' + q, by rw [e, World.drewN_drewN]⟩⟩⟩
        case measure => exact HM.out
      · rw [hf] at HF hQ2
        go_wp2_with (go_at_call 90; refine (HF.out _ hsr.out).mono ?_; rintro e w2 ⟨⟨n, rfl⟩, q, rfl⟩)
        simp only [Exit.noGoto]
        go_ret
        exact ⟨by rw [hQ2.out]; rfl, let ⟨q', e⟩ := hq.out; ⟨q' + q, by rw [e, World.drewN_drewN]⟩⟩
end Go.Proofs.YtainigjbjfpoaaaGreatDoor
