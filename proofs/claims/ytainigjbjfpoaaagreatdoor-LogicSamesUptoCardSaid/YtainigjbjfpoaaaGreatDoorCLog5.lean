/- logic.check's functions. -/
import Derived.Test.YtainigjbjfpoaaaGreatDoorCLog3
namespace Go.Proofs.YtainigjbjfpoaaaGreatDoor
open Go.RowKit Go.Shelf Go.Maps

theorem check1_calls (Q : Pers) (G : Glob Q) (B : Nat) (A : Option Addr) (c : Nat) (l : List ByteArray) (w : World) (hB : Q ⟨B, 0, none⟩ (.slice A l.length c)) (hl : Strs Q A l) (hs : Sat Q w) :
    Calls Tryz.prog 64 #[.pointer (some ⟨B, 0, none⟩)] w fun e w' => e = .returned (.int .i64 (nameErr l)) ∧ Below w.heap.size w w' := by
  have hc := hs _ _ hB
  have C := As.mk (named_calls Q G A c l w hl hs)
  clear hl hs hB
  go_enter Tryz.func64, Tryz.ntmps64
  go_wp2_with (go_at_call 65; refine C.out.mono ?_; rintro e w' ⟨rfl, hb⟩)
  go_ret
  exact ⟨rfl, hb⟩
theorem check2_calls (Q : Pers) (G : Glob Q) (B : Nat) (A : Option Addr) (c : Nat) (l : List ByteArray) (w : World) (hB : Q ⟨B, 7, none⟩ (.slice A l.length c)) (hl : Strs Q A l) (hs : Sat Q w) :
    Calls Tryz.prog 66 #[.pointer (some ⟨B, 0, none⟩)] w fun e w' => e = .returned (.int .i64 (nameErr l)) ∧ Below w.heap.size w w' := by
  have hc := hs _ _ hB
  have C := As.mk (named_calls Q G A c l w hl hs)
  clear hl hs hB
  go_enter Tryz.func66, Tryz.ntmps66
  go_wp2_with (go_at_call 65; refine C.out.mono ?_; rintro e w' ⟨rfl, hb⟩)
  go_ret
  exact ⟨rfl, hb⟩
theorem check4_calls (Q : Pers) (G : Glob Q) (B : Nat) (A : Option Addr) (c : Nat) (l : List Ex) (w : World) (hB : Q ⟨B, 6, none⟩ (.slice A l.length c)) (hl : Exs Q A l) (hs : Sat Q w) :
    Calls Tryz.prog 69 #[.pointer (some ⟨B, 0, none⟩)] w fun e w' => e = .returned (.int .i64 (firstErr expErr l)) ∧ Below w.heap.size w w' := by
  have hc := hs _ _ hB
  have C := As.mk (exprs_calls Q G A c l w hl hs)
  clear hl hs hB
  go_enter Tryz.func69, Tryz.ntmps69
  go_wp2_with (go_at_call 68; refine C.out.mono ?_; rintro e w' ⟨rfl, hb⟩)
  go_ret
  exact ⟨rfl, hb⟩

/-- a row of one expression, made by the call itself -/
theorem exs_one {P : Pers} {x : Ex} {cs : List Value} (h : Ex.Rep P x cs) (b : Nat) : Exs (P.put b 0 cs) (some ⟨b, 0, none⟩) [x] := by
  refine Row.made [cs] (show 1 ≤ maxRow by decide) rfl (fun i y c hy hc => ?_) (fun i c j v hc hv => ?_)
  · cases i with
    | zero => simp at hy hc; subst hy; subst hc; exact h.mono (Pers.le_put _ _ _ _)
    | succ i => simp at hy
  · cases i with
    | zero => simp at hc; subst hc; simpa using Pers.put_at P b 0 cs hv
    | succ i => simp at hc

/-- what is wrong with what is called, or told -/
def headErr (k : Int) (x : Ex) : Nat := if k = 0 ∨ k = 3 then firstErr expErr [x] else 0

set_option maxRecDepth 100000 in
set_option maxHeartbeats 1000000 in
theorem check3_calls (Q : Pers) (G : Glob Q) (B : Nat) (k : Int) (x : Ex) (A2 A3 : Option Addr) (c2 c3 : Nat) (w : World) (hx : Ex.Rep Q x [.int .i64 x.k, .string x.s, .slice A2 x.ns.length c2, .slice A3 x.l.length c3])
    (b0 : Q ⟨B, 0, none⟩ (.int .i64 k)) (b1 : Q ⟨B, 1, none⟩ (.int .i64 x.k)) (b2 : Q ⟨B, 2, none⟩ (.string x.s)) (b3 : Q ⟨B, 3, none⟩ (.slice A2 x.ns.length c2)) (b4 : Q ⟨B, 4, none⟩ (.slice A3 x.l.length c3)) (hs : Sat Q w) :
    Calls Tryz.prog 67 #[.pointer (some ⟨B, 0, none⟩)] w fun e w' => e = .returned (.int .i64 (headErr k x)) ∧ Below w.heap.size w w' := by
  have h0 := hs _ _ b0
  have h1 := hs _ _ b1
  have h2 := hs _ _ b2
  have h3 := hs _ _ b3
  have h4 := hs _ _ b4
  have hz := cell_block h0
  have hrow := exs_one hx w.heap.size
  have hsQ : Sat (Q.put w.heap.size 0 [.int .i64 x.k, .string x.s, .slice A2 x.ns.length c2, .slice A3 x.l.length c3]) (w.alloc (.cells #[.int .i64 x.k, .string x.s, .slice A2 x.ns.length c2, .slice A3 x.l.length c3] 25)) :=
    Sat.put (hs.alloc _) fun j v hj => by rw [Nat.zero_add, World.cell?_alloc_mark]; simpa using hj
  have C := As.mk (exprs_calls _ (G.mono (Pers.le_put _ _ _ _)) (some ⟨w.heap.size, 0, none⟩) 1 [x] _ hrow hsQ)
  clear b0 b1 b2 b3 b4 hs hrow hsQ hx
  by_cases k0 : k = 0
  · have HK := As.mk (show headErr k x = firstErr expErr [x] from if_pos (by omega))
    subst k0
    go_enter Tryz.func67, Tryz.ntmps67
    go_wp2_with (go_at_call 68; refine C.out.mono ?_; rintro e w' ⟨rfl, hb⟩)
    go_ret
    exact ⟨by rw [HK.out]; rfl, Below.then ((Below.refl _ _).alloc (Nat.le_refl _) _) hb⟩
  · have q0 : (k == 0) = false := beq_eq_false_iff_ne.2 k0
    by_cases k3 : k = 3
    · have HK := As.mk (show headErr k x = firstErr expErr [x] from if_pos (by omega))
      subst k3
      go_enter Tryz.func67, Tryz.ntmps67
      go_wp2_with (go_at_call 68; refine C.out.mono ?_; rintro e w' ⟨rfl, hb⟩)
      go_ret
      exact ⟨by rw [HK.out]; rfl, Below.then ((Below.refl _ _).alloc (Nat.le_refl _) _) hb⟩
    · have q3 : (k == 3) = false := beq_eq_false_iff_ne.2 k3
      have HK := As.mk (show headErr k x = 0 from if_neg (by omega))
      clear k0 k3
      go_enter Tryz.func67, Tryz.ntmps67
      go_wp2
      go_ret
      exact ⟨by rw [HK.out]; rfl, Below.refl _ _⟩
end Go.Proofs.YtainigjbjfpoaaaGreatDoor
