/- expr.own, kinds of a class at a time. Printed by wip/tools/gen_own.py (own tool). -/
import Derived.Test.YtainigjbjfpoaaaGreatDoorCRowm
import Derived.Deep.RegionHeld3
namespace Go.Proofs.YtainigjbjfpoaaaGreatDoor
open Go.RowKit Go.Shelf Go.Maps

theorem cell_last (w : World) (cs : Array Value) (t : TypeId) (o : Obj) (j : Nat) : ((w.alloc o).alloc (.cells cs t)).cell? ⟨w.heap.size + 1, j, none⟩ = cs[j]? := by
  have h := World.cell?_alloc_mark (w.alloc o) cs t (0, 0) j
  rw [World.size_alloc] at h
  exact h

theorem h16 {P : Pers} {w W W' : World} {b : Nat} {v0 v1 v2 : Value} (hb : Below W.heap.size W W') (h : W.cell? ⟨b, 0, none⟩ = some v0 ∧ W.cell? ⟨b, 1, none⟩ = some v1 ∧ W.cell? ⟨b, 2, none⟩ = some v2 ∧ Below w.heap.size w W ∧ b < W.heap.size ∧ Sat P W) :
    W'.cell? ⟨b, 0, none⟩ = some v0 ∧ W'.cell? ⟨b, 1, none⟩ = some v1 ∧ W'.cell? ⟨b, 2, none⟩ = some v2 ∧ Below w.heap.size w W' ∧ b < W'.heap.size ∧ Sat P W' :=
  let ⟨h0, h1, h2, h3, h4, h5⟩ := h
  ⟨(bcell hb _ _ h4).trans h0, (bcell hb _ _ h4).trans h1, (bcell hb _ _ h4).trans h2, Below.then h3 hb, Nat.lt_of_lt_of_le h4 hb.size, h5.below hb⟩

theorem values_calls2 (a : Option Addr) (len cap : Nat) (w : World) :
    Calls Tryz.prog 56 #[.slice a len cap] w fun e w' => ∃ Bs, e = .returned (.func (.func 89) #[] #[.pointer (some ⟨Bs, 0, none⟩)]) ∧ Bs < w'.heap.size ∧ w'.cell? ⟨Bs, 0, none⟩ = some (.slice a len cap) ∧ Below w.heap.size w w' := by
  refine (values_calls a len cap w).mono ?_
  rintro e w' ⟨rfl, rfl⟩
  exact ⟨_, rfl, by simp, (Boxed.new w _ _).cell, (Below.refl _ _).alloc (Nat.le_refl _) _⟩

set_option maxRecDepth 100000 in
set_option maxHeartbeats 4000000 in
theorem own_c17 (P : Pers) (G : Glob P) (x : Ex) (test : Bool) (w : World) (b : Nat) (g : FuncId) (cap : Array Value) (A2 A3 : Option Addr) (c2 c3 : Nat) (p : Int) (hn nm sr rr bd tw : Bool) (z1 : x.s.size ≤ maxStr)
    (hL : (Instr.lookup 139 (.map (some b)) (.int .i64 x.k) true).run Tryz.prog (w.alloc (.cells #[.int .i64 x.k, .string x.s, .slice A2 x.ns.length c2, .slice A3 x.l.length c3] 25)) =
      .ok (.tuple #[.agg #[.int .i64 p, .bool nm, .bool hn, .func (.func g) #[] cap], .bool true]) (w.alloc (.cells #[.int .i64 x.k, .string x.s, .slice A2 x.ns.length c2, .slice A3 x.l.length c3] 25)))
    (hen : ∀ args w, (callFunc g args).run Tryz.prog w = .ok (.enter g args) w)
    (HR : As (∀ w, Sat P w → Calls Tryz.prog g (#[.string x.s] ++ cap) w fun e w' => e = .returned (.bool sr) ∧ Below w.heap.size w w'))
    (HN : As (∀ w, Sat P w → Calls Tryz.prog 53 #[.string x.s] w fun e w' => e = .returned (.bool rr) ∧ Below w.heap.size w w'))
    (HC : As (∀ w, Sat P w → Calls Tryz.prog 95 #[.slice A2 x.ns.length c2, .func (.func 164) #[] #[]] w fun e w' => e = .returned (.bool bd) ∧ Below w.heap.size w w'))
    (HS : As (Sat P w)) (r2 : As (Strs P A2 x.ns)) (hl1 : x.ns.length ≤ 2147483648) (hl2 : x.l.length ≤ 2147483648) (hT : As (tw = decide ((srtc x.ns).length < x.ns.length)))
    (hO : As (ownErr x test = if x.k < 0 ∨ 20 ≤ x.k then 2 else if (0 ≤ p ∧ (x.l.length : Int) ≠ p) ∨ (p = -2 ∧ x.l.length = 0) then 17 else if (x.k = 17 ∧ x.ns.length ≠ x.l.length) ∨ (hn = false ∧ 0 < x.ns.length) then 17
      else if sr = false ∨ (x.k = 19 ∧ test = false) then 17 else if (nm = true ∧ rr = false) ∨ bd = true then 6 else if tw = true then 8 else if x.k = 1 then utfErr x.s else 0))
    (hk : 0 ≤ x.k ∧ x.k < 20) (hcl : x.k = 17 ∧ p = -1 ∧ hn = true ∧ nm = false) :
    Calls Tryz.prog 146 #[.map (some b), .agg #[.int .i64 x.k, .string x.s, .slice A2 x.ns.length c2, .slice A3 x.l.length c3], .bool test] w fun e w' => e = .returned (.int .i64 (ownErr x test)) ∧ Below w.heap.size w w' := by
  have _u := And.intro z1 (And.intro hl2 (And.intro HN G))
  clear _u
  obtain ⟨h1, rfl, rfl, rfl⟩ := hcl
  have q1 : (x.k == 1) = false := by rw [h1]; decide
  have q2 : (x.k == 17) = true := by rw [h1]; decide
  have q3 : (x.k == 19) = false := by rw [h1]; decide
  have E2 := As.mk (fun (g : x.ns.length ≠ x.l.length) => show ownErr x test = 17 by rw [hO.out, if_neg (by omega), if_neg (by omega), if_pos (Or.inl ⟨h1, g⟩)])
  have E3 := As.mk (fun (g2 : ¬(x.ns.length ≠ x.l.length)) (g3 : sr = false) => show ownErr x test = 17 by rw [hO.out, if_neg (by omega), if_neg (by omega), if_neg (fun h => h.elim (fun q => g2 q.2) (fun q => by simp at q)), if_pos (Or.inl g3)])
  have E6 := As.mk (fun (g2 : ¬(x.ns.length ≠ x.l.length)) (g3 : sr = true) (g6 : bd = true) => show ownErr x test = 6 by rw [hO.out, if_neg (by omega), if_neg (by omega), if_neg (fun h => h.elim (fun q => g2 q.2) (fun q => by simp at q)), if_neg (fun h => h.elim (fun q => by rw [g3] at q; cases q) (fun q => by omega)), if_pos (Or.inr g6)])
  have E7 := As.mk (fun (g2 : ¬(x.ns.length ≠ x.l.length)) (g3 : sr = true) (g6 : bd = false) (g7 : tw = true) => show ownErr x test = 8 by rw [hO.out, if_neg (by omega), if_neg (by omega), if_neg (fun h => h.elim (fun q => g2 q.2) (fun q => by simp at q)), if_neg (fun h => h.elim (fun q => by rw [g3] at q; cases q) (fun q => by omega)), if_neg (fun h => h.elim (fun q => by simp at q) (fun q => by rw [g6] at q; cases q)), if_pos g7])
  have E8 := As.mk (fun (g2 : ¬(x.ns.length ≠ x.l.length)) (g3 : sr = true) (g6 : bd = false) (g7 : tw = false) => show ownErr x test = 0 by rw [hO.out, if_neg (by omega), if_neg (by omega), if_neg (fun h => h.elim (fun q => g2 q.2) (fun q => by simp at q)), if_neg (fun h => h.elim (fun q => by rw [g3] at q; cases q) (fun q => by omega)), if_neg (fun h => h.elim (fun q => by simp at q) (fun q => by rw [g6] at q; cases q)), if_neg (by rw [g7]; decide), if_neg (by omega)])
  have H1 := As.mk h1
  clear h1
  clear hO
  go_enter Tryz.func146, Tryz.ntmps146
  go_wp2_with (first
    | (go_at_call 95; refine (HC.out _ hs1).mono ?_; rintro e w3 ⟨rfl, hb3⟩; replace k0 := (bcell hb3 _ _ hz1).trans k0; replace k1 := (bcell hb3 _ _ hz1).trans k1; replace k2 := (bcell hb3 _ _ hz1).trans k2; replace hs1 := hs1.below hb3; replace hB := As.mk (hB.out.trans (hb3.mono hB.out.size)); replace hz1 := Nat.lt_of_lt_of_le hz1 hb3.size; clear hb3)
    | (with_reducible refine (HR.out _ ((HS.out.alloc _).alloc _)).mono ?_; rintro e w1 ⟨rfl, hb1⟩; have hs1 := Sat.below ((HS.out.alloc _).alloc _) hb1; have hB := As.mk ((((Below.refl _ w).alloc (Nat.le_refl _) _).alloc (by simp) _).trans (hb1.mono (by simp; omega))); have k0 := (bcell hb1 _ _ (by simp; omega)).trans (cell_first w _ _ _ 0); have k1 := (bcell hb1 _ _ (by simp; omega)).trans (cell_first w _ _ _ 1); have k2 := (bcell hb1 _ _ (by simp; omega)).trans (cell_first w _ _ _ 2); have r1 := (bcell hb1 _ _ (by simp)).trans (cell_last w _ _ _ 1); have hz1 : w.heap.size < w1.heap.size := cell_block k0; simp only [List.getElem?_toArray, List.getElem?_cons_zero, List.getElem?_cons_succ] at k0 k1 k2 r1; clear hb1))
  all_goals clear q1 q2 q3
  all_goals try simp only [bne_iff_ne, ne_eq, bne_eq_false_iff_eq, Bool.not_eq_true', Bool.not_eq_false'] at *
  all_goals first
    | (exfalso; exact Bool.noConfusion ((‹sr = true›).symm.trans ‹sr = false›))
    | (exfalso; exact Bool.noConfusion ((‹bd = true›).symm.trans ‹bd = false›))
    | (have ee := E2.out (by omega); go_ret; exact ⟨by rw [ee]; rfl, by first | exact hB.out | exact ((Below.refl _ _).alloc (Nat.le_refl _) _).alloc (by simp) _⟩)
    | (have ee := E3.out (by omega) ‹sr = false›; go_ret; exact ⟨by rw [ee]; rfl, by first | exact hB.out | exact ((Below.refl _ _).alloc (Nat.le_refl _) _).alloc (by simp) _⟩)
    | (have ee := E6.out (by omega) ‹sr = true› ‹bd = true›; go_ret; exact ⟨by rw [ee]; rfl, by first | exact hB.out | exact ((Below.refl _ _).alloc (Nat.le_refl _) _).alloc (by simp) _⟩)
    | skip
  have e7 := As.mk (fun g7 => E7.out (by omega) ‹sr = true› ‹bd = false› g7)
  have e8 := As.mk (fun g7 => E8.out (by omega) ‹sr = true› ‹bd = false› g7)
  have q1 : (x.k == 1) = false := beq_eq_false_iff_ne.2 (by have := H1.out; omega)
  clear E2 E3 E6 E7 E8
  go_region_held3 (fun W => W.cell? ⟨w.heap.size, 0, none⟩ = some (.int .i64 x.k) ∧ W.cell? ⟨w.heap.size, 1, none⟩ = some (.string x.s) ∧ W.cell? ⟨w.heap.size, 2, none⟩ = some (.slice A2 x.ns.length c2) ∧ Below w.heap.size w W ∧ w.heap.size < W.heap.size ∧ Sat P W)
    (first
      | exact ⟨k0, k1, k2, hB.out.drew, hz1, hs1.drew⟩
      | exact h16 (hbl6 _ hb5) hh4
      | (go_split_ands
         first
           | (refine ⟨?_, ?_, ?_, ?_, ?_, ?_⟩ <;> assumption)
           | exact h16 hb5 ⟨by assumption, by assumption, by assumption, by assumption, by assumption, by assumption⟩
           | exact h16 hb4 ⟨by assumption, by assumption, by assumption, by assumption, by assumption, by assumption⟩))
    (first
      | (go_at_call 56; refine (values_calls2 _ _ _ _).mono ?_; rintro e w4 ⟨Bs, rfl, hBs, hcB, hb4⟩)
      | (go_at_call 54; refine (compact_calls _ v x.ns hl1 _ hrow).mono ?_; rintro e w6 ⟨a6, cp6, rfl, hst6, hbl6⟩)
      | (go_at_call 55; refine (sorted_calls Bs c2 A2 x.ns hl1 _ hBs hcB (StrsAt.of r2.out (by go_split_ands; assumption))).mono ?_; rintro e w5 ⟨v, rfl, hrow, hb5⟩; have hh4 : w4.cell? ⟨w.heap.size, 0, none⟩ = some (.int .i64 x.k) ∧ w4.cell? ⟨w.heap.size, 1, none⟩ = some (.string x.s) ∧ w4.cell? ⟨w.heap.size, 2, none⟩ = some (.slice A2 x.ns.length c2) ∧ Below w.heap.size w w4 ∧ w.heap.size < w4.heap.size ∧ Sat P w4 := (by assumption)))
  clear k0 k1 k2 hB hz1 hs1
  obtain ⟨k0, k1, k2, hB, hz1, hs1⟩ := ‹_ ∧ _›
  generalize (srtc x.ns).length = m at *
  clear hst6 hrow hbl6 hb5 hh4 hcB hBs hb4
  by_cases hlt : m < x.ns.length
  · have ee := As.mk (e7.out (by rw [hT.out]; exact decide_eq_true hlt))
    clear e7 e8
    go_wp2
    all_goals (go_ret; exact ⟨by rw [ee.out]; rfl, hB⟩)
  · have ee := As.mk (e8.out (by rw [hT.out]; exact decide_eq_false hlt))
    clear e7 e8
    go_wp2
    go_ret
    exact ⟨by rw [ee.out]; rfl, hB⟩

set_option maxRecDepth 100000 in
set_option maxHeartbeats 4000000 in
theorem own_c15 (P : Pers) (G : Glob P) (x : Ex) (test : Bool) (w : World) (b : Nat) (g : FuncId) (cap : Array Value) (A2 A3 : Option Addr) (c2 c3 : Nat) (p : Int) (hn nm sr rr bd tw : Bool) (z1 : x.s.size ≤ maxStr)
    (hL : (Instr.lookup 139 (.map (some b)) (.int .i64 x.k) true).run Tryz.prog (w.alloc (.cells #[.int .i64 x.k, .string x.s, .slice A2 x.ns.length c2, .slice A3 x.l.length c3] 25)) =
      .ok (.tuple #[.agg #[.int .i64 p, .bool nm, .bool hn, .func (.func g) #[] cap], .bool true]) (w.alloc (.cells #[.int .i64 x.k, .string x.s, .slice A2 x.ns.length c2, .slice A3 x.l.length c3] 25)))
    (hen : ∀ args w, (callFunc g args).run Tryz.prog w = .ok (.enter g args) w)
    (HR : As (∀ w, Sat P w → Calls Tryz.prog g (#[.string x.s] ++ cap) w fun e w' => e = .returned (.bool sr) ∧ Below w.heap.size w w'))
    (HN : As (∀ w, Sat P w → Calls Tryz.prog 53 #[.string x.s] w fun e w' => e = .returned (.bool rr) ∧ Below w.heap.size w w'))
    (HC : As (∀ w, Sat P w → Calls Tryz.prog 95 #[.slice A2 x.ns.length c2, .func (.func 164) #[] #[]] w fun e w' => e = .returned (.bool bd) ∧ Below w.heap.size w w'))
    (HS : As (Sat P w)) (r2 : As (Strs P A2 x.ns)) (hl1 : x.ns.length ≤ 2147483648) (hl2 : x.l.length ≤ 2147483648) (hT : As (tw = decide ((srtc x.ns).length < x.ns.length)))
    (hO : As (ownErr x test = if x.k < 0 ∨ 20 ≤ x.k then 2 else if (0 ≤ p ∧ (x.l.length : Int) ≠ p) ∨ (p = -2 ∧ x.l.length = 0) then 17 else if (x.k = 17 ∧ x.ns.length ≠ x.l.length) ∨ (hn = false ∧ 0 < x.ns.length) then 17
      else if sr = false ∨ (x.k = 19 ∧ test = false) then 17 else if (nm = true ∧ rr = false) ∨ bd = true then 6 else if tw = true then 8 else if x.k = 1 then utfErr x.s else 0))
    (hk : 0 ≤ x.k ∧ x.k < 20) (hcl : x.k = 15 ∧ p = 1 ∧ hn = true ∧ nm = false) :
    Calls Tryz.prog 146 #[.map (some b), .agg #[.int .i64 x.k, .string x.s, .slice A2 x.ns.length c2, .slice A3 x.l.length c3], .bool test] w fun e w' => e = .returned (.int .i64 (ownErr x test)) ∧ Below w.heap.size w w' := by
  have _u := And.intro z1 (And.intro hl2 (And.intro HN G))
  clear _u
  obtain ⟨h1, rfl, rfl, rfl⟩ := hcl
  have q1 : (x.k == 1) = false := by rw [h1]; decide
  have q2 : (x.k == 17) = false := by rw [h1]; decide
  have q3 : (x.k == 19) = false := by rw [h1]; decide
  have E1 := As.mk (fun (g : (x.l.length : Int) ≠ 1) => show ownErr x test = 17 by rw [hO.out, if_neg (by omega), if_pos (Or.inl ⟨by omega, g⟩)])
  have E3 := As.mk (fun (g1 : ¬((x.l.length : Int) ≠ 1)) (g3 : sr = false) => show ownErr x test = 17 by rw [hO.out, if_neg (by omega), if_neg (fun h => h.elim (fun q => g1 q.2) (fun q => by omega)), if_neg (fun h => h.elim (fun q => by omega) (fun q => by simp at q)), if_pos (Or.inl g3)])
  have E6 := As.mk (fun (g1 : ¬((x.l.length : Int) ≠ 1)) (g3 : sr = true) (g6 : bd = true) => show ownErr x test = 6 by rw [hO.out, if_neg (by omega), if_neg (fun h => h.elim (fun q => g1 q.2) (fun q => by omega)), if_neg (fun h => h.elim (fun q => by omega) (fun q => by simp at q)), if_neg (fun h => h.elim (fun q => by rw [g3] at q; cases q) (fun q => by omega)), if_pos (Or.inr g6)])
  have E7 := As.mk (fun (g1 : ¬((x.l.length : Int) ≠ 1)) (g3 : sr = true) (g6 : bd = false) (g7 : tw = true) => show ownErr x test = 8 by rw [hO.out, if_neg (by omega), if_neg (fun h => h.elim (fun q => g1 q.2) (fun q => by omega)), if_neg (fun h => h.elim (fun q => by omega) (fun q => by simp at q)), if_neg (fun h => h.elim (fun q => by rw [g3] at q; cases q) (fun q => by omega)), if_neg (fun h => h.elim (fun q => by simp at q) (fun q => by rw [g6] at q; cases q)), if_pos g7])
  have E8 := As.mk (fun (g1 : ¬((x.l.length : Int) ≠ 1)) (g3 : sr = true) (g6 : bd = false) (g7 : tw = false) => show ownErr x test = 0 by rw [hO.out, if_neg (by omega), if_neg (fun h => h.elim (fun q => g1 q.2) (fun q => by omega)), if_neg (fun h => h.elim (fun q => by omega) (fun q => by simp at q)), if_neg (fun h => h.elim (fun q => by rw [g3] at q; cases q) (fun q => by omega)), if_neg (fun h => h.elim (fun q => by simp at q) (fun q => by rw [g6] at q; cases q)), if_neg (by rw [g7]; decide), if_neg (by omega)])
  have H1 := As.mk h1
  clear h1
  clear hO
  go_enter Tryz.func146, Tryz.ntmps146
  go_wp2_with (first
    | (go_at_call 95; refine (HC.out _ hs1).mono ?_; rintro e w3 ⟨rfl, hb3⟩; replace k0 := (bcell hb3 _ _ hz1).trans k0; replace k1 := (bcell hb3 _ _ hz1).trans k1; replace k2 := (bcell hb3 _ _ hz1).trans k2; replace hs1 := hs1.below hb3; replace hB := As.mk (hB.out.trans (hb3.mono hB.out.size)); replace hz1 := Nat.lt_of_lt_of_le hz1 hb3.size; clear hb3)
    | (with_reducible refine (HR.out _ ((HS.out.alloc _).alloc _)).mono ?_; rintro e w1 ⟨rfl, hb1⟩; have hs1 := Sat.below ((HS.out.alloc _).alloc _) hb1; have hB := As.mk ((((Below.refl _ w).alloc (Nat.le_refl _) _).alloc (by simp) _).trans (hb1.mono (by simp; omega))); have k0 := (bcell hb1 _ _ (by simp; omega)).trans (cell_first w _ _ _ 0); have k1 := (bcell hb1 _ _ (by simp; omega)).trans (cell_first w _ _ _ 1); have k2 := (bcell hb1 _ _ (by simp; omega)).trans (cell_first w _ _ _ 2); have r1 := (bcell hb1 _ _ (by simp)).trans (cell_last w _ _ _ 1); have hz1 : w.heap.size < w1.heap.size := cell_block k0; simp only [List.getElem?_toArray, List.getElem?_cons_zero, List.getElem?_cons_succ] at k0 k1 k2 r1; clear hb1))
  all_goals clear q1 q2 q3
  all_goals try simp only [bne_iff_ne, ne_eq, bne_eq_false_iff_eq, Bool.not_eq_true', Bool.not_eq_false'] at *
  all_goals first
    | (exfalso; exact Bool.noConfusion ((‹sr = true›).symm.trans ‹sr = false›))
    | (exfalso; exact Bool.noConfusion ((‹bd = true›).symm.trans ‹bd = false›))
    | (have ee := E1.out (by omega); go_ret; exact ⟨by rw [ee]; rfl, by first | exact hB.out | exact ((Below.refl _ _).alloc (Nat.le_refl _) _).alloc (by simp) _⟩)
    | (have ee := E3.out (by omega) ‹sr = false›; go_ret; exact ⟨by rw [ee]; rfl, by first | exact hB.out | exact ((Below.refl _ _).alloc (Nat.le_refl _) _).alloc (by simp) _⟩)
    | (have ee := E6.out (by omega) ‹sr = true› ‹bd = true›; go_ret; exact ⟨by rw [ee]; rfl, by first | exact hB.out | exact ((Below.refl _ _).alloc (Nat.le_refl _) _).alloc (by simp) _⟩)
    | skip
  have e7 := As.mk (fun g7 => E7.out (by omega) ‹sr = true› ‹bd = false› g7)
  have e8 := As.mk (fun g7 => E8.out (by omega) ‹sr = true› ‹bd = false› g7)
  have q1 : (x.k == 1) = false := beq_eq_false_iff_ne.2 (by have := H1.out; omega)
  clear E1 E3 E6 E7 E8
  go_region_held3 (fun W => W.cell? ⟨w.heap.size, 0, none⟩ = some (.int .i64 x.k) ∧ W.cell? ⟨w.heap.size, 1, none⟩ = some (.string x.s) ∧ W.cell? ⟨w.heap.size, 2, none⟩ = some (.slice A2 x.ns.length c2) ∧ Below w.heap.size w W ∧ w.heap.size < W.heap.size ∧ Sat P W)
    (first
      | exact ⟨k0, k1, k2, hB.out.drew, hz1, hs1.drew⟩
      | exact h16 (hbl6 _ hb5) hh4
      | (go_split_ands
         first
           | (refine ⟨?_, ?_, ?_, ?_, ?_, ?_⟩ <;> assumption)
           | exact h16 hb5 ⟨by assumption, by assumption, by assumption, by assumption, by assumption, by assumption⟩
           | exact h16 hb4 ⟨by assumption, by assumption, by assumption, by assumption, by assumption, by assumption⟩))
    (first
      | (go_at_call 56; refine (values_calls2 _ _ _ _).mono ?_; rintro e w4 ⟨Bs, rfl, hBs, hcB, hb4⟩)
      | (go_at_call 54; refine (compact_calls _ v x.ns hl1 _ hrow).mono ?_; rintro e w6 ⟨a6, cp6, rfl, hst6, hbl6⟩)
      | (go_at_call 55; refine (sorted_calls Bs c2 A2 x.ns hl1 _ hBs hcB (StrsAt.of r2.out (by go_split_ands; assumption))).mono ?_; rintro e w5 ⟨v, rfl, hrow, hb5⟩; have hh4 : w4.cell? ⟨w.heap.size, 0, none⟩ = some (.int .i64 x.k) ∧ w4.cell? ⟨w.heap.size, 1, none⟩ = some (.string x.s) ∧ w4.cell? ⟨w.heap.size, 2, none⟩ = some (.slice A2 x.ns.length c2) ∧ Below w.heap.size w w4 ∧ w.heap.size < w4.heap.size ∧ Sat P w4 := (by assumption)))
  clear k0 k1 k2 hB hz1 hs1
  obtain ⟨k0, k1, k2, hB, hz1, hs1⟩ := ‹_ ∧ _›
  generalize (srtc x.ns).length = m at *
  clear hst6 hrow hbl6 hb5 hh4 hcB hBs hb4
  by_cases hlt : m < x.ns.length
  · have ee := As.mk (e7.out (by rw [hT.out]; exact decide_eq_true hlt))
    clear e7 e8
    go_wp2
    all_goals (go_ret; exact ⟨by rw [ee.out]; rfl, hB⟩)
  · have ee := As.mk (e8.out (by rw [hT.out]; exact decide_eq_false hlt))
    clear e7 e8
    go_wp2
    go_ret
    exact ⟨by rw [ee.out]; rfl, hB⟩

set_option maxRecDepth 100000 in
set_option maxHeartbeats 4000000 in
theorem own_c10 (P : Pers) (G : Glob P) (x : Ex) (test : Bool) (w : World) (b : Nat) (g : FuncId) (cap : Array Value) (A2 A3 : Option Addr) (c2 c3 : Nat) (p : Int) (hn nm sr rr bd tw : Bool) (z1 : x.s.size ≤ maxStr)
    (hL : (Instr.lookup 139 (.map (some b)) (.int .i64 x.k) true).run Tryz.prog (w.alloc (.cells #[.int .i64 x.k, .string x.s, .slice A2 x.ns.length c2, .slice A3 x.l.length c3] 25)) =
      .ok (.tuple #[.agg #[.int .i64 p, .bool nm, .bool hn, .func (.func g) #[] cap], .bool true]) (w.alloc (.cells #[.int .i64 x.k, .string x.s, .slice A2 x.ns.length c2, .slice A3 x.l.length c3] 25)))
    (hen : ∀ args w, (callFunc g args).run Tryz.prog w = .ok (.enter g args) w)
    (HR : As (∀ w, Sat P w → Calls Tryz.prog g (#[.string x.s] ++ cap) w fun e w' => e = .returned (.bool sr) ∧ Below w.heap.size w w'))
    (HN : As (∀ w, Sat P w → Calls Tryz.prog 53 #[.string x.s] w fun e w' => e = .returned (.bool rr) ∧ Below w.heap.size w w'))
    (HC : As (∀ w, Sat P w → Calls Tryz.prog 95 #[.slice A2 x.ns.length c2, .func (.func 164) #[] #[]] w fun e w' => e = .returned (.bool bd) ∧ Below w.heap.size w w'))
    (HS : As (Sat P w)) (r2 : As (Strs P A2 x.ns)) (hl1 : x.ns.length ≤ 2147483648) (hl2 : x.l.length ≤ 2147483648) (hT : As (tw = decide ((srtc x.ns).length < x.ns.length)))
    (hO : As (ownErr x test = if x.k < 0 ∨ 20 ≤ x.k then 2 else if (0 ≤ p ∧ (x.l.length : Int) ≠ p) ∨ (p = -2 ∧ x.l.length = 0) then 17 else if (x.k = 17 ∧ x.ns.length ≠ x.l.length) ∨ (hn = false ∧ 0 < x.ns.length) then 17
      else if sr = false ∨ (x.k = 19 ∧ test = false) then 17 else if (nm = true ∧ rr = false) ∨ bd = true then 6 else if tw = true then 8 else if x.k = 1 then utfErr x.s else 0))
    (hk : 0 ≤ x.k ∧ x.k < 20) (hcl : x.k = 10 ∧ p = -2 ∧ hn = false ∧ nm = false) :
    Calls Tryz.prog 146 #[.map (some b), .agg #[.int .i64 x.k, .string x.s, .slice A2 x.ns.length c2, .slice A3 x.l.length c3], .bool test] w fun e w' => e = .returned (.int .i64 (ownErr x test)) ∧ Below w.heap.size w w' := by
  have _u := And.intro z1 (And.intro hl2 (And.intro HN G))
  clear _u
  obtain ⟨h1, rfl, rfl, rfl⟩ := hcl
  have q1 : (x.k == 1) = false := by rw [h1]; decide
  have q2 : (x.k == 17) = false := by rw [h1]; decide
  have q3 : (x.k == 19) = false := by rw [h1]; decide
  have E1 := As.mk (fun (g : x.l.length = 0) => show ownErr x test = 17 by rw [hO.out, if_neg (by omega), if_pos (Or.inr ⟨rfl, g⟩)])
  have E2 := As.mk (fun (g1 : ¬(x.l.length = 0)) (g : 0 < x.ns.length) => show ownErr x test = 17 by rw [hO.out, if_neg (by omega), if_neg (fun h => h.elim (fun q => by omega) (fun q => g1 q.2)), if_pos (Or.inr ⟨rfl, g⟩)])
  have E3 := As.mk (fun (g1 : ¬(x.l.length = 0)) (g2 : ¬(0 < x.ns.length)) (g3 : sr = false) => show ownErr x test = 17 by rw [hO.out, if_neg (by omega), if_neg (fun h => h.elim (fun q => by omega) (fun q => g1 q.2)), if_neg (fun h => h.elim (fun q => by omega) (fun q => g2 q.2)), if_pos (Or.inl g3)])
  have E6 := As.mk (fun (g1 : ¬(x.l.length = 0)) (g2 : ¬(0 < x.ns.length)) (g3 : sr = true) (g6 : bd = true) => show ownErr x test = 6 by rw [hO.out, if_neg (by omega), if_neg (fun h => h.elim (fun q => by omega) (fun q => g1 q.2)), if_neg (fun h => h.elim (fun q => by omega) (fun q => g2 q.2)), if_neg (fun h => h.elim (fun q => by rw [g3] at q; cases q) (fun q => by omega)), if_pos (Or.inr g6)])
  have E7 := As.mk (fun (g1 : ¬(x.l.length = 0)) (g2 : ¬(0 < x.ns.length)) (g3 : sr = true) (g6 : bd = false) (g7 : tw = true) => show ownErr x test = 8 by rw [hO.out, if_neg (by omega), if_neg (fun h => h.elim (fun q => by omega) (fun q => g1 q.2)), if_neg (fun h => h.elim (fun q => by omega) (fun q => g2 q.2)), if_neg (fun h => h.elim (fun q => by rw [g3] at q; cases q) (fun q => by omega)), if_neg (fun h => h.elim (fun q => by simp at q) (fun q => by rw [g6] at q; cases q)), if_pos g7])
  have E8 := As.mk (fun (g1 : ¬(x.l.length = 0)) (g2 : ¬(0 < x.ns.length)) (g3 : sr = true) (g6 : bd = false) (g7 : tw = false) => show ownErr x test = 0 by rw [hO.out, if_neg (by omega), if_neg (fun h => h.elim (fun q => by omega) (fun q => g1 q.2)), if_neg (fun h => h.elim (fun q => by omega) (fun q => g2 q.2)), if_neg (fun h => h.elim (fun q => by rw [g3] at q; cases q) (fun q => by omega)), if_neg (fun h => h.elim (fun q => by simp at q) (fun q => by rw [g6] at q; cases q)), if_neg (by rw [g7]; decide), if_neg (by omega)])
  have H1 := As.mk h1
  clear h1
  clear hO
  go_enter Tryz.func146, Tryz.ntmps146
  go_wp2_with (first
    | (go_at_call 95; refine (HC.out _ hs1).mono ?_; rintro e w3 ⟨rfl, hb3⟩; replace k0 := (bcell hb3 _ _ hz1).trans k0; replace k1 := (bcell hb3 _ _ hz1).trans k1; replace k2 := (bcell hb3 _ _ hz1).trans k2; replace hs1 := hs1.below hb3; replace hB := As.mk (hB.out.trans (hb3.mono hB.out.size)); replace hz1 := Nat.lt_of_lt_of_le hz1 hb3.size; clear hb3)
    | (with_reducible refine (HR.out _ ((HS.out.alloc _).alloc _)).mono ?_; rintro e w1 ⟨rfl, hb1⟩; have hs1 := Sat.below ((HS.out.alloc _).alloc _) hb1; have hB := As.mk ((((Below.refl _ w).alloc (Nat.le_refl _) _).alloc (by simp) _).trans (hb1.mono (by simp; omega))); have k0 := (bcell hb1 _ _ (by simp; omega)).trans (cell_first w _ _ _ 0); have k1 := (bcell hb1 _ _ (by simp; omega)).trans (cell_first w _ _ _ 1); have k2 := (bcell hb1 _ _ (by simp; omega)).trans (cell_first w _ _ _ 2); have r1 := (bcell hb1 _ _ (by simp)).trans (cell_last w _ _ _ 1); have hz1 : w.heap.size < w1.heap.size := cell_block k0; simp only [List.getElem?_toArray, List.getElem?_cons_zero, List.getElem?_cons_succ] at k0 k1 k2 r1; clear hb1))
  all_goals clear q1 q2 q3
  all_goals try simp only [beq_iff_eq, beq_eq_false_iff_ne, Bool.not_eq_true', Bool.not_eq_false'] at *
  all_goals first
    | (exfalso; exact Bool.noConfusion ((‹sr = true›).symm.trans ‹sr = false›))
    | (exfalso; exact Bool.noConfusion ((‹bd = true›).symm.trans ‹bd = false›))
    | (have ee := E1.out (by omega); go_ret; exact ⟨by rw [ee]; rfl, by first | exact hB.out | exact ((Below.refl _ _).alloc (Nat.le_refl _) _).alloc (by simp) _⟩)
    | (have ee := E2.out (by omega) (by omega); go_ret; exact ⟨by rw [ee]; rfl, by first | exact hB.out | exact ((Below.refl _ _).alloc (Nat.le_refl _) _).alloc (by simp) _⟩)
    | (have ee := E3.out (by omega) (by omega) ‹sr = false›; go_ret; exact ⟨by rw [ee]; rfl, by first | exact hB.out | exact ((Below.refl _ _).alloc (Nat.le_refl _) _).alloc (by simp) _⟩)
    | (have ee := E6.out (by omega) (by omega) ‹sr = true› ‹bd = true›; go_ret; exact ⟨by rw [ee]; rfl, by first | exact hB.out | exact ((Below.refl _ _).alloc (Nat.le_refl _) _).alloc (by simp) _⟩)
    | skip
  have e7 := As.mk (fun g7 => E7.out (by omega) (by omega) ‹sr = true› ‹bd = false› g7)
  have e8 := As.mk (fun g7 => E8.out (by omega) (by omega) ‹sr = true› ‹bd = false› g7)
  have q1 : (x.k == 1) = false := beq_eq_false_iff_ne.2 (by have := H1.out; omega)
  clear E1 E2 E3 E6 E7 E8
  go_region_held3 (fun W => W.cell? ⟨w.heap.size, 0, none⟩ = some (.int .i64 x.k) ∧ W.cell? ⟨w.heap.size, 1, none⟩ = some (.string x.s) ∧ W.cell? ⟨w.heap.size, 2, none⟩ = some (.slice A2 x.ns.length c2) ∧ Below w.heap.size w W ∧ w.heap.size < W.heap.size ∧ Sat P W)
    (first
      | exact ⟨k0, k1, k2, hB.out.drew, hz1, hs1.drew⟩
      | exact h16 (hbl6 _ hb5) hh4
      | (go_split_ands
         first
           | (refine ⟨?_, ?_, ?_, ?_, ?_, ?_⟩ <;> assumption)
           | exact h16 hb5 ⟨by assumption, by assumption, by assumption, by assumption, by assumption, by assumption⟩
           | exact h16 hb4 ⟨by assumption, by assumption, by assumption, by assumption, by assumption, by assumption⟩))
    (first
      | (go_at_call 56; refine (values_calls2 _ _ _ _).mono ?_; rintro e w4 ⟨Bs, rfl, hBs, hcB, hb4⟩)
      | (go_at_call 54; refine (compact_calls _ v x.ns hl1 _ hrow).mono ?_; rintro e w6 ⟨a6, cp6, rfl, hst6, hbl6⟩)
      | (go_at_call 55; refine (sorted_calls Bs c2 A2 x.ns hl1 _ hBs hcB (StrsAt.of r2.out (by go_split_ands; assumption))).mono ?_; rintro e w5 ⟨v, rfl, hrow, hb5⟩; have hh4 : w4.cell? ⟨w.heap.size, 0, none⟩ = some (.int .i64 x.k) ∧ w4.cell? ⟨w.heap.size, 1, none⟩ = some (.string x.s) ∧ w4.cell? ⟨w.heap.size, 2, none⟩ = some (.slice A2 x.ns.length c2) ∧ Below w.heap.size w w4 ∧ w.heap.size < w4.heap.size ∧ Sat P w4 := (by assumption)))
  clear k0 k1 k2 hB hz1 hs1
  obtain ⟨k0, k1, k2, hB, hz1, hs1⟩ := ‹_ ∧ _›
  generalize (srtc x.ns).length = m at *
  clear hst6 hrow hbl6 hb5 hh4 hcB hBs hb4
  by_cases hlt : m < x.ns.length
  · have ee := As.mk (e7.out (by rw [hT.out]; exact decide_eq_true hlt))
    clear e7 e8
    go_wp2
    all_goals (go_ret; exact ⟨by rw [ee.out]; rfl, hB⟩)
  · have ee := As.mk (e8.out (by rw [hT.out]; exact decide_eq_false hlt))
    clear e7 e8
    go_wp2
    go_ret
    exact ⟨by rw [ee.out]; rfl, hB⟩

set_option maxRecDepth 100000 in
set_option maxHeartbeats 4000000 in
theorem own_c16 (P : Pers) (G : Glob P) (x : Ex) (test : Bool) (w : World) (b : Nat) (g : FuncId) (cap : Array Value) (A2 A3 : Option Addr) (c2 c3 : Nat) (p : Int) (hn nm sr rr bd tw : Bool) (z1 : x.s.size ≤ maxStr)
    (hL : (Instr.lookup 139 (.map (some b)) (.int .i64 x.k) true).run Tryz.prog (w.alloc (.cells #[.int .i64 x.k, .string x.s, .slice A2 x.ns.length c2, .slice A3 x.l.length c3] 25)) =
      .ok (.tuple #[.agg #[.int .i64 p, .bool nm, .bool hn, .func (.func g) #[] cap], .bool true]) (w.alloc (.cells #[.int .i64 x.k, .string x.s, .slice A2 x.ns.length c2, .slice A3 x.l.length c3] 25)))
    (hen : ∀ args w, (callFunc g args).run Tryz.prog w = .ok (.enter g args) w)
    (HR : As (∀ w, Sat P w → Calls Tryz.prog g (#[.string x.s] ++ cap) w fun e w' => e = .returned (.bool sr) ∧ Below w.heap.size w w'))
    (HN : As (∀ w, Sat P w → Calls Tryz.prog 53 #[.string x.s] w fun e w' => e = .returned (.bool rr) ∧ Below w.heap.size w w'))
    (HC : As (∀ w, Sat P w → Calls Tryz.prog 95 #[.slice A2 x.ns.length c2, .func (.func 164) #[] #[]] w fun e w' => e = .returned (.bool bd) ∧ Below w.heap.size w w'))
    (HS : As (Sat P w)) (r2 : As (Strs P A2 x.ns)) (hl1 : x.ns.length ≤ 2147483648) (hl2 : x.l.length ≤ 2147483648) (hT : As (tw = decide ((srtc x.ns).length < x.ns.length)))
    (hO : As (ownErr x test = if x.k < 0 ∨ 20 ≤ x.k then 2 else if (0 ≤ p ∧ (x.l.length : Int) ≠ p) ∨ (p = -2 ∧ x.l.length = 0) then 17 else if (x.k = 17 ∧ x.ns.length ≠ x.l.length) ∨ (hn = false ∧ 0 < x.ns.length) then 17
      else if sr = false ∨ (x.k = 19 ∧ test = false) then 17 else if (nm = true ∧ rr = false) ∨ bd = true then 6 else if tw = true then 8 else if x.k = 1 then utfErr x.s else 0))
    (hk : 0 ≤ x.k ∧ x.k < 20) (hcl : x.k = 16 ∧ p = -1 ∧ hn = false ∧ nm = false) :
    Calls Tryz.prog 146 #[.map (some b), .agg #[.int .i64 x.k, .string x.s, .slice A2 x.ns.length c2, .slice A3 x.l.length c3], .bool test] w fun e w' => e = .returned (.int .i64 (ownErr x test)) ∧ Below w.heap.size w w' := by
  have _u := And.intro z1 (And.intro hl2 (And.intro HN G))
  clear _u
  obtain ⟨h1, rfl, rfl, rfl⟩ := hcl
  have q1 : (x.k == 1) = false := by rw [h1]; decide
  have q2 : (x.k == 17) = false := by rw [h1]; decide
  have q3 : (x.k == 19) = false := by rw [h1]; decide
  have E2 := As.mk (fun (g : 0 < x.ns.length) => show ownErr x test = 17 by rw [hO.out, if_neg (by omega), if_neg (by omega), if_pos (Or.inr ⟨rfl, g⟩)])
  have E3 := As.mk (fun (g2 : ¬(0 < x.ns.length)) (g3 : sr = false) => show ownErr x test = 17 by rw [hO.out, if_neg (by omega), if_neg (by omega), if_neg (fun h => h.elim (fun q => by omega) (fun q => g2 q.2)), if_pos (Or.inl g3)])
  have E6 := As.mk (fun (g2 : ¬(0 < x.ns.length)) (g3 : sr = true) (g6 : bd = true) => show ownErr x test = 6 by rw [hO.out, if_neg (by omega), if_neg (by omega), if_neg (fun h => h.elim (fun q => by omega) (fun q => g2 q.2)), if_neg (fun h => h.elim (fun q => by rw [g3] at q; cases q) (fun q => by omega)), if_pos (Or.inr g6)])
  have E7 := As.mk (fun (g2 : ¬(0 < x.ns.length)) (g3 : sr = true) (g6 : bd = false) (g7 : tw = true) => show ownErr x test = 8 by rw [hO.out, if_neg (by omega), if_neg (by omega), if_neg (fun h => h.elim (fun q => by omega) (fun q => g2 q.2)), if_neg (fun h => h.elim (fun q => by rw [g3] at q; cases q) (fun q => by omega)), if_neg (fun h => h.elim (fun q => by simp at q) (fun q => by rw [g6] at q; cases q)), if_pos g7])
  have E8 := As.mk (fun (g2 : ¬(0 < x.ns.length)) (g3 : sr = true) (g6 : bd = false) (g7 : tw = false) => show ownErr x test = 0 by rw [hO.out, if_neg (by omega), if_neg (by omega), if_neg (fun h => h.elim (fun q => by omega) (fun q => g2 q.2)), if_neg (fun h => h.elim (fun q => by rw [g3] at q; cases q) (fun q => by omega)), if_neg (fun h => h.elim (fun q => by simp at q) (fun q => by rw [g6] at q; cases q)), if_neg (by rw [g7]; decide), if_neg (by omega)])
  have H1 := As.mk h1
  clear h1
  clear hO
  go_enter Tryz.func146, Tryz.ntmps146
  go_wp2_with (first
    | (go_at_call 95; refine (HC.out _ hs1).mono ?_; rintro e w3 ⟨rfl, hb3⟩; replace k0 := (bcell hb3 _ _ hz1).trans k0; replace k1 := (bcell hb3 _ _ hz1).trans k1; replace k2 := (bcell hb3 _ _ hz1).trans k2; replace hs1 := hs1.below hb3; replace hB := As.mk (hB.out.trans (hb3.mono hB.out.size)); replace hz1 := Nat.lt_of_lt_of_le hz1 hb3.size; clear hb3)
    | (with_reducible refine (HR.out _ ((HS.out.alloc _).alloc _)).mono ?_; rintro e w1 ⟨rfl, hb1⟩; have hs1 := Sat.below ((HS.out.alloc _).alloc _) hb1; have hB := As.mk ((((Below.refl _ w).alloc (Nat.le_refl _) _).alloc (by simp) _).trans (hb1.mono (by simp; omega))); have k0 := (bcell hb1 _ _ (by simp; omega)).trans (cell_first w _ _ _ 0); have k1 := (bcell hb1 _ _ (by simp; omega)).trans (cell_first w _ _ _ 1); have k2 := (bcell hb1 _ _ (by simp; omega)).trans (cell_first w _ _ _ 2); have r1 := (bcell hb1 _ _ (by simp)).trans (cell_last w _ _ _ 1); have hz1 : w.heap.size < w1.heap.size := cell_block k0; simp only [List.getElem?_toArray, List.getElem?_cons_zero, List.getElem?_cons_succ] at k0 k1 k2 r1; clear hb1))
  all_goals clear q1 q2 q3
  all_goals try simp only [Bool.not_eq_true', Bool.not_eq_false'] at *
  all_goals first
    | (exfalso; exact Bool.noConfusion ((‹sr = true›).symm.trans ‹sr = false›))
    | (exfalso; exact Bool.noConfusion ((‹bd = true›).symm.trans ‹bd = false›))
    | (have ee := E2.out (by omega); go_ret; exact ⟨by rw [ee]; rfl, by first | exact hB.out | exact ((Below.refl _ _).alloc (Nat.le_refl _) _).alloc (by simp) _⟩)
    | (have ee := E3.out (by omega) ‹sr = false›; go_ret; exact ⟨by rw [ee]; rfl, by first | exact hB.out | exact ((Below.refl _ _).alloc (Nat.le_refl _) _).alloc (by simp) _⟩)
    | (have ee := E6.out (by omega) ‹sr = true› ‹bd = true›; go_ret; exact ⟨by rw [ee]; rfl, by first | exact hB.out | exact ((Below.refl _ _).alloc (Nat.le_refl _) _).alloc (by simp) _⟩)
    | skip
  have e7 := As.mk (fun g7 => E7.out (by omega) ‹sr = true› ‹bd = false› g7)
  have e8 := As.mk (fun g7 => E8.out (by omega) ‹sr = true› ‹bd = false› g7)
  have q1 : (x.k == 1) = false := beq_eq_false_iff_ne.2 (by have := H1.out; omega)
  clear E2 E3 E6 E7 E8
  go_region_held3 (fun W => W.cell? ⟨w.heap.size, 0, none⟩ = some (.int .i64 x.k) ∧ W.cell? ⟨w.heap.size, 1, none⟩ = some (.string x.s) ∧ W.cell? ⟨w.heap.size, 2, none⟩ = some (.slice A2 x.ns.length c2) ∧ Below w.heap.size w W ∧ w.heap.size < W.heap.size ∧ Sat P W)
    (first
      | exact ⟨k0, k1, k2, hB.out.drew, hz1, hs1.drew⟩
      | exact h16 (hbl6 _ hb5) hh4
      | (go_split_ands
         first
           | (refine ⟨?_, ?_, ?_, ?_, ?_, ?_⟩ <;> assumption)
           | exact h16 hb5 ⟨by assumption, by assumption, by assumption, by assumption, by assumption, by assumption⟩
           | exact h16 hb4 ⟨by assumption, by assumption, by assumption, by assumption, by assumption, by assumption⟩))
    (first
      | (go_at_call 56; refine (values_calls2 _ _ _ _).mono ?_; rintro e w4 ⟨Bs, rfl, hBs, hcB, hb4⟩)
      | (go_at_call 54; refine (compact_calls _ v x.ns hl1 _ hrow).mono ?_; rintro e w6 ⟨a6, cp6, rfl, hst6, hbl6⟩)
      | (go_at_call 55; refine (sorted_calls Bs c2 A2 x.ns hl1 _ hBs hcB (StrsAt.of r2.out (by go_split_ands; assumption))).mono ?_; rintro e w5 ⟨v, rfl, hrow, hb5⟩; have hh4 : w4.cell? ⟨w.heap.size, 0, none⟩ = some (.int .i64 x.k) ∧ w4.cell? ⟨w.heap.size, 1, none⟩ = some (.string x.s) ∧ w4.cell? ⟨w.heap.size, 2, none⟩ = some (.slice A2 x.ns.length c2) ∧ Below w.heap.size w w4 ∧ w.heap.size < w4.heap.size ∧ Sat P w4 := (by assumption)))
  clear k0 k1 k2 hB hz1 hs1
  obtain ⟨k0, k1, k2, hB, hz1, hs1⟩ := ‹_ ∧ _›
  generalize (srtc x.ns).length = m at *
  clear hst6 hrow hbl6 hb5 hh4 hcB hBs hb4
  by_cases hlt : m < x.ns.length
  · have ee := As.mk (e7.out (by rw [hT.out]; exact decide_eq_true hlt))
    clear e7 e8
    go_wp2
    all_goals (go_ret; exact ⟨by rw [ee.out]; rfl, hB⟩)
  · have ee := As.mk (e8.out (by rw [hT.out]; exact decide_eq_false hlt))
    clear e7 e8
    go_wp2
    go_ret
    exact ⟨by rw [ee.out]; rfl, hB⟩

set_option maxRecDepth 100000 in
set_option maxHeartbeats 4000000 in
theorem own_c19 (P : Pers) (G : Glob P) (x : Ex) (test : Bool) (w : World) (b : Nat) (g : FuncId) (cap : Array Value) (A2 A3 : Option Addr) (c2 c3 : Nat) (p : Int) (hn nm sr rr bd tw : Bool) (z1 : x.s.size ≤ maxStr)
    (hL : (Instr.lookup 139 (.map (some b)) (.int .i64 x.k) true).run Tryz.prog (w.alloc (.cells #[.int .i64 x.k, .string x.s, .slice A2 x.ns.length c2, .slice A3 x.l.length c3] 25)) =
      .ok (.tuple #[.agg #[.int .i64 p, .bool nm, .bool hn, .func (.func g) #[] cap], .bool true]) (w.alloc (.cells #[.int .i64 x.k, .string x.s, .slice A2 x.ns.length c2, .slice A3 x.l.length c3] 25)))
    (hen : ∀ args w, (callFunc g args).run Tryz.prog w = .ok (.enter g args) w)
    (HR : As (∀ w, Sat P w → Calls Tryz.prog g (#[.string x.s] ++ cap) w fun e w' => e = .returned (.bool sr) ∧ Below w.heap.size w w'))
    (HN : As (∀ w, Sat P w → Calls Tryz.prog 53 #[.string x.s] w fun e w' => e = .returned (.bool rr) ∧ Below w.heap.size w w'))
    (HC : As (∀ w, Sat P w → Calls Tryz.prog 95 #[.slice A2 x.ns.length c2, .func (.func 164) #[] #[]] w fun e w' => e = .returned (.bool bd) ∧ Below w.heap.size w w'))
    (HS : As (Sat P w)) (r2 : As (Strs P A2 x.ns)) (hl1 : x.ns.length ≤ 2147483648) (hl2 : x.l.length ≤ 2147483648) (hT : As (tw = decide ((srtc x.ns).length < x.ns.length)))
    (hO : As (ownErr x test = if x.k < 0 ∨ 20 ≤ x.k then 2 else if (0 ≤ p ∧ (x.l.length : Int) ≠ p) ∨ (p = -2 ∧ x.l.length = 0) then 17 else if (x.k = 17 ∧ x.ns.length ≠ x.l.length) ∨ (hn = false ∧ 0 < x.ns.length) then 17
      else if sr = false ∨ (x.k = 19 ∧ test = false) then 17 else if (nm = true ∧ rr = false) ∨ bd = true then 6 else if tw = true then 8 else if x.k = 1 then utfErr x.s else 0))
    (hk : 0 ≤ x.k ∧ x.k < 20) (hcl : x.k = 19 ∧ p = 1 ∧ hn = false ∧ nm = false) :
    Calls Tryz.prog 146 #[.map (some b), .agg #[.int .i64 x.k, .string x.s, .slice A2 x.ns.length c2, .slice A3 x.l.length c3], .bool test] w fun e w' => e = .returned (.int .i64 (ownErr x test)) ∧ Below w.heap.size w w' := by
  have _u := And.intro z1 (And.intro hl2 (And.intro HN G))
  clear _u
  obtain ⟨h1, rfl, rfl, rfl⟩ := hcl
  have q1 : (x.k == 1) = false := by rw [h1]; decide
  have q2 : (x.k == 17) = false := by rw [h1]; decide
  have q3 : (x.k == 19) = true := by rw [h1]; decide
  have E1 := As.mk (fun (g : (x.l.length : Int) ≠ 1) => show ownErr x test = 17 by rw [hO.out, if_neg (by omega), if_pos (Or.inl ⟨by omega, g⟩)])
  have E2 := As.mk (fun (g1 : ¬((x.l.length : Int) ≠ 1)) (g : 0 < x.ns.length) => show ownErr x test = 17 by rw [hO.out, if_neg (by omega), if_neg (fun h => h.elim (fun q => g1 q.2) (fun q => by omega)), if_pos (Or.inr ⟨rfl, g⟩)])
  have E3 := As.mk (fun (g1 : ¬((x.l.length : Int) ≠ 1)) (g2 : ¬(0 < x.ns.length)) (g3 : sr = false) => show ownErr x test = 17 by rw [hO.out, if_neg (by omega), if_neg (fun h => h.elim (fun q => g1 q.2) (fun q => by omega)), if_neg (fun h => h.elim (fun q => by omega) (fun q => g2 q.2)), if_pos (Or.inl g3)])
  have E4 := As.mk (fun (g1 : ¬((x.l.length : Int) ≠ 1)) (g2 : ¬(0 < x.ns.length)) (g3 : sr = true) (g4 : test = false) => show ownErr x test = 17 by rw [hO.out, if_neg (by omega), if_neg (fun h => h.elim (fun q => g1 q.2) (fun q => by omega)), if_neg (fun h => h.elim (fun q => by omega) (fun q => g2 q.2)), if_pos (Or.inr ⟨h1, g4⟩)])
  have E6 := As.mk (fun (g1 : ¬((x.l.length : Int) ≠ 1)) (g2 : ¬(0 < x.ns.length)) (g3 : sr = true) (g4 : test = true) (g6 : bd = true) => show ownErr x test = 6 by rw [hO.out, if_neg (by omega), if_neg (fun h => h.elim (fun q => g1 q.2) (fun q => by omega)), if_neg (fun h => h.elim (fun q => by omega) (fun q => g2 q.2)), if_neg (fun h => h.elim (fun q => by rw [g3] at q; cases q) (fun q => by rw [g4] at q; cases q.2)), if_pos (Or.inr g6)])
  have E7 := As.mk (fun (g1 : ¬((x.l.length : Int) ≠ 1)) (g2 : ¬(0 < x.ns.length)) (g3 : sr = true) (g4 : test = true) (g6 : bd = false) (g7 : tw = true) => show ownErr x test = 8 by rw [hO.out, if_neg (by omega), if_neg (fun h => h.elim (fun q => g1 q.2) (fun q => by omega)), if_neg (fun h => h.elim (fun q => by omega) (fun q => g2 q.2)), if_neg (fun h => h.elim (fun q => by rw [g3] at q; cases q) (fun q => by rw [g4] at q; cases q.2)), if_neg (fun h => h.elim (fun q => by simp at q) (fun q => by rw [g6] at q; cases q)), if_pos g7])
  have E8 := As.mk (fun (g1 : ¬((x.l.length : Int) ≠ 1)) (g2 : ¬(0 < x.ns.length)) (g3 : sr = true) (g4 : test = true) (g6 : bd = false) (g7 : tw = false) => show ownErr x test = 0 by rw [hO.out, if_neg (by omega), if_neg (fun h => h.elim (fun q => g1 q.2) (fun q => by omega)), if_neg (fun h => h.elim (fun q => by omega) (fun q => g2 q.2)), if_neg (fun h => h.elim (fun q => by rw [g3] at q; cases q) (fun q => by rw [g4] at q; cases q.2)), if_neg (fun h => h.elim (fun q => by simp at q) (fun q => by rw [g6] at q; cases q)), if_neg (by rw [g7]; decide), if_neg (by omega)])
  have H1 := As.mk h1
  clear h1
  clear hO
  go_enter Tryz.func146, Tryz.ntmps146
  go_wp2_with (first
    | (go_at_call 95; refine (HC.out _ hs1).mono ?_; rintro e w3 ⟨rfl, hb3⟩; replace k0 := (bcell hb3 _ _ hz1).trans k0; replace k1 := (bcell hb3 _ _ hz1).trans k1; replace k2 := (bcell hb3 _ _ hz1).trans k2; replace hs1 := hs1.below hb3; replace hB := As.mk (hB.out.trans (hb3.mono hB.out.size)); replace hz1 := Nat.lt_of_lt_of_le hz1 hb3.size; clear hb3)
    | (with_reducible refine (HR.out _ ((HS.out.alloc _).alloc _)).mono ?_; rintro e w1 ⟨rfl, hb1⟩; have hs1 := Sat.below ((HS.out.alloc _).alloc _) hb1; have hB := As.mk ((((Below.refl _ w).alloc (Nat.le_refl _) _).alloc (by simp) _).trans (hb1.mono (by simp; omega))); have k0 := (bcell hb1 _ _ (by simp; omega)).trans (cell_first w _ _ _ 0); have k1 := (bcell hb1 _ _ (by simp; omega)).trans (cell_first w _ _ _ 1); have k2 := (bcell hb1 _ _ (by simp; omega)).trans (cell_first w _ _ _ 2); have r1 := (bcell hb1 _ _ (by simp)).trans (cell_last w _ _ _ 1); have hz1 : w.heap.size < w1.heap.size := cell_block k0; simp only [List.getElem?_toArray, List.getElem?_cons_zero, List.getElem?_cons_succ] at k0 k1 k2 r1; clear hb1))
  all_goals clear q1 q2 q3
  all_goals try simp only [bne_iff_ne, ne_eq, bne_eq_false_iff_eq, Bool.not_eq_true', Bool.not_eq_false'] at *
  all_goals first
    | (exfalso; exact Bool.noConfusion ((‹sr = true›).symm.trans ‹sr = false›))
    | (exfalso; exact Bool.noConfusion ((‹bd = true›).symm.trans ‹bd = false›))
    | (exfalso; exact Bool.noConfusion ((‹test = true›).symm.trans ‹test = false›))
    | (have ee := E1.out (by omega); go_ret; exact ⟨by rw [ee]; rfl, by first | exact hB.out | exact ((Below.refl _ _).alloc (Nat.le_refl _) _).alloc (by simp) _⟩)
    | (have ee := E2.out (by omega) (by omega); go_ret; exact ⟨by rw [ee]; rfl, by first | exact hB.out | exact ((Below.refl _ _).alloc (Nat.le_refl _) _).alloc (by simp) _⟩)
    | (have ee := E3.out (by omega) (by omega) ‹sr = false›; go_ret; exact ⟨by rw [ee]; rfl, by first | exact hB.out | exact ((Below.refl _ _).alloc (Nat.le_refl _) _).alloc (by simp) _⟩)
    | (have ee := E4.out (by omega) (by omega) ‹sr = true› ‹test = false›; go_ret; exact ⟨by rw [ee]; rfl, by first | exact hB.out | exact ((Below.refl _ _).alloc (Nat.le_refl _) _).alloc (by simp) _⟩)
    | (have ee := E6.out (by omega) (by omega) ‹sr = true› ‹test = true› ‹bd = true›; go_ret; exact ⟨by rw [ee]; rfl, by first | exact hB.out | exact ((Below.refl _ _).alloc (Nat.le_refl _) _).alloc (by simp) _⟩)
    | skip
  have e7 := As.mk (fun g7 => E7.out (by omega) (by omega) ‹sr = true› ‹test = true› ‹bd = false› g7)
  have e8 := As.mk (fun g7 => E8.out (by omega) (by omega) ‹sr = true› ‹test = true› ‹bd = false› g7)
  have q1 : (x.k == 1) = false := beq_eq_false_iff_ne.2 (by have := H1.out; omega)
  clear E1 E2 E3 E4 E6 E7 E8
  go_region_held3 (fun W => W.cell? ⟨w.heap.size, 0, none⟩ = some (.int .i64 x.k) ∧ W.cell? ⟨w.heap.size, 1, none⟩ = some (.string x.s) ∧ W.cell? ⟨w.heap.size, 2, none⟩ = some (.slice A2 x.ns.length c2) ∧ Below w.heap.size w W ∧ w.heap.size < W.heap.size ∧ Sat P W)
    (first
      | exact ⟨k0, k1, k2, hB.out.drew, hz1, hs1.drew⟩
      | exact h16 (hbl6 _ hb5) hh4
      | (go_split_ands
         first
           | (refine ⟨?_, ?_, ?_, ?_, ?_, ?_⟩ <;> assumption)
           | exact h16 hb5 ⟨by assumption, by assumption, by assumption, by assumption, by assumption, by assumption⟩
           | exact h16 hb4 ⟨by assumption, by assumption, by assumption, by assumption, by assumption, by assumption⟩))
    (first
      | (go_at_call 56; refine (values_calls2 _ _ _ _).mono ?_; rintro e w4 ⟨Bs, rfl, hBs, hcB, hb4⟩)
      | (go_at_call 54; refine (compact_calls _ v x.ns hl1 _ hrow).mono ?_; rintro e w6 ⟨a6, cp6, rfl, hst6, hbl6⟩)
      | (go_at_call 55; refine (sorted_calls Bs c2 A2 x.ns hl1 _ hBs hcB (StrsAt.of r2.out (by go_split_ands; assumption))).mono ?_; rintro e w5 ⟨v, rfl, hrow, hb5⟩; have hh4 : w4.cell? ⟨w.heap.size, 0, none⟩ = some (.int .i64 x.k) ∧ w4.cell? ⟨w.heap.size, 1, none⟩ = some (.string x.s) ∧ w4.cell? ⟨w.heap.size, 2, none⟩ = some (.slice A2 x.ns.length c2) ∧ Below w.heap.size w w4 ∧ w.heap.size < w4.heap.size ∧ Sat P w4 := (by assumption)))
  clear k0 k1 k2 hB hz1 hs1
  obtain ⟨k0, k1, k2, hB, hz1, hs1⟩ := ‹_ ∧ _›
  generalize (srtc x.ns).length = m at *
  clear hst6 hrow hbl6 hb5 hh4 hcB hBs hb4
  by_cases hlt : m < x.ns.length
  · have ee := As.mk (e7.out (by rw [hT.out]; exact decide_eq_true hlt))
    clear e7 e8
    go_wp2
    all_goals (go_ret; exact ⟨by rw [ee.out]; rfl, hB⟩)
  · have ee := As.mk (e8.out (by rw [hT.out]; exact decide_eq_false hlt))
    clear e7 e8
    go_wp2
    go_ret
    exact ⟨by rw [ee.out]; rfl, hB⟩

set_option maxRecDepth 100000 in
set_option maxHeartbeats 4000000 in
theorem own_c1 (P : Pers) (G : Glob P) (x : Ex) (test : Bool) (w : World) (b : Nat) (g : FuncId) (cap : Array Value) (A2 A3 : Option Addr) (c2 c3 : Nat) (p : Int) (hn nm sr rr bd tw : Bool) (z1 : x.s.size ≤ maxStr)
    (hL : (Instr.lookup 139 (.map (some b)) (.int .i64 x.k) true).run Tryz.prog (w.alloc (.cells #[.int .i64 x.k, .string x.s, .slice A2 x.ns.length c2, .slice A3 x.l.length c3] 25)) =
      .ok (.tuple #[.agg #[.int .i64 p, .bool nm, .bool hn, .func (.func g) #[] cap], .bool true]) (w.alloc (.cells #[.int .i64 x.k, .string x.s, .slice A2 x.ns.length c2, .slice A3 x.l.length c3] 25)))
    (hen : ∀ args w, (callFunc g args).run Tryz.prog w = .ok (.enter g args) w)
    (HR : As (∀ w, Sat P w → Calls Tryz.prog g (#[.string x.s] ++ cap) w fun e w' => e = .returned (.bool sr) ∧ Below w.heap.size w w'))
    (HN : As (∀ w, Sat P w → Calls Tryz.prog 53 #[.string x.s] w fun e w' => e = .returned (.bool rr) ∧ Below w.heap.size w w'))
    (HC : As (∀ w, Sat P w → Calls Tryz.prog 95 #[.slice A2 x.ns.length c2, .func (.func 164) #[] #[]] w fun e w' => e = .returned (.bool bd) ∧ Below w.heap.size w w'))
    (HS : As (Sat P w)) (r2 : As (Strs P A2 x.ns)) (hl1 : x.ns.length ≤ 2147483648) (hl2 : x.l.length ≤ 2147483648) (hT : As (tw = decide ((srtc x.ns).length < x.ns.length)))
    (hO : As (ownErr x test = if x.k < 0 ∨ 20 ≤ x.k then 2 else if (0 ≤ p ∧ (x.l.length : Int) ≠ p) ∨ (p = -2 ∧ x.l.length = 0) then 17 else if (x.k = 17 ∧ x.ns.length ≠ x.l.length) ∨ (hn = false ∧ 0 < x.ns.length) then 17
      else if sr = false ∨ (x.k = 19 ∧ test = false) then 17 else if (nm = true ∧ rr = false) ∨ bd = true then 6 else if tw = true then 8 else if x.k = 1 then utfErr x.s else 0))
    (hk : 0 ≤ x.k ∧ x.k < 20) (hcl : x.k = 1 ∧ p = 0 ∧ hn = false ∧ nm = false) :
    Calls Tryz.prog 146 #[.map (some b), .agg #[.int .i64 x.k, .string x.s, .slice A2 x.ns.length c2, .slice A3 x.l.length c3], .bool test] w fun e w' => e = .returned (.int .i64 (ownErr x test)) ∧ Below w.heap.size w w' := by
  have _u := And.intro z1 (And.intro hl2 (And.intro HN G))
  clear _u
  obtain ⟨h1, rfl, rfl, rfl⟩ := hcl
  have q1 : (x.k == 1) = true := by rw [h1]; decide
  have q2 : (x.k == 17) = false := by rw [h1]; decide
  have q3 : (x.k == 19) = false := by rw [h1]; decide
  have E1 := As.mk (fun (g : (x.l.length : Int) ≠ 0) => show ownErr x test = 17 by rw [hO.out, if_neg (by omega), if_pos (Or.inl ⟨by omega, g⟩)])
  have E2 := As.mk (fun (g1 : ¬((x.l.length : Int) ≠ 0)) (g : 0 < x.ns.length) => show ownErr x test = 17 by rw [hO.out, if_neg (by omega), if_neg (fun h => h.elim (fun q => g1 q.2) (fun q => by omega)), if_pos (Or.inr ⟨rfl, g⟩)])
  have E3 := As.mk (fun (g1 : ¬((x.l.length : Int) ≠ 0)) (g2 : ¬(0 < x.ns.length)) (g3 : sr = false) => show ownErr x test = 17 by rw [hO.out, if_neg (by omega), if_neg (fun h => h.elim (fun q => g1 q.2) (fun q => by omega)), if_neg (fun h => h.elim (fun q => by omega) (fun q => g2 q.2)), if_pos (Or.inl g3)])
  have E6 := As.mk (fun (g1 : ¬((x.l.length : Int) ≠ 0)) (g2 : ¬(0 < x.ns.length)) (g3 : sr = true) (g6 : bd = true) => show ownErr x test = 6 by rw [hO.out, if_neg (by omega), if_neg (fun h => h.elim (fun q => g1 q.2) (fun q => by omega)), if_neg (fun h => h.elim (fun q => by omega) (fun q => g2 q.2)), if_neg (fun h => h.elim (fun q => by rw [g3] at q; cases q) (fun q => by omega)), if_pos (Or.inr g6)])
  have E7 := As.mk (fun (g1 : ¬((x.l.length : Int) ≠ 0)) (g2 : ¬(0 < x.ns.length)) (g3 : sr = true) (g6 : bd = false) (g7 : tw = true) => show ownErr x test = 8 by rw [hO.out, if_neg (by omega), if_neg (fun h => h.elim (fun q => g1 q.2) (fun q => by omega)), if_neg (fun h => h.elim (fun q => by omega) (fun q => g2 q.2)), if_neg (fun h => h.elim (fun q => by rw [g3] at q; cases q) (fun q => by omega)), if_neg (fun h => h.elim (fun q => by simp at q) (fun q => by rw [g6] at q; cases q)), if_pos g7])
  have E8 := As.mk (fun (g1 : ¬((x.l.length : Int) ≠ 0)) (g2 : ¬(0 < x.ns.length)) (g3 : sr = true) (g6 : bd = false) (g7 : tw = false) => show ownErr x test = utfErr x.s by rw [hO.out, if_neg (by omega), if_neg (fun h => h.elim (fun q => g1 q.2) (fun q => by omega)), if_neg (fun h => h.elim (fun q => by omega) (fun q => g2 q.2)), if_neg (fun h => h.elim (fun q => by rw [g3] at q; cases q) (fun q => by omega)), if_neg (fun h => h.elim (fun q => by simp at q) (fun q => by rw [g6] at q; cases q)), if_neg (by rw [g7]; decide), if_pos h1])
  have H1 := As.mk h1
  clear h1
  clear hO
  go_enter Tryz.func146, Tryz.ntmps146
  go_wp2_with (first
    | (go_at_call 95; refine (HC.out _ hs1).mono ?_; rintro e w3 ⟨rfl, hb3⟩; replace k0 := (bcell hb3 _ _ hz1).trans k0; replace k1 := (bcell hb3 _ _ hz1).trans k1; replace k2 := (bcell hb3 _ _ hz1).trans k2; replace hs1 := hs1.below hb3; replace hB := As.mk (hB.out.trans (hb3.mono hB.out.size)); replace hz1 := Nat.lt_of_lt_of_le hz1 hb3.size; clear hb3)
    | (with_reducible refine (HR.out _ ((HS.out.alloc _).alloc _)).mono ?_; rintro e w1 ⟨rfl, hb1⟩; have hs1 := Sat.below ((HS.out.alloc _).alloc _) hb1; have hB := As.mk ((((Below.refl _ w).alloc (Nat.le_refl _) _).alloc (by simp) _).trans (hb1.mono (by simp; omega))); have k0 := (bcell hb1 _ _ (by simp; omega)).trans (cell_first w _ _ _ 0); have k1 := (bcell hb1 _ _ (by simp; omega)).trans (cell_first w _ _ _ 1); have k2 := (bcell hb1 _ _ (by simp; omega)).trans (cell_first w _ _ _ 2); have r1 := (bcell hb1 _ _ (by simp)).trans (cell_last w _ _ _ 1); have hz1 : w.heap.size < w1.heap.size := cell_block k0; simp only [List.getElem?_toArray, List.getElem?_cons_zero, List.getElem?_cons_succ] at k0 k1 k2 r1; clear hb1))
  all_goals clear q1 q2 q3
  all_goals try simp only [bne_iff_ne, ne_eq, bne_eq_false_iff_eq, Bool.not_eq_true', Bool.not_eq_false'] at *
  all_goals first
    | (exfalso; exact Bool.noConfusion ((‹sr = true›).symm.trans ‹sr = false›))
    | (exfalso; exact Bool.noConfusion ((‹bd = true›).symm.trans ‹bd = false›))
    | (have ee := E1.out (by omega); go_ret; exact ⟨by rw [ee]; rfl, by first | exact hB.out | exact ((Below.refl _ _).alloc (Nat.le_refl _) _).alloc (by simp) _⟩)
    | (have ee := E2.out (by omega) (by omega); go_ret; exact ⟨by rw [ee]; rfl, by first | exact hB.out | exact ((Below.refl _ _).alloc (Nat.le_refl _) _).alloc (by simp) _⟩)
    | (have ee := E3.out (by omega) (by omega) ‹sr = false›; go_ret; exact ⟨by rw [ee]; rfl, by first | exact hB.out | exact ((Below.refl _ _).alloc (Nat.le_refl _) _).alloc (by simp) _⟩)
    | (have ee := E6.out (by omega) (by omega) ‹sr = true› ‹bd = true›; go_ret; exact ⟨by rw [ee]; rfl, by first | exact hB.out | exact ((Below.refl _ _).alloc (Nat.le_refl _) _).alloc (by simp) _⟩)
    | skip
  have e7 := As.mk (fun g7 => E7.out (by omega) (by omega) ‹sr = true› ‹bd = false› g7)
  have e8 := As.mk (fun g7 => E8.out (by omega) (by omega) ‹sr = true› ‹bd = false› g7)
  have q1 : (x.k == 1) = true := beq_iff_eq.2 H1.out
  clear E1 E2 E3 E6 E7 E8
  go_region_held3 (fun W => W.cell? ⟨w.heap.size, 0, none⟩ = some (.int .i64 x.k) ∧ W.cell? ⟨w.heap.size, 1, none⟩ = some (.string x.s) ∧ W.cell? ⟨w.heap.size, 2, none⟩ = some (.slice A2 x.ns.length c2) ∧ Below w.heap.size w W ∧ w.heap.size < W.heap.size ∧ Sat P W)
    (first
      | exact ⟨k0, k1, k2, hB.out.drew, hz1, hs1.drew⟩
      | exact h16 (hbl6 _ hb5) hh4
      | (go_split_ands
         first
           | (refine ⟨?_, ?_, ?_, ?_, ?_, ?_⟩ <;> assumption)
           | exact h16 hb5 ⟨by assumption, by assumption, by assumption, by assumption, by assumption, by assumption⟩
           | exact h16 hb4 ⟨by assumption, by assumption, by assumption, by assumption, by assumption, by assumption⟩))
    (first
      | (go_at_call 56; refine (values_calls2 _ _ _ _).mono ?_; rintro e w4 ⟨Bs, rfl, hBs, hcB, hb4⟩)
      | (go_at_call 54; refine (compact_calls _ v x.ns hl1 _ hrow).mono ?_; rintro e w6 ⟨a6, cp6, rfl, hst6, hbl6⟩)
      | (go_at_call 55; refine (sorted_calls Bs c2 A2 x.ns hl1 _ hBs hcB (StrsAt.of r2.out (by go_split_ands; assumption))).mono ?_; rintro e w5 ⟨v, rfl, hrow, hb5⟩; have hh4 : w4.cell? ⟨w.heap.size, 0, none⟩ = some (.int .i64 x.k) ∧ w4.cell? ⟨w.heap.size, 1, none⟩ = some (.string x.s) ∧ w4.cell? ⟨w.heap.size, 2, none⟩ = some (.slice A2 x.ns.length c2) ∧ Below w.heap.size w w4 ∧ w.heap.size < w4.heap.size ∧ Sat P w4 := (by assumption)))
  clear k0 k1 k2 hB hz1 hs1
  obtain ⟨k0, k1, k2, hB, hz1, hs1⟩ := ‹_ ∧ _›
  generalize (srtc x.ns).length = m at *
  clear hst6 hrow hbl6 hb5 hh4 hcB hBs hb4
  by_cases hlt : m < x.ns.length
  · have ee := As.mk (e7.out (by rw [hT.out]; exact decide_eq_true hlt))
    clear e7 e8
    go_wp2
    all_goals (go_ret; exact ⟨by rw [ee.out]; rfl, hB⟩)
  · have ee := As.mk (e8.out (by rw [hT.out]; exact decide_eq_false hlt))
    clear e7 e8
    have hcv := fun (W : World) => run_bytes_of_string (P := Tryz.prog) W 9 162 5 x.s Tryz.underlying9 Tryz.underlying162 Tryz.underlying5
    have HU : As (∀ (W : World) (cap : Nat) (fr : Nat × Nat), Sat P W → Calls Tryz.prog 165 #[.slice (some ⟨W.heap.size, 0, none⟩) x.s.size cap] (W.alloc (.cells (bytesRow x.s cap) 5 fr)) fun e w' => (∃ n, e = .returned (.tuple #[.int .i64 n, .int .i64 (utfErr x.s)])) ∧ Below W.heap.size W w') := ⟨fun W cap fr hW => (utfCheck_calls P G x.s W.heap.size cap _ z1 (hW.alloc _) (fun j hj => by rw [World.cell?_alloc_mark]; exact bytesRow_at x.s cap j hj)).mono fun e w' ⟨he, hb⟩ => ⟨he, Below.then ((Below.refl _ _).alloc (Nat.le_refl _) _) hb⟩⟩
    have hs2 := hs1.drew
    go_wp2_with (go_at_call 165; refine (HU.out _ _ _ hs2).mono ?_; rintro e w7 ⟨⟨n, rfl⟩, hb7⟩)
    go_ret
    exact ⟨by rw [ee.out]; rfl, Below.then hB.drew hb7⟩

set_option maxRecDepth 100000 in
set_option maxHeartbeats 4000000 in
theorem own_nm (P : Pers) (G : Glob P) (x : Ex) (test : Bool) (w : World) (b : Nat) (g : FuncId) (cap : Array Value) (A2 A3 : Option Addr) (c2 c3 : Nat) (p : Int) (hn nm sr rr bd tw : Bool) (z1 : x.s.size ≤ maxStr)
    (hL : (Instr.lookup 139 (.map (some b)) (.int .i64 x.k) true).run Tryz.prog (w.alloc (.cells #[.int .i64 x.k, .string x.s, .slice A2 x.ns.length c2, .slice A3 x.l.length c3] 25)) =
      .ok (.tuple #[.agg #[.int .i64 p, .bool nm, .bool hn, .func (.func g) #[] cap], .bool true]) (w.alloc (.cells #[.int .i64 x.k, .string x.s, .slice A2 x.ns.length c2, .slice A3 x.l.length c3] 25)))
    (hen : ∀ args w, (callFunc g args).run Tryz.prog w = .ok (.enter g args) w)
    (HR : As (∀ w, Sat P w → Calls Tryz.prog g (#[.string x.s] ++ cap) w fun e w' => e = .returned (.bool sr) ∧ Below w.heap.size w w'))
    (HN : As (∀ w, Sat P w → Calls Tryz.prog 53 #[.string x.s] w fun e w' => e = .returned (.bool rr) ∧ Below w.heap.size w w'))
    (HC : As (∀ w, Sat P w → Calls Tryz.prog 95 #[.slice A2 x.ns.length c2, .func (.func 164) #[] #[]] w fun e w' => e = .returned (.bool bd) ∧ Below w.heap.size w w'))
    (HS : As (Sat P w)) (r2 : As (Strs P A2 x.ns)) (hl1 : x.ns.length ≤ 2147483648) (hl2 : x.l.length ≤ 2147483648) (hT : As (tw = decide ((srtc x.ns).length < x.ns.length)))
    (hO : As (ownErr x test = if x.k < 0 ∨ 20 ≤ x.k then 2 else if (0 ≤ p ∧ (x.l.length : Int) ≠ p) ∨ (p = -2 ∧ x.l.length = 0) then 17 else if (x.k = 17 ∧ x.ns.length ≠ x.l.length) ∨ (hn = false ∧ 0 < x.ns.length) then 17
      else if sr = false ∨ (x.k = 19 ∧ test = false) then 17 else if (nm = true ∧ rr = false) ∨ bd = true then 6 else if tw = true then 8 else if x.k = 1 then utfErr x.s else 0))
    (hk : 0 ≤ x.k ∧ x.k < 20) (hcl : (x.k ≠ 1 ∧ x.k ≠ 17 ∧ x.k ≠ 19) ∧ (0 ≤ p ∧ p ≤ 3) ∧ hn = false ∧ nm = true) :
    Calls Tryz.prog 146 #[.map (some b), .agg #[.int .i64 x.k, .string x.s, .slice A2 x.ns.length c2, .slice A3 x.l.length c3], .bool test] w fun e w' => e = .returned (.int .i64 (ownErr x test)) ∧ Below w.heap.size w w' := by
  have _u := And.intro z1 (And.intro hl2 (And.intro HN G))
  clear _u
  obtain ⟨⟨h1, h2, h3⟩, ⟨h4, h5⟩, rfl, rfl⟩ := hcl
  have q1 : (x.k == 1) = false := beq_eq_false_iff_ne.2 h1
  have q2 : (x.k == 17) = false := beq_eq_false_iff_ne.2 h2
  have q3 : (x.k == 19) = false := beq_eq_false_iff_ne.2 h3
  have q4 : (p == -2) = false := beq_eq_false_iff_ne.2 (by omega)
  have E1 := As.mk (fun (g : (x.l.length : Int) ≠ p) => show ownErr x test = 17 by rw [hO.out, if_neg (by omega), if_pos (Or.inl ⟨by omega, g⟩)])
  have E2 := As.mk (fun (g1 : ¬((x.l.length : Int) ≠ p)) (g : 0 < x.ns.length) => show ownErr x test = 17 by rw [hO.out, if_neg (by omega), if_neg (fun h => h.elim (fun q => g1 q.2) (fun q => by omega)), if_pos (Or.inr ⟨rfl, g⟩)])
  have E3 := As.mk (fun (g1 : ¬((x.l.length : Int) ≠ p)) (g2 : ¬(0 < x.ns.length)) (g3 : sr = false) => show ownErr x test = 17 by rw [hO.out, if_neg (by omega), if_neg (fun h => h.elim (fun q => g1 q.2) (fun q => by omega)), if_neg (fun h => h.elim (fun q => by omega) (fun q => g2 q.2)), if_pos (Or.inl g3)])
  have E5 := As.mk (fun (g1 : ¬((x.l.length : Int) ≠ p)) (g2 : ¬(0 < x.ns.length)) (g3 : sr = true) (g5 : rr = false) => show ownErr x test = 6 by rw [hO.out, if_neg (by omega), if_neg (fun h => h.elim (fun q => g1 q.2) (fun q => by omega)), if_neg (fun h => h.elim (fun q => by omega) (fun q => g2 q.2)), if_neg (fun h => h.elim (fun q => by rw [g3] at q; cases q) (fun q => by omega)), if_pos (Or.inl ⟨rfl, g5⟩)])
  have E6 := As.mk (fun (g1 : ¬((x.l.length : Int) ≠ p)) (g2 : ¬(0 < x.ns.length)) (g3 : sr = true) (g5 : rr = true) (g6 : bd = true) => show ownErr x test = 6 by rw [hO.out, if_neg (by omega), if_neg (fun h => h.elim (fun q => g1 q.2) (fun q => by omega)), if_neg (fun h => h.elim (fun q => by omega) (fun q => g2 q.2)), if_neg (fun h => h.elim (fun q => by rw [g3] at q; cases q) (fun q => by omega)), if_pos (Or.inr g6)])
  have E7 := As.mk (fun (g1 : ¬((x.l.length : Int) ≠ p)) (g2 : ¬(0 < x.ns.length)) (g3 : sr = true) (g5 : rr = true) (g6 : bd = false) (g7 : tw = true) => show ownErr x test = 8 by rw [hO.out, if_neg (by omega), if_neg (fun h => h.elim (fun q => g1 q.2) (fun q => by omega)), if_neg (fun h => h.elim (fun q => by omega) (fun q => g2 q.2)), if_neg (fun h => h.elim (fun q => by rw [g3] at q; cases q) (fun q => by omega)), if_neg (fun h => h.elim (fun q => by rw [g5] at q; cases q.2) (fun q => by rw [g6] at q; cases q)), if_pos g7])
  have E8 := As.mk (fun (g1 : ¬((x.l.length : Int) ≠ p)) (g2 : ¬(0 < x.ns.length)) (g3 : sr = true) (g5 : rr = true) (g6 : bd = false) (g7 : tw = false) => show ownErr x test = 0 by rw [hO.out, if_neg (by omega), if_neg (fun h => h.elim (fun q => g1 q.2) (fun q => by omega)), if_neg (fun h => h.elim (fun q => by omega) (fun q => g2 q.2)), if_neg (fun h => h.elim (fun q => by rw [g3] at q; cases q) (fun q => by omega)), if_neg (fun h => h.elim (fun q => by rw [g5] at q; cases q.2) (fun q => by rw [g6] at q; cases q)), if_neg (by rw [g7]; decide), if_neg (by omega)])
  clear hO
  go_enter Tryz.func146, Tryz.ntmps146
  go_wp2_with (first
    | (go_at_call 53; refine (HN.out _ hs1).mono ?_; rintro e w2 ⟨rfl, hb2⟩; replace k0 := (bcell hb2 _ _ hz1).trans k0; replace k1 := (bcell hb2 _ _ hz1).trans k1; replace k2 := (bcell hb2 _ _ hz1).trans k2; replace hs1 := hs1.below hb2; replace hB := As.mk (hB.out.trans (hb2.mono hB.out.size)); replace hz1 := Nat.lt_of_lt_of_le hz1 hb2.size; clear hb2 r1)
    | (go_at_call 95; refine (HC.out _ hs1).mono ?_; rintro e w3 ⟨rfl, hb3⟩; replace k0 := (bcell hb3 _ _ hz1).trans k0; replace k1 := (bcell hb3 _ _ hz1).trans k1; replace k2 := (bcell hb3 _ _ hz1).trans k2; replace hs1 := hs1.below hb3; replace hB := As.mk (hB.out.trans (hb3.mono hB.out.size)); replace hz1 := Nat.lt_of_lt_of_le hz1 hb3.size; clear hb3)
    | (with_reducible refine (HR.out _ ((HS.out.alloc _).alloc _)).mono ?_; rintro e w1 ⟨rfl, hb1⟩; have hs1 := Sat.below ((HS.out.alloc _).alloc _) hb1; have hB := As.mk ((((Below.refl _ w).alloc (Nat.le_refl _) _).alloc (by simp) _).trans (hb1.mono (by simp; omega))); have k0 := (bcell hb1 _ _ (by simp; omega)).trans (cell_first w _ _ _ 0); have k1 := (bcell hb1 _ _ (by simp; omega)).trans (cell_first w _ _ _ 1); have k2 := (bcell hb1 _ _ (by simp; omega)).trans (cell_first w _ _ _ 2); have r1 := (bcell hb1 _ _ (by simp)).trans (cell_last w _ _ _ 1); have hz1 : w.heap.size < w1.heap.size := cell_block k0; simp only [List.getElem?_toArray, List.getElem?_cons_zero, List.getElem?_cons_succ] at k0 k1 k2 r1; clear hb1))
  all_goals clear q1 q2 q3 q4
  all_goals try simp only [bne_iff_ne, ne_eq, bne_eq_false_iff_eq, Bool.not_eq_true', Bool.not_eq_false'] at *
  all_goals first
    | (exfalso; exact Bool.noConfusion ((‹sr = true›).symm.trans ‹sr = false›))
    | (exfalso; exact Bool.noConfusion ((‹bd = true›).symm.trans ‹bd = false›))
    | (exfalso; exact Bool.noConfusion ((‹rr = true›).symm.trans ‹rr = false›))
    | (have ee := E1.out (by omega); go_ret; exact ⟨by rw [ee]; rfl, by first | exact hB.out | exact ((Below.refl _ _).alloc (Nat.le_refl _) _).alloc (by simp) _⟩)
    | (have ee := E2.out (by omega) (by omega); go_ret; exact ⟨by rw [ee]; rfl, by first | exact hB.out | exact ((Below.refl _ _).alloc (Nat.le_refl _) _).alloc (by simp) _⟩)
    | (have ee := E3.out (by omega) (by omega) ‹sr = false›; go_ret; exact ⟨by rw [ee]; rfl, by first | exact hB.out | exact ((Below.refl _ _).alloc (Nat.le_refl _) _).alloc (by simp) _⟩)
    | (have ee := E5.out (by omega) (by omega) ‹sr = true› ‹rr = false›; go_ret; exact ⟨by rw [ee]; rfl, by first | exact hB.out | exact ((Below.refl _ _).alloc (Nat.le_refl _) _).alloc (by simp) _⟩)
    | (have ee := E6.out (by omega) (by omega) ‹sr = true› ‹rr = true› ‹bd = true›; go_ret; exact ⟨by rw [ee]; rfl, by first | exact hB.out | exact ((Below.refl _ _).alloc (Nat.le_refl _) _).alloc (by simp) _⟩)
    | skip
  have e7 := As.mk (fun g7 => E7.out (by omega) (by omega) ‹sr = true› ‹rr = true› ‹bd = false› g7)
  have e8 := As.mk (fun g7 => E8.out (by omega) (by omega) ‹sr = true› ‹rr = true› ‹bd = false› g7)
  have q1 : (x.k == 1) = false := beq_eq_false_iff_ne.2 (by omega)
  clear E1 E2 E3 E5 E6 E7 E8
  go_region_held3 (fun W => W.cell? ⟨w.heap.size, 0, none⟩ = some (.int .i64 x.k) ∧ W.cell? ⟨w.heap.size, 1, none⟩ = some (.string x.s) ∧ W.cell? ⟨w.heap.size, 2, none⟩ = some (.slice A2 x.ns.length c2) ∧ Below w.heap.size w W ∧ w.heap.size < W.heap.size ∧ Sat P W)
    (first
      | exact ⟨k0, k1, k2, hB.out.drew, hz1, hs1.drew⟩
      | exact h16 (hbl6 _ hb5) hh4
      | (go_split_ands
         first
           | (refine ⟨?_, ?_, ?_, ?_, ?_, ?_⟩ <;> assumption)
           | exact h16 hb5 ⟨by assumption, by assumption, by assumption, by assumption, by assumption, by assumption⟩
           | exact h16 hb4 ⟨by assumption, by assumption, by assumption, by assumption, by assumption, by assumption⟩))
    (first
      | (go_at_call 56; refine (values_calls2 _ _ _ _).mono ?_; rintro e w4 ⟨Bs, rfl, hBs, hcB, hb4⟩)
      | (go_at_call 54; refine (compact_calls _ v x.ns hl1 _ hrow).mono ?_; rintro e w6 ⟨a6, cp6, rfl, hst6, hbl6⟩)
      | (go_at_call 55; refine (sorted_calls Bs c2 A2 x.ns hl1 _ hBs hcB (StrsAt.of r2.out (by go_split_ands; assumption))).mono ?_; rintro e w5 ⟨v, rfl, hrow, hb5⟩; have hh4 : w4.cell? ⟨w.heap.size, 0, none⟩ = some (.int .i64 x.k) ∧ w4.cell? ⟨w.heap.size, 1, none⟩ = some (.string x.s) ∧ w4.cell? ⟨w.heap.size, 2, none⟩ = some (.slice A2 x.ns.length c2) ∧ Below w.heap.size w w4 ∧ w.heap.size < w4.heap.size ∧ Sat P w4 := (by assumption)))
  clear k0 k1 k2 hB hz1 hs1
  obtain ⟨k0, k1, k2, hB, hz1, hs1⟩ := ‹_ ∧ _›
  generalize (srtc x.ns).length = m at *
  clear hst6 hrow hbl6 hb5 hh4 hcB hBs hb4
  by_cases hlt : m < x.ns.length
  · have ee := As.mk (e7.out (by rw [hT.out]; exact decide_eq_true hlt))
    clear e7 e8
    go_wp2
    all_goals (go_ret; exact ⟨by rw [ee.out]; rfl, hB⟩)
  · have ee := As.mk (e8.out (by rw [hT.out]; exact decide_eq_false hlt))
    clear e7 e8
    go_wp2
    go_ret
    exact ⟨by rw [ee.out]; rfl, hB⟩

set_option maxRecDepth 100000 in
set_option maxHeartbeats 4000000 in
theorem own_no (P : Pers) (G : Glob P) (x : Ex) (test : Bool) (w : World) (b : Nat) (g : FuncId) (cap : Array Value) (A2 A3 : Option Addr) (c2 c3 : Nat) (p : Int) (hn nm sr rr bd tw : Bool) (z1 : x.s.size ≤ maxStr)
    (hL : (Instr.lookup 139 (.map (some b)) (.int .i64 x.k) true).run Tryz.prog (w.alloc (.cells #[.int .i64 x.k, .string x.s, .slice A2 x.ns.length c2, .slice A3 x.l.length c3] 25)) =
      .ok (.tuple #[.agg #[.int .i64 p, .bool nm, .bool hn, .func (.func g) #[] cap], .bool true]) (w.alloc (.cells #[.int .i64 x.k, .string x.s, .slice A2 x.ns.length c2, .slice A3 x.l.length c3] 25)))
    (hen : ∀ args w, (callFunc g args).run Tryz.prog w = .ok (.enter g args) w)
    (HR : As (∀ w, Sat P w → Calls Tryz.prog g (#[.string x.s] ++ cap) w fun e w' => e = .returned (.bool sr) ∧ Below w.heap.size w w'))
    (HN : As (∀ w, Sat P w → Calls Tryz.prog 53 #[.string x.s] w fun e w' => e = .returned (.bool rr) ∧ Below w.heap.size w w'))
    (HC : As (∀ w, Sat P w → Calls Tryz.prog 95 #[.slice A2 x.ns.length c2, .func (.func 164) #[] #[]] w fun e w' => e = .returned (.bool bd) ∧ Below w.heap.size w w'))
    (HS : As (Sat P w)) (r2 : As (Strs P A2 x.ns)) (hl1 : x.ns.length ≤ 2147483648) (hl2 : x.l.length ≤ 2147483648) (hT : As (tw = decide ((srtc x.ns).length < x.ns.length)))
    (hO : As (ownErr x test = if x.k < 0 ∨ 20 ≤ x.k then 2 else if (0 ≤ p ∧ (x.l.length : Int) ≠ p) ∨ (p = -2 ∧ x.l.length = 0) then 17 else if (x.k = 17 ∧ x.ns.length ≠ x.l.length) ∨ (hn = false ∧ 0 < x.ns.length) then 17
      else if sr = false ∨ (x.k = 19 ∧ test = false) then 17 else if (nm = true ∧ rr = false) ∨ bd = true then 6 else if tw = true then 8 else if x.k = 1 then utfErr x.s else 0))
    (hk : 0 ≤ x.k ∧ x.k < 20) (hcl : (x.k ≠ 1 ∧ x.k ≠ 17 ∧ x.k ≠ 19) ∧ (0 ≤ p ∧ p ≤ 3) ∧ hn = false ∧ nm = false) :
    Calls Tryz.prog 146 #[.map (some b), .agg #[.int .i64 x.k, .string x.s, .slice A2 x.ns.length c2, .slice A3 x.l.length c3], .bool test] w fun e w' => e = .returned (.int .i64 (ownErr x test)) ∧ Below w.heap.size w w' := by
  have _u := And.intro z1 (And.intro hl2 (And.intro HN G))
  clear _u
  obtain ⟨⟨h1, h2, h3⟩, ⟨h4, h5⟩, rfl, rfl⟩ := hcl
  have q1 : (x.k == 1) = false := beq_eq_false_iff_ne.2 h1
  have q2 : (x.k == 17) = false := beq_eq_false_iff_ne.2 h2
  have q3 : (x.k == 19) = false := beq_eq_false_iff_ne.2 h3
  have q4 : (p == -2) = false := beq_eq_false_iff_ne.2 (by omega)
  have E1 := As.mk (fun (g : (x.l.length : Int) ≠ p) => show ownErr x test = 17 by rw [hO.out, if_neg (by omega), if_pos (Or.inl ⟨by omega, g⟩)])
  have E2 := As.mk (fun (g1 : ¬((x.l.length : Int) ≠ p)) (g : 0 < x.ns.length) => show ownErr x test = 17 by rw [hO.out, if_neg (by omega), if_neg (fun h => h.elim (fun q => g1 q.2) (fun q => by omega)), if_pos (Or.inr ⟨rfl, g⟩)])
  have E3 := As.mk (fun (g1 : ¬((x.l.length : Int) ≠ p)) (g2 : ¬(0 < x.ns.length)) (g3 : sr = false) => show ownErr x test = 17 by rw [hO.out, if_neg (by omega), if_neg (fun h => h.elim (fun q => g1 q.2) (fun q => by omega)), if_neg (fun h => h.elim (fun q => by omega) (fun q => g2 q.2)), if_pos (Or.inl g3)])
  have E6 := As.mk (fun (g1 : ¬((x.l.length : Int) ≠ p)) (g2 : ¬(0 < x.ns.length)) (g3 : sr = true) (g6 : bd = true) => show ownErr x test = 6 by rw [hO.out, if_neg (by omega), if_neg (fun h => h.elim (fun q => g1 q.2) (fun q => by omega)), if_neg (fun h => h.elim (fun q => by omega) (fun q => g2 q.2)), if_neg (fun h => h.elim (fun q => by rw [g3] at q; cases q) (fun q => by omega)), if_pos (Or.inr g6)])
  have E7 := As.mk (fun (g1 : ¬((x.l.length : Int) ≠ p)) (g2 : ¬(0 < x.ns.length)) (g3 : sr = true) (g6 : bd = false) (g7 : tw = true) => show ownErr x test = 8 by rw [hO.out, if_neg (by omega), if_neg (fun h => h.elim (fun q => g1 q.2) (fun q => by omega)), if_neg (fun h => h.elim (fun q => by omega) (fun q => g2 q.2)), if_neg (fun h => h.elim (fun q => by rw [g3] at q; cases q) (fun q => by omega)), if_neg (fun h => h.elim (fun q => by simp at q) (fun q => by rw [g6] at q; cases q)), if_pos g7])
  have E8 := As.mk (fun (g1 : ¬((x.l.length : Int) ≠ p)) (g2 : ¬(0 < x.ns.length)) (g3 : sr = true) (g6 : bd = false) (g7 : tw = false) => show ownErr x test = 0 by rw [hO.out, if_neg (by omega), if_neg (fun h => h.elim (fun q => g1 q.2) (fun q => by omega)), if_neg (fun h => h.elim (fun q => by omega) (fun q => g2 q.2)), if_neg (fun h => h.elim (fun q => by rw [g3] at q; cases q) (fun q => by omega)), if_neg (fun h => h.elim (fun q => by simp at q) (fun q => by rw [g6] at q; cases q)), if_neg (by rw [g7]; decide), if_neg (by omega)])
  clear hO
  go_enter Tryz.func146, Tryz.ntmps146
  go_wp2_with (first
    | (go_at_call 95; refine (HC.out _ hs1).mono ?_; rintro e w3 ⟨rfl, hb3⟩; replace k0 := (bcell hb3 _ _ hz1).trans k0; replace k1 := (bcell hb3 _ _ hz1).trans k1; replace k2 := (bcell hb3 _ _ hz1).trans k2; replace hs1 := hs1.below hb3; replace hB := As.mk (hB.out.trans (hb3.mono hB.out.size)); replace hz1 := Nat.lt_of_lt_of_le hz1 hb3.size; clear hb3)
    | (with_reducible refine (HR.out _ ((HS.out.alloc _).alloc _)).mono ?_; rintro e w1 ⟨rfl, hb1⟩; have hs1 := Sat.below ((HS.out.alloc _).alloc _) hb1; have hB := As.mk ((((Below.refl _ w).alloc (Nat.le_refl _) _).alloc (by simp) _).trans (hb1.mono (by simp; omega))); have k0 := (bcell hb1 _ _ (by simp; omega)).trans (cell_first w _ _ _ 0); have k1 := (bcell hb1 _ _ (by simp; omega)).trans (cell_first w _ _ _ 1); have k2 := (bcell hb1 _ _ (by simp; omega)).trans (cell_first w _ _ _ 2); have r1 := (bcell hb1 _ _ (by simp)).trans (cell_last w _ _ _ 1); have hz1 : w.heap.size < w1.heap.size := cell_block k0; simp only [List.getElem?_toArray, List.getElem?_cons_zero, List.getElem?_cons_succ] at k0 k1 k2 r1; clear hb1))
  all_goals clear q1 q2 q3 q4
  all_goals try simp only [bne_iff_ne, ne_eq, bne_eq_false_iff_eq, Bool.not_eq_true', Bool.not_eq_false'] at *
  all_goals first
    | (exfalso; exact Bool.noConfusion ((‹sr = true›).symm.trans ‹sr = false›))
    | (exfalso; exact Bool.noConfusion ((‹bd = true›).symm.trans ‹bd = false›))
    | (have ee := E1.out (by omega); go_ret; exact ⟨by rw [ee]; rfl, by first | exact hB.out | exact ((Below.refl _ _).alloc (Nat.le_refl _) _).alloc (by simp) _⟩)
    | (have ee := E2.out (by omega) (by omega); go_ret; exact ⟨by rw [ee]; rfl, by first | exact hB.out | exact ((Below.refl _ _).alloc (Nat.le_refl _) _).alloc (by simp) _⟩)
    | (have ee := E3.out (by omega) (by omega) ‹sr = false›; go_ret; exact ⟨by rw [ee]; rfl, by first | exact hB.out | exact ((Below.refl _ _).alloc (Nat.le_refl _) _).alloc (by simp) _⟩)
    | (have ee := E6.out (by omega) (by omega) ‹sr = true› ‹bd = true›; go_ret; exact ⟨by rw [ee]; rfl, by first | exact hB.out | exact ((Below.refl _ _).alloc (Nat.le_refl _) _).alloc (by simp) _⟩)
    | skip
  have e7 := As.mk (fun g7 => E7.out (by omega) (by omega) ‹sr = true› ‹bd = false› g7)
  have e8 := As.mk (fun g7 => E8.out (by omega) (by omega) ‹sr = true› ‹bd = false› g7)
  have q1 : (x.k == 1) = false := beq_eq_false_iff_ne.2 (by omega)
  clear E1 E2 E3 E6 E7 E8
  go_region_held3 (fun W => W.cell? ⟨w.heap.size, 0, none⟩ = some (.int .i64 x.k) ∧ W.cell? ⟨w.heap.size, 1, none⟩ = some (.string x.s) ∧ W.cell? ⟨w.heap.size, 2, none⟩ = some (.slice A2 x.ns.length c2) ∧ Below w.heap.size w W ∧ w.heap.size < W.heap.size ∧ Sat P W)
    (first
      | exact ⟨k0, k1, k2, hB.out.drew, hz1, hs1.drew⟩
      | exact h16 (hbl6 _ hb5) hh4
      | (go_split_ands
         first
           | (refine ⟨?_, ?_, ?_, ?_, ?_, ?_⟩ <;> assumption)
           | exact h16 hb5 ⟨by assumption, by assumption, by assumption, by assumption, by assumption, by assumption⟩
           | exact h16 hb4 ⟨by assumption, by assumption, by assumption, by assumption, by assumption, by assumption⟩))
    (first
      | (go_at_call 56; refine (values_calls2 _ _ _ _).mono ?_; rintro e w4 ⟨Bs, rfl, hBs, hcB, hb4⟩)
      | (go_at_call 54; refine (compact_calls _ v x.ns hl1 _ hrow).mono ?_; rintro e w6 ⟨a6, cp6, rfl, hst6, hbl6⟩)
      | (go_at_call 55; refine (sorted_calls Bs c2 A2 x.ns hl1 _ hBs hcB (StrsAt.of r2.out (by go_split_ands; assumption))).mono ?_; rintro e w5 ⟨v, rfl, hrow, hb5⟩; have hh4 : w4.cell? ⟨w.heap.size, 0, none⟩ = some (.int .i64 x.k) ∧ w4.cell? ⟨w.heap.size, 1, none⟩ = some (.string x.s) ∧ w4.cell? ⟨w.heap.size, 2, none⟩ = some (.slice A2 x.ns.length c2) ∧ Below w.heap.size w w4 ∧ w.heap.size < w4.heap.size ∧ Sat P w4 := (by assumption)))
  clear k0 k1 k2 hB hz1 hs1
  obtain ⟨k0, k1, k2, hB, hz1, hs1⟩ := ‹_ ∧ _›
  generalize (srtc x.ns).length = m at *
  clear hst6 hrow hbl6 hb5 hh4 hcB hBs hb4
  by_cases hlt : m < x.ns.length
  · have ee := As.mk (e7.out (by rw [hT.out]; exact decide_eq_true hlt))
    clear e7 e8
    go_wp2
    all_goals (go_ret; exact ⟨by rw [ee.out]; rfl, hB⟩)
  · have ee := As.mk (e8.out (by rw [hT.out]; exact decide_eq_false hlt))
    clear e7 e8
    go_wp2
    go_ret
    exact ⟨by rw [ee.out]; rfl, hB⟩
end Go.Proofs.YtainigjbjfpoaaaGreatDoor
