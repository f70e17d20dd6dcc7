/- Same of expressions, tests and logics; how deep they are. -/
/- Same of logics. -/
import Derived.Test.YtainigjbjfpoaaaGreatDoorCSlices
namespace Go.Proofs.YtainigjbjfpoaaaGreatDoor
open Go.RowKit

mutual
def Ex.same : Ex → Ex → Bool
  | ⟨k, s, ns, l⟩, ⟨k', s', ns', l'⟩ => (k == k') && decide (s = s') && strsEq ns ns' && Ex.sames l l'
def Ex.sames : List Ex → List Ex → Bool
  | [], [] => true
  | x :: xs, y :: ys => Ex.same x y && Ex.sames xs ys
  | _, _ => false
end
theorem Ex.sames_eq : ∀ xs ys, Ex.sames xs ys = eqBy Ex.same xs ys
  | [], [] => rfl
  | [], _ :: _ => rfl
  | _ :: _, [] => rfl
  | x :: xs, y :: ys => by simp only [Ex.sames, eqBy, Ex.sames_eq xs ys]
theorem Ex.same_eq (a b : Ex) : Ex.same a b = ((a.k == b.k) && decide (a.s = b.s) && strsEq a.ns b.ns && eqBy Ex.same a.l b.l) := by
  cases a; cases b
  simp only [Ex.same, Ex.sames_eq]
noncomputable def Ex.sz (x : Ex) : Nat := SizeOf.sizeOf x
theorem Ex.lt_of_mem {a x : Ex} (h : x ∈ a.l) : x.sz < a.sz := by
  have := List.sizeOf_lt_of_mem h
  cases a
  simp [Ex.sz] at this ⊢
  omega

set_option maxHeartbeats 400000 in
theorem exSame_calls (P : Pers) : ∀ (n : Nat) (a b : Ex) (ca cb : List Value) (w : World), a.sz ≤ n → Ex.Rep P a ca → Ex.Rep P b cb → Sat P w →
    Calls Tryz.prog 32 #[.agg ca.toArray, .agg cb.toArray] w fun e w' => e = .returned (.bool (Ex.same a b)) ∧ Below w.heap.size w w' := by
  intro n
  induction n with
  | zero => intro a b ca cb w h; cases a; simp [Ex.sz] at h
  | succ n ih =>
    intro a b ca cb w hn ha hb hs
    obtain ⟨A2, c2, A3, c3, rfl, l2, r2, l3, r3, _⟩ := ha.open
    obtain ⟨B2, d2, B3, d3, rfl, m2, t2, m3, t3, _⟩ := hb.open
    have HE := As.mk (fun (w : World) (hs : Sat P w) => equalStr_calls P A2 B2 c2 d2 a.ns b.ns w r2 t2 hs)
    have HL := As.mk (fun (w : World) (hs : Sat P w) => eqFuncEx_calls P Ex.same A3 B3 c3 d3 a.l b.l w r3 t3 hs (fun x y cx cy w' hx _ rx ry hs' => ih x y cx cy w' (by have := Ex.lt_of_mem hx; omega) rx ry hs'))
    have HQ := As.mk (Ex.same_eq a b)
    have hB : Below w.heap.size w ((w.alloc (.cells #[.int .i64 a.k, .string a.s, .slice A2 a.ns.length c2, .slice A3 a.l.length c3] 25)).alloc (.cells #[.int .i64 b.k, .string b.s, .slice B2 b.ns.length d2, .slice B3 b.l.length d3] 25)) := ((Below.refl _ _).alloc (Nat.le_refl _) _).alloc (by simp) _
    clear ih ha hb r2 t2 r3 t3
    by_cases hk : a.k = b.k
    · have hk1 : (a.k == b.k) = true := beq_iff_eq.2 hk
      have HK := As.mk hk
      clear hk
      by_cases hss : a.s = b.s
      · have hs1 : (a.s.toList == b.s.toList) = true := by rw [hss]; simp
        have HS := As.mk hss
        clear hss
        go_enter Tryz.func32, Tryz.ntmps32
        go_wp2_with fail
        refine (HE.out _ ((hs.alloc _).alloc _)).mono ?_
        rintro e w2 ⟨rfl, hb2⟩
        have hc2 := bcell hb2
        have hs2 := ((hs.alloc (.cells #[.int .i64 a.k, .string a.s, .slice A2 a.ns.length c2, .slice A3 a.l.length c3] 25)).alloc (.cells #[.int .i64 b.k, .string b.s, .slice B2 b.ns.length d2, .slice B3 b.l.length d3] 25)).below hb2
        have hB2 := Below.then hB hb2
        cases hq : strsEq a.ns b.ns with
        | true =>
          have HN := As.mk hq
          clear hq
          go_wp2_with fail
          refine (HL.out _ hs2).mono ?_
          rintro e w3 ⟨rfl, hb3⟩
          have hB3 := Below.then hB2 hb3
          clear hc2
          go_wp2
          go_ret
          exact ⟨by rw [HQ.out, hk1, decide_eq_true HS.out, HN.out]; rfl, hB3⟩
        | false =>
          have HN := As.mk hq
          clear hq
          go_wp2
          go_ret
          exact ⟨by rw [HQ.out, HN.out, Bool.and_false, Bool.false_and]; rfl, hB2⟩
      · have hs1 : (a.s.toList == b.s.toList) = false := beq_eq_false_iff_ne.2 (fun e => hss (toList_inj.1 e))
        have HS := As.mk hss
        clear hss
        go_enter Tryz.func32, Tryz.ntmps32
        go_wp2
        go_ret
        exact ⟨by rw [HQ.out, decide_eq_false HS.out, Bool.and_false, Bool.false_and, Bool.false_and]; rfl, hB⟩
    · have hk1 : (a.k == b.k) = false := beq_eq_false_iff_ne.2 hk
      go_enter Tryz.func32, Tryz.ntmps32
      go_wp2
      go_ret
      exact ⟨by rw [HQ.out, hk1]; rfl, hB⟩

def Te.same (a b : Te) : Bool := (a.any == b.any) && (a.no == b.no) && eqBy Ex.same a.l b.l
theorem exSame (P : Pers) (a b : Ex) (ca cb : List Value) (w : World) (ha : Ex.Rep P a ca) (hb : Ex.Rep P b cb) (hs : Sat P w) :
    Calls Tryz.prog 32 #[.agg ca.toArray, .agg cb.toArray] w fun e w' => e = .returned (.bool (Ex.same a b)) ∧ Below w.heap.size w w' := exSame_calls P a.sz a b ca cb w (Nat.le_refl _) ha hb hs
theorem exSames (P : Pers) (A1 A2 : Option Addr) (c1 c2 : Nat) (xs ys : List Ex) (w : World) (h1 : Exs P A1 xs) (h2 : Exs P A2 ys) (hs : Sat P w) :
    Calls Tryz.prog 33 #[.slice A1 xs.length c1, .slice A2 ys.length c2, .func (.func 32) #[] #[]] w fun e w' => e = .returned (.bool (eqBy Ex.same xs ys)) ∧ Below w.heap.size w w' :=
  eqFuncEx_calls P Ex.same A1 A2 c1 c2 xs ys w h1 h2 hs (fun x y cx cy w' _ _ rx ry hs' => exSame P x y cx cy w' rx ry hs')

set_option maxHeartbeats 400000 in
theorem teSame (P : Pers) (a b : Te) (ca cb : List Value) (w : World) (ha : Te.Rep P a ca) (hb : Te.Rep P b cb) (hs : Sat P w) :
    Calls Tryz.prog 38 #[.agg ca.toArray, .agg cb.toArray] w fun e w' => e = .returned (.bool (Te.same a b)) ∧ Below w.heap.size w w' := by
  obtain ⟨A2, c2, rfl, l2, r2⟩ := ha.open
  obtain ⟨B2, d2, rfl, m2, t2⟩ := hb.open
  have hB : Below w.heap.size w ((w.alloc (.cells #[.bool a.any, .bool a.no, .slice A2 a.l.length c2] 68)).alloc (.cells #[.bool b.any, .bool b.no, .slice B2 b.l.length d2] 68)) := ((Below.refl _ _).alloc (Nat.le_refl _) _).alloc (by simp) _
  clear ha hb
  rcases chain2 (a.any == b.any) (a.no == b.no) with h1 | ⟨h1, h2⟩ | ⟨h1, h2⟩
  all_goals go_enter Tryz.func38, Tryz.ntmps38
  all_goals go_wp2_with (go_at_call 33; refine (exSames P _ _ _ _ _ _ _ (by assumption) (by assumption) (by first | assumption | ((repeat apply Sat.alloc); assumption))).mono ?_; rintro e w' ⟨rfl, hb'⟩; have hc' := bcell hb'; have hB' := Below.then (by assumption) hb'; clear hb')
  all_goals go_ret
  all_goals exact ⟨by simp [Te.same, *], by assumption⟩

theorem teSames (P : Pers) (A1 A2 : Option Addr) (c1 c2 : Nat) (xs ys : List Te) (w : World) (h1 : Tes P A1 xs) (h2 : Tes P A2 ys) (hs : Sat P w) :
    Calls Tryz.prog 37 #[.slice A1 xs.length c1, .slice A2 ys.length c2, .func (.func 38) #[] #[]] w fun e w' => e = .returned (.bool (eqBy Te.same xs ys)) ∧ Below w.heap.size w w' :=
  eqFuncTe_calls P Te.same A1 A2 c1 c2 xs ys w h1 h2 hs (fun x y cx cy w' _ _ rx ry hs' => teSame P x y cx cy w' rx ry hs')

def Ru.same (a b : Ru) : Bool := eqBy Te.same a.ins b.ins && eqBy Ex.same a.out b.out
set_option maxHeartbeats 400000 in
theorem ruSame (P : Pers) (a b : Ru) (ca cb : List Value) (w : World) (ha : Ru.Rep P a ca) (hb : Ru.Rep P b cb) (hs : Sat P w) :
    Calls Tryz.prog 36 #[.agg ca.toArray, .agg cb.toArray] w fun e w' => e = .returned (.bool (Ru.same a b)) ∧ Below w.heap.size w w' := by
  obtain ⟨A0, c0, A1, c1, rfl, l0, r0, l1, r1⟩ := ha.open
  obtain ⟨B0, d0, B1, d1, rfl, m0, t0, m1, t1⟩ := hb.open
  have hB : Below w.heap.size w ((w.alloc (.cells #[.slice A0 a.ins.length c0, .slice A1 a.out.length c1] 65)).alloc (.cells #[.slice B0 b.ins.length d0, .slice B1 b.out.length d1] 65)) := ((Below.refl _ _).alloc (Nat.le_refl _) _).alloc (by simp) _
  clear ha hb
  cases h1 : eqBy Te.same a.ins b.ins
  all_goals go_enter Tryz.func36, Tryz.ntmps36
  all_goals go_wp2_with (first | (go_at_call 37; refine (teSames P _ _ _ _ _ _ _ (by assumption) (by assumption) (by first | assumption | ((repeat apply Sat.alloc); assumption))).mono ?_; rintro e w' ⟨rfl, hb'⟩; have hc' := bcell hb'; have hs' := Sat.below (by first | assumption | ((repeat apply Sat.alloc); assumption)) hb'; have hB' := Below.then (by assumption) hb'; clear hb') | (go_at_call 33; refine (exSames P _ _ _ _ _ _ _ (by assumption) (by assumption) (by assumption)).mono ?_; rintro e w' ⟨rfl, hb'⟩; have hB' := Below.then (by assumption) hb'; clear hb'))
  all_goals go_ret
  all_goals exact ⟨by simp [Ru.same, *], by assumption⟩
theorem ruSames (P : Pers) (A1 A2 : Option Addr) (c1 c2 : Nat) (xs ys : List Ru) (w : World) (h1 : Rus P A1 xs) (h2 : Rus P A2 ys) (hs : Sat P w) :
    Calls Tryz.prog 35 #[.slice A1 xs.length c1, .slice A2 ys.length c2, .func (.func 36) #[] #[]] w fun e w' => e = .returned (.bool (eqBy Ru.same xs ys)) ∧ Below w.heap.size w w' :=
  eqFuncRu_calls P Ru.same A1 A2 c1 c2 xs ys w h1 h2 hs (fun x y cx cy w' _ _ rx ry hs' => ruSame P x y cx cy w' rx ry hs')
end Go.Proofs.YtainigjbjfpoaaaGreatDoor

namespace Go.Proofs.YtainigjbjfpoaaaGreatDoor
open Go.RowKit

mutual
def Lo.same : Lo → Lo → Bool
  | ⟨k, e, pol, inp, out, ru, ns, l⟩, ⟨k', e', pol', inp', out', ru', ns', l'⟩ => (k == k') && decide (pol = pol') && Ex.same e e' && eqBy Ex.same inp inp' && strsEq out out' && strsEq ns ns' && eqBy Ru.same ru ru' && Lo.sames l l'
def Lo.sames : List Lo → List Lo → Bool
  | [], [] => true
  | x :: xs, y :: ys => Lo.same x y && Lo.sames xs ys
  | _, _ => false
end
theorem Lo.sames_eq : ∀ xs ys, Lo.sames xs ys = eqBy Lo.same xs ys
  | [], [] => rfl
  | [], _ :: _ => rfl
  | _ :: _, [] => rfl
  | x :: xs, y :: ys => by simp only [Lo.sames, eqBy, Lo.sames_eq xs ys]
theorem Lo.same_eq (a b : Lo) : Lo.same a b = ((a.k == b.k) && (a.pol.toList == b.pol.toList) && Ex.same a.e b.e && eqBy Ex.same a.inp b.inp && strsEq a.out b.out && strsEq a.ns b.ns && eqBy Ru.same a.ru b.ru && eqBy Lo.same a.l b.l) := by
  cases a; cases b
  simp only [Lo.same, Lo.sames_eq, toList_beq]
noncomputable def Lo.sz (x : Lo) : Nat := SizeOf.sizeOf x
theorem Lo.lt_of_mem {a x : Lo} (h : x ∈ a.l) : x.sz < a.sz := by
  have := List.sizeOf_lt_of_mem h
  cases a
  simp [Lo.sz] at this ⊢
  omega
/-- the expression in a logic's cells -/
theorem Lo.ex {P : Pers} {a : Lo} {A3 A4 : Option Addr} {c3 c4 : Nat} (h3 : a.e.ns.length ≤ c3) (r3 : Strs P A3 a.e.ns) (h4 : a.e.l.length ≤ c4) (r4 : Exs P A4 a.e.l) (z : a.e.s.size ≤ maxStr) (zk : inI64 a.e.k) : Ex.Rep P a.e [.int .i64 a.e.k, .string a.e.s, .slice A3 a.e.ns.length c3, .slice A4 a.e.l.length c4] := Ex.Rep.shut a.e h3 r3 h4 r4 z zk

set_option maxHeartbeats 2000000 in
set_option maxRecDepth 100000 in
theorem loSame_calls (P : Pers) : ∀ (n : Nat) (a b : Lo) (ca cb : List Value) (w : World), a.sz ≤ n → Lo.Rep P a ca → Lo.Rep P b cb → Sat P w →
    Calls Tryz.prog 14 #[.agg ca.toArray, .agg cb.toArray] w fun e w' => e = .returned (.bool (Lo.same a b)) ∧ Below w.heap.size w w' := by
  intro n
  induction n with
  | zero => intro a b ca cb w h; cases a; simp [Lo.sz] at h
  | succ n ih =>
    intro a b ca cb w hn ha hb hs
    obtain ⟨A3, c3, A4, c4, A6, c6, A7, c7, A8, c8, A9, c9, A10, c10, rfl, l3, r3, l4, r4, l6, r6, l7, r7, l8, r8, l9, r9, l10, r10, z2, _, _, zk2⟩ := ha.open
    obtain ⟨B3, d3, B4, d4, B6, d6, B7, d7, B8, d8, B9, d9, B10, d10, rfl, m3, t3, m4, t4, m6, t6, m7, t7, m8, t8, m9, t9, m10, t10, y2, _, _, yk2⟩ := hb.open
    have HL := As.mk (fun (w : World) (hs : Sat P w) => eqFuncLo_calls P Lo.same A10 B10 c10 d10 a.l b.l w r10 t10 hs (fun x y cx cy w' hx _ rx ry hs' => ih x y cx cy w' (by have := Lo.lt_of_mem hx; omega) rx ry hs'))
    have HQ := As.mk (Lo.same_eq a b)
    have ea := Lo.ex l3 r3 l4 r4 z2 zk2
    have eb := Lo.ex m3 t3 m4 t4 y2 yk2
    have hW : Below w.heap.size w ((w.alloc (.cells #[.int .i64 a.k, .int .i64 a.e.k, .string a.e.s, .slice A3 a.e.ns.length c3, .slice A4 a.e.l.length c4, .string a.pol, .slice A6 a.inp.length c6, .slice A7 a.out.length c7, .slice A8 a.ru.length c8, .slice A9 a.ns.length c9, .slice A10 a.l.length c10] 29)).alloc (.cells #[.int .i64 b.k, .int .i64 b.e.k, .string b.e.s, .slice B3 b.e.ns.length d3, .slice B4 b.e.l.length d4, .string b.pol, .slice B6 b.inp.length d6, .slice B7 b.out.length d7, .slice B8 b.ru.length d8, .slice B9 b.ns.length d9, .slice B10 b.l.length d10] 29)) := ((Below.refl _ _).alloc (Nat.le_refl _) _).alloc (by simp) _
    have HW := As.mk hW
    clear hW ih ha hb l3 l4 l6 l7 l8 l9 l10 m3 m4 m6 m7 m8 m9 m10 r10 t10
    rcases chain7 (a.k == b.k) (a.pol.toList == b.pol.toList) (Ex.same a.e b.e) (eqBy Ex.same a.inp b.inp) (strsEq a.out b.out) (strsEq a.ns b.ns) (eqBy Ru.same a.ru b.ru) with h1 | ⟨h1, h2⟩ | ⟨h1, h2, h3⟩ | ⟨h1, h2, h3, h4⟩ | ⟨h1, h2, h3, h4, h5⟩ | ⟨h1, h2, h3, h4, h5, h6⟩ | ⟨h1, h2, h3, h4, h5, h6, h7⟩ | ⟨h1, h2, h3, h4, h5, h6, h7⟩
    all_goals go_enter Tryz.func14, Tryz.ntmps14
    all_goals go_wp2_with (first | (go_at_call 32; refine (exSame P _ _ _ _ _ (by assumption) (by assumption) (by first | assumption | ((repeat apply Sat.alloc); assumption))).mono ?_; rintro e w' ⟨rfl, hb'⟩; have hs' := Sat.below (by first | assumption | ((repeat apply Sat.alloc); assumption)) hb'; have hB' := Below.then (by first | assumption | exact Below.refl _ _) hb'; have hc' := bcell hB'; clear hb') | (go_at_call 33; refine (exSames P _ _ _ _ _ _ _ (by assumption) (by assumption) (by assumption)).mono ?_; rintro e w' ⟨rfl, hb'⟩; have hs' := Sat.below (by assumption) hb'; have hB' := Below.then (by first | assumption | exact Below.refl _ _) hb'; have hc' := bcell hB'; clear hb') | (go_at_call 34; refine (equalStr_calls P _ _ _ _ _ _ _ (by assumption) (by assumption) (by assumption)).mono ?_; rintro e w' ⟨rfl, hb'⟩; have hs' := Sat.below (by assumption) hb'; have hB' := Below.then (by first | assumption | exact Below.refl _ _) hb'; have hc' := bcell hB'; clear hb') | (go_at_call 35; refine (ruSames P _ _ _ _ _ _ _ (by assumption) (by assumption) (by assumption)).mono ?_; rintro e w' ⟨rfl, hb'⟩; have hs' := Sat.below (by assumption) hb'; have hB' := Below.then (by first | assumption | exact Below.refl _ _) hb'; have hc' := bcell hB'; clear hb') | (go_at_call 39; refine (HL.out _ (by assumption)).mono ?_; rintro e w' ⟨rfl, hb'⟩; have hB' := Below.then (by assumption) hb'; clear hb'))
    all_goals go_ret
    all_goals exact ⟨by rw [HQ.out]; simp [*], by first | assumption | exact HW.out | exact Below.then HW.out (by assumption)⟩
theorem loSame (P : Pers) (a b : Lo) (ca cb : List Value) (w : World) (ha : Lo.Rep P a ca) (hb : Lo.Rep P b cb) (hs : Sat P w) :
    Calls Tryz.prog 14 #[.agg ca.toArray, .agg cb.toArray] w fun e w' => e = .returned (.bool (Lo.same a b)) ∧ Below w.heap.size w w' := loSame_calls P a.sz a b ca cb w (Nat.le_refl _) ha hb hs
end Go.Proofs.YtainigjbjfpoaaaGreatDoor
