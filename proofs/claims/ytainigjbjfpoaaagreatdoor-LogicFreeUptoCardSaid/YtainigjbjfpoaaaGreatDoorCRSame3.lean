/- tipstaveref15.Same. Printed by wip/tools/gen_ref15same.py (own tool). -/
/- tipstavelaw15.Great. -/
import Derived.Test.YtainigjbjfpoaaaGreatDoorCRSame
namespace Go.Proofs.YtainigjbjfpoaaaGreatDoor
open Go.RowKit Go.Shelf Go.Maps

set_option maxRecDepth 100000 in
set_option maxHeartbeats 16000000 in
theorem rloSame_calls (P : Pers) : ∀ (m : Nat) (a b : Lo) (ca cb : List Value) (w : World), a.sz ≤ m → Lo.Rep P a ca → Lo.Rep P b cb → Sat P w →
    Calls Tryz.prog 15 #[.agg ca.toArray, .agg cb.toArray] w fun e w' => e = .returned (.bool (Lo.same a b)) ∧ Below w.heap.size w w' := by
  intro m
  induction m with
  | zero => intro a b ca cb w h; cases a; simp [Lo.sz] at h
  | succ m ih =>
    intro a b ca cb w hn ha hb hs
    have IH := As.mk (fun (x : Lo) (hx : x ∈ a.l) (y : Lo) cx cy w => ih x y cx cy w (by have := Lo.lt_of_mem hx; omega))
    obtain ⟨A3, c3, A4, c4, A6, c6, A7, c7, A8, c8, A9, c9, A10, c10, rfl, l3, r3, l4, r4, l6, r6, l7, r7, l8, r8, l9, r9, l10, r10, z2, z5, zk, zk2⟩ := ha.open
    obtain ⟨B3, d3, B4, d4, B6, d6, B7, d7, B8, d8, B9, d9, B10, d10, rfl, m3, t3, m4, t4, m6, t6, m7, t7, m8, t8, m9, t9, m10, t10, y2, y5, yk, yk2⟩ := hb.open
    have HQ := As.mk (Lo.same_eq a b)
    have HB : As (Below w.heap.size w ((w.alloc (.cells #[.int .i64 a.k, .int .i64 a.e.k, .string a.e.s, .slice A3 a.e.ns.length c3, .slice A4 a.e.l.length c4, .string a.pol, .slice A6 a.inp.length c6, .slice A7 a.out.length c7, .slice A8 a.ru.length c8, .slice A9 a.ns.length c9, .slice A10 a.l.length c10] 29)).alloc (.cells #[.int .i64 b.k, .int .i64 b.e.k, .string b.e.s, .slice B3 b.e.ns.length d3, .slice B4 b.e.l.length d4, .string b.pol, .slice B6 b.inp.length d6, .slice B7 b.out.length d7, .slice B8 b.ru.length d8, .slice B9 b.ns.length d9, .slice B10 b.l.length d10] 29))) := ⟨((Below.refl _ _).alloc (Nat.le_refl _) _).alloc (by simp) _⟩
    have HS : As (Sat P ((w.alloc (.cells #[.int .i64 a.k, .int .i64 a.e.k, .string a.e.s, .slice A3 a.e.ns.length c3, .slice A4 a.e.l.length c4, .string a.pol, .slice A6 a.inp.length c6, .slice A7 a.out.length c7, .slice A8 a.ru.length c8, .slice A9 a.ns.length c9, .slice A10 a.l.length c10] 29)).alloc (.cells #[.int .i64 b.k, .int .i64 b.e.k, .string b.e.s, .slice B3 b.e.ns.length d3, .slice B4 b.e.l.length d4, .string b.pol, .slice B6 b.inp.length d6, .slice B7 b.out.length d7, .slice B8 b.ru.length d8, .slice B9 b.ns.length d9, .slice B10 b.l.length d10] 29))) := ⟨(hs.alloc _).alloc _⟩
    have HC1 := As.mk (fun W hs => rsame_calls P _ a.e b.e _ _ W (Nat.le_refl _) (Lo.ex l3 r3 l4 r4 z2 zk2) (Lo.ex m3 t3 m4 t4 y2 yk2) hs)
    have HC2 := As.mk (fun W hs => rsame_calls P _ ⟨0, ⟨#[]⟩, [], a.inp⟩ ⟨0, ⟨#[]⟩, [], b.inp⟩ _ _ W (Nat.le_refl _) (bareEx_rep l6 r6) (bareEx_rep m6 t6) hs)
    rw [same_bare] at HC2
    have HC3 := As.mk (fun W hs => texts15_calls P A7 B7 c7 d7 a.out b.out W r7 t7 hs)
    have HC4 := As.mk (fun W hs => texts15_calls P A9 B9 c9 d9 a.ns b.ns W r9 t9 hs)
    have HC5 := As.mk (fun W hs => sameRules_calls P A8 B8 c8 d8 a.ru b.ru W r8 t8 hs)
    have HRA := As.mk r10
    have HRB := As.mk t10
    have hla := r10.len
    have hlb := t10.len
    have KA : As (((w.alloc (.cells #[.int .i64 a.k, .int .i64 a.e.k, .string a.e.s, .slice A3 a.e.ns.length c3, .slice A4 a.e.l.length c4, .string a.pol, .slice A6 a.inp.length c6, .slice A7 a.out.length c7, .slice A8 a.ru.length c8, .slice A9 a.ns.length c9, .slice A10 a.l.length c10] 29)).alloc (.cells #[.int .i64 b.k, .int .i64 b.e.k, .string b.e.s, .slice B3 b.e.ns.length d3, .slice B4 b.e.l.length d4, .string b.pol, .slice B6 b.inp.length d6, .slice B7 b.out.length d7, .slice B8 b.ru.length d8, .slice B9 b.ns.length d9, .slice B10 b.l.length d10] 29)).cell? ⟨w.heap.size, 10, none⟩ = some (.slice A10 a.l.length c10)) := ⟨cell_first w _ _ _ 10⟩
    have KB : As (((w.alloc (.cells #[.int .i64 a.k, .int .i64 a.e.k, .string a.e.s, .slice A3 a.e.ns.length c3, .slice A4 a.e.l.length c4, .string a.pol, .slice A6 a.inp.length c6, .slice A7 a.out.length c7, .slice A8 a.ru.length c8, .slice A9 a.ns.length c9, .slice A10 a.l.length c10] 29)).alloc (.cells #[.int .i64 b.k, .int .i64 b.e.k, .string b.e.s, .slice B3 b.e.ns.length d3, .slice B4 b.e.l.length d4, .string b.pol, .slice B6 b.inp.length d6, .slice B7 b.out.length d7, .slice B8 b.ru.length d8, .slice B9 b.ns.length d9, .slice B10 b.l.length d10] 29)).cell? ⟨w.heap.size + 1, 10, none⟩ = some (.slice B10 b.l.length d10)) := ⟨by
      rw [show w.heap.size + 1 = (w.alloc (.cells #[.int .i64 a.k, .int .i64 a.e.k, .string a.e.s, .slice A3 a.e.ns.length c3, .slice A4 a.e.l.length c4, .string a.pol, .slice A6 a.inp.length c6, .slice A7 a.out.length c7, .slice A8 a.ru.length c8, .slice A9 a.ns.length c9, .slice A10 a.l.length c10] 29)).heap.size by simp]
      exact World.cell?_alloc_mark ..⟩
    clear ha hb hs ih r3 r4 r6 r7 r8 r9 r10 t3 t4 t6 t7 t8 t9 t10 zk zk2 yk yk2 z2 z5 y2 y5
    cases q0 : (a.k == b.k)
    · have h0 : (a.k != b.k) = true := by rw [bne, q0]; rfl
      have HF := As.mk (show Lo.same a b = false by rw [HQ.out, q0]; simp)
      clear HQ q0
      go_enter Tryz.func15, Tryz.ntmps15
      go_wp2_with (first
        | (go_at_call 40; first
            | (with_reducible refine (HC1.out _ ?_).mono ?_; (first | assumption | exact HS.out); rintro e w' ⟨rfl, hb'⟩; have hs' := Sat.below (by first | assumption | exact HS.out) hb'; have hB' := Below.then (by first | assumption | exact Below.refl _ _) hb'; have hc' := bcell hB'; clear hb')
            | (with_reducible refine (HC2.out _ ?_).mono ?_; (first | assumption | exact HS.out); rintro e w' ⟨rfl, hb'⟩; have hs' := Sat.below (by first | assumption | exact HS.out) hb'; have hB' := Below.then (by first | assumption | exact Below.refl _ _) hb'; have hc' := bcell hB'; clear hb'))
        | (go_at_call 41; first
            | (with_reducible refine (HC3.out _ ?_).mono ?_; (first | assumption | exact HS.out); rintro e w' ⟨rfl, hb'⟩; have hs' := Sat.below (by first | assumption | exact HS.out) hb'; have hB' := Below.then (by first | assumption | exact Below.refl _ _) hb'; have hc' := bcell hB'; clear hb')
            | (with_reducible refine (HC4.out _ ?_).mono ?_; (first | assumption | exact HS.out); rintro e w' ⟨rfl, hb'⟩; have hs' := Sat.below (by first | assumption | exact HS.out) hb'; have hB' := Below.then (by first | assumption | exact Below.refl _ _) hb'; have hc' := bcell hB'; clear hb'))
        | (go_at_call 42; with_reducible refine (HC5.out _ ?_).mono ?_; (first | assumption | exact HS.out); rintro e w' ⟨rfl, hb'⟩; have hs' := Sat.below (by first | assumption | exact HS.out) hb'; have hB' := Below.then (by first | assumption | exact Below.refl _ _) hb'; have hc' := bcell hB'; clear hb'))
      go_ret
      exact ⟨by rw [HF.out]; rfl, by first | exact HB.out | exact Below.then HB.out (by assumption)⟩
    · have h0 : (a.k != b.k) = false := by rw [bne, q0]; rfl
      cases q1 : (a.pol.toList == b.pol.toList)
      · have h1 : (!(a.pol.toList == b.pol.toList)) = true := by rw [q1]; rfl
        have HF := As.mk (show Lo.same a b = false by rw [HQ.out, q1]; simp)
        clear HQ q0 q1
        go_enter Tryz.func15, Tryz.ntmps15
        go_wp2_with (first
          | (go_at_call 40; first
              | (with_reducible refine (HC1.out _ ?_).mono ?_; (first | assumption | exact HS.out); rintro e w' ⟨rfl, hb'⟩; have hs' := Sat.below (by first | assumption | exact HS.out) hb'; have hB' := Below.then (by first | assumption | exact Below.refl _ _) hb'; have hc' := bcell hB'; clear hb')
              | (with_reducible refine (HC2.out _ ?_).mono ?_; (first | assumption | exact HS.out); rintro e w' ⟨rfl, hb'⟩; have hs' := Sat.below (by first | assumption | exact HS.out) hb'; have hB' := Below.then (by first | assumption | exact Below.refl _ _) hb'; have hc' := bcell hB'; clear hb'))
          | (go_at_call 41; first
              | (with_reducible refine (HC3.out _ ?_).mono ?_; (first | assumption | exact HS.out); rintro e w' ⟨rfl, hb'⟩; have hs' := Sat.below (by first | assumption | exact HS.out) hb'; have hB' := Below.then (by first | assumption | exact Below.refl _ _) hb'; have hc' := bcell hB'; clear hb')
              | (with_reducible refine (HC4.out _ ?_).mono ?_; (first | assumption | exact HS.out); rintro e w' ⟨rfl, hb'⟩; have hs' := Sat.below (by first | assumption | exact HS.out) hb'; have hB' := Below.then (by first | assumption | exact Below.refl _ _) hb'; have hc' := bcell hB'; clear hb'))
          | (go_at_call 42; with_reducible refine (HC5.out _ ?_).mono ?_; (first | assumption | exact HS.out); rintro e w' ⟨rfl, hb'⟩; have hs' := Sat.below (by first | assumption | exact HS.out) hb'; have hB' := Below.then (by first | assumption | exact Below.refl _ _) hb'; have hc' := bcell hB'; clear hb'))
        go_ret
        exact ⟨by rw [HF.out]; rfl, by first | exact HB.out | exact Below.then HB.out (by assumption)⟩
      · have h1 : (!(a.pol.toList == b.pol.toList)) = false := by rw [q1]; rfl
        by_cases q2 : a.l.length = b.l.length
        · have h2 : ((a.l.length : Int) != (b.l.length : Int)) = false := by simp [q2]
          cases q3 : Ex.same a.e b.e
          · have HF := As.mk (show Lo.same a b = false by rw [HQ.out, q3]; simp)
            rw [q3] at HC1
            clear HQ q0 q1 q2 q3
            go_enter Tryz.func15, Tryz.ntmps15
            go_wp2_with (first
              | (go_at_call 40; first
                  | (with_reducible refine (HC1.out _ ?_).mono ?_; (first | assumption | exact HS.out); rintro e w' ⟨rfl, hb'⟩; have hs' := Sat.below (by first | assumption | exact HS.out) hb'; have hB' := Below.then (by first | assumption | exact Below.refl _ _) hb'; have hc' := bcell hB'; clear hb')
                  | (with_reducible refine (HC2.out _ ?_).mono ?_; (first | assumption | exact HS.out); rintro e w' ⟨rfl, hb'⟩; have hs' := Sat.below (by first | assumption | exact HS.out) hb'; have hB' := Below.then (by first | assumption | exact Below.refl _ _) hb'; have hc' := bcell hB'; clear hb'))
              | (go_at_call 41; first
                  | (with_reducible refine (HC3.out _ ?_).mono ?_; (first | assumption | exact HS.out); rintro e w' ⟨rfl, hb'⟩; have hs' := Sat.below (by first | assumption | exact HS.out) hb'; have hB' := Below.then (by first | assumption | exact Below.refl _ _) hb'; have hc' := bcell hB'; clear hb')
                  | (with_reducible refine (HC4.out _ ?_).mono ?_; (first | assumption | exact HS.out); rintro e w' ⟨rfl, hb'⟩; have hs' := Sat.below (by first | assumption | exact HS.out) hb'; have hB' := Below.then (by first | assumption | exact Below.refl _ _) hb'; have hc' := bcell hB'; clear hb'))
              | (go_at_call 42; with_reducible refine (HC5.out _ ?_).mono ?_; (first | assumption | exact HS.out); rintro e w' ⟨rfl, hb'⟩; have hs' := Sat.below (by first | assumption | exact HS.out) hb'; have hB' := Below.then (by first | assumption | exact Below.refl _ _) hb'; have hc' := bcell hB'; clear hb'))
            go_ret
            exact ⟨by rw [HF.out]; rfl, by first | exact HB.out | exact Below.then HB.out (by assumption)⟩
          · skip
            cases q4 : eqBy Ex.same a.inp b.inp
            · have HF := As.mk (show Lo.same a b = false by rw [HQ.out, q4]; simp)
              rw [q3] at HC1
              rw [q4] at HC2
              clear HQ q0 q1 q2 q3 q4
              go_enter Tryz.func15, Tryz.ntmps15
              go_wp2_with (first
                | (go_at_call 40; first
                    | (with_reducible refine (HC1.out _ ?_).mono ?_; (first | assumption | exact HS.out); rintro e w' ⟨rfl, hb'⟩; have hs' := Sat.below (by first | assumption | exact HS.out) hb'; have hB' := Below.then (by first | assumption | exact Below.refl _ _) hb'; have hc' := bcell hB'; clear hb')
                    | (with_reducible refine (HC2.out _ ?_).mono ?_; (first | assumption | exact HS.out); rintro e w' ⟨rfl, hb'⟩; have hs' := Sat.below (by first | assumption | exact HS.out) hb'; have hB' := Below.then (by first | assumption | exact Below.refl _ _) hb'; have hc' := bcell hB'; clear hb'))
                | (go_at_call 41; first
                    | (with_reducible refine (HC3.out _ ?_).mono ?_; (first | assumption | exact HS.out); rintro e w' ⟨rfl, hb'⟩; have hs' := Sat.below (by first | assumption | exact HS.out) hb'; have hB' := Below.then (by first | assumption | exact Below.refl _ _) hb'; have hc' := bcell hB'; clear hb')
                    | (with_reducible refine (HC4.out _ ?_).mono ?_; (first | assumption | exact HS.out); rintro e w' ⟨rfl, hb'⟩; have hs' := Sat.below (by first | assumption | exact HS.out) hb'; have hB' := Below.then (by first | assumption | exact Below.refl _ _) hb'; have hc' := bcell hB'; clear hb'))
                | (go_at_call 42; with_reducible refine (HC5.out _ ?_).mono ?_; (first | assumption | exact HS.out); rintro e w' ⟨rfl, hb'⟩; have hs' := Sat.below (by first | assumption | exact HS.out) hb'; have hB' := Below.then (by first | assumption | exact Below.refl _ _) hb'; have hc' := bcell hB'; clear hb'))
              go_ret
              exact ⟨by rw [HF.out]; rfl, by first | exact HB.out | exact Below.then HB.out (by assumption)⟩
            · skip
              cases q5 : strsEq a.out b.out
              · have HF := As.mk (show Lo.same a b = false by rw [HQ.out, q5]; simp)
                rw [q3] at HC1
                rw [q4] at HC2
                rw [q5] at HC3
                clear HQ q0 q1 q2 q3 q4 q5
                go_enter Tryz.func15, Tryz.ntmps15
                go_wp2_with (first
                  | (go_at_call 40; first
                      | (with_reducible refine (HC1.out _ ?_).mono ?_; (first | assumption | exact HS.out); rintro e w' ⟨rfl, hb'⟩; have hs' := Sat.below (by first | assumption | exact HS.out) hb'; have hB' := Below.then (by first | assumption | exact Below.refl _ _) hb'; have hc' := bcell hB'; clear hb')
                      | (with_reducible refine (HC2.out _ ?_).mono ?_; (first | assumption | exact HS.out); rintro e w' ⟨rfl, hb'⟩; have hs' := Sat.below (by first | assumption | exact HS.out) hb'; have hB' := Below.then (by first | assumption | exact Below.refl _ _) hb'; have hc' := bcell hB'; clear hb'))
                  | (go_at_call 41; first
                      | (with_reducible refine (HC3.out _ ?_).mono ?_; (first | assumption | exact HS.out); rintro e w' ⟨rfl, hb'⟩; have hs' := Sat.below (by first | assumption | exact HS.out) hb'; have hB' := Below.then (by first | assumption | exact Below.refl _ _) hb'; have hc' := bcell hB'; clear hb')
                      | (with_reducible refine (HC4.out _ ?_).mono ?_; (first | assumption | exact HS.out); rintro e w' ⟨rfl, hb'⟩; have hs' := Sat.below (by first | assumption | exact HS.out) hb'; have hB' := Below.then (by first | assumption | exact Below.refl _ _) hb'; have hc' := bcell hB'; clear hb'))
                  | (go_at_call 42; with_reducible refine (HC5.out _ ?_).mono ?_; (first | assumption | exact HS.out); rintro e w' ⟨rfl, hb'⟩; have hs' := Sat.below (by first | assumption | exact HS.out) hb'; have hB' := Below.then (by first | assumption | exact Below.refl _ _) hb'; have hc' := bcell hB'; clear hb'))
                go_ret
                exact ⟨by rw [HF.out]; rfl, by first | exact HB.out | exact Below.then HB.out (by assumption)⟩
              · skip
                cases q6 : strsEq a.ns b.ns
                · have HF := As.mk (show Lo.same a b = false by rw [HQ.out, q6]; simp)
                  rw [q3] at HC1
                  rw [q4] at HC2
                  rw [q5] at HC3
                  rw [q6] at HC4
                  clear HQ q0 q1 q2 q3 q4 q5 q6
                  go_enter Tryz.func15, Tryz.ntmps15
                  go_wp2_with (first
                    | (go_at_call 40; first
                        | (with_reducible refine (HC1.out _ ?_).mono ?_; (first | assumption | exact HS.out); rintro e w' ⟨rfl, hb'⟩; have hs' := Sat.below (by first | assumption | exact HS.out) hb'; have hB' := Below.then (by first | assumption | exact Below.refl _ _) hb'; have hc' := bcell hB'; clear hb')
                        | (with_reducible refine (HC2.out _ ?_).mono ?_; (first | assumption | exact HS.out); rintro e w' ⟨rfl, hb'⟩; have hs' := Sat.below (by first | assumption | exact HS.out) hb'; have hB' := Below.then (by first | assumption | exact Below.refl _ _) hb'; have hc' := bcell hB'; clear hb'))
                    | (go_at_call 41; first
                        | (with_reducible refine (HC3.out _ ?_).mono ?_; (first | assumption | exact HS.out); rintro e w' ⟨rfl, hb'⟩; have hs' := Sat.below (by first | assumption | exact HS.out) hb'; have hB' := Below.then (by first | assumption | exact Below.refl _ _) hb'; have hc' := bcell hB'; clear hb')
                        | (with_reducible refine (HC4.out _ ?_).mono ?_; (first | assumption | exact HS.out); rintro e w' ⟨rfl, hb'⟩; have hs' := Sat.below (by first | assumption | exact HS.out) hb'; have hB' := Below.then (by first | assumption | exact Below.refl _ _) hb'; have hc' := bcell hB'; clear hb'))
                    | (go_at_call 42; with_reducible refine (HC5.out _ ?_).mono ?_; (first | assumption | exact HS.out); rintro e w' ⟨rfl, hb'⟩; have hs' := Sat.below (by first | assumption | exact HS.out) hb'; have hB' := Below.then (by first | assumption | exact Below.refl _ _) hb'; have hc' := bcell hB'; clear hb'))
                  go_ret
                  exact ⟨by rw [HF.out]; rfl, by first | exact HB.out | exact Below.then HB.out (by assumption)⟩
                · skip
                  cases q7 : eqBy Ru.same a.ru b.ru
                  · have HF := As.mk (show Lo.same a b = false by rw [HQ.out, q7]; simp)
                    rw [q3] at HC1
                    rw [q4] at HC2
                    rw [q5] at HC3
                    rw [q6] at HC4
                    rw [q7] at HC5
                    clear HQ q0 q1 q2 q3 q4 q5 q6 q7
                    go_enter Tryz.func15, Tryz.ntmps15
                    go_wp2_with (first
                      | (go_at_call 40; first
                          | (with_reducible refine (HC1.out _ ?_).mono ?_; (first | assumption | exact HS.out); rintro e w' ⟨rfl, hb'⟩; have hs' := Sat.below (by first | assumption | exact HS.out) hb'; have hB' := Below.then (by first | assumption | exact Below.refl _ _) hb'; have hc' := bcell hB'; clear hb')
                          | (with_reducible refine (HC2.out _ ?_).mono ?_; (first | assumption | exact HS.out); rintro e w' ⟨rfl, hb'⟩; have hs' := Sat.below (by first | assumption | exact HS.out) hb'; have hB' := Below.then (by first | assumption | exact Below.refl _ _) hb'; have hc' := bcell hB'; clear hb'))
                      | (go_at_call 41; first
                          | (with_reducible refine (HC3.out _ ?_).mono ?_; (first | assumption | exact HS.out); rintro e w' ⟨rfl, hb'⟩; have hs' := Sat.below (by first | assumption | exact HS.out) hb'; have hB' := Below.then (by first | assumption | exact Below.refl _ _) hb'; have hc' := bcell hB'; clear hb')
                          | (with_reducible refine (HC4.out _ ?_).mono ?_; (first | assumption | exact HS.out); rintro e w' ⟨rfl, hb'⟩; have hs' := Sat.below (by first | assumption | exact HS.out) hb'; have hB' := Below.then (by first | assumption | exact Below.refl _ _) hb'; have hc' := bcell hB'; clear hb'))
                      | (go_at_call 42; with_reducible refine (HC5.out _ ?_).mono ?_; (first | assumption | exact HS.out); rintro e w' ⟨rfl, hb'⟩; have hs' := Sat.below (by first | assumption | exact HS.out) hb'; have hB' := Below.then (by first | assumption | exact Below.refl _ _) hb'; have hc' := bcell hB'; clear hb'))
                    go_ret
                    exact ⟨by rw [HF.out]; rfl, by first | exact HB.out | exact Below.then HB.out (by assumption)⟩
                  · skip
                    have HSE := As.mk (show Lo.same a b = eqBy Lo.same a.l b.l by rw [HQ.out, q0, q1, q3, q4, q5, q6, q7]; rfl)
                    have HL2 := As.mk q2
                    rw [q3] at HC1
                    rw [q4] at HC2
                    rw [q5] at HC3
                    rw [q6] at HC4
                    rw [q7] at HC5
                    clear HQ q0 q1 q2 q3 q4 q5 q6 q7
                    go_enter Tryz.func15, Tryz.ntmps15
                    go_wp2_with (first
                      | (go_at_call 40; first
                          | (with_reducible refine (HC1.out _ ?_).mono ?_; (first | assumption | exact HS.out); rintro e w' ⟨rfl, hb'⟩; have hs' := Sat.below (by first | assumption | exact HS.out) hb'; have hB' := Below.then (by first | assumption | exact Below.refl _ _) hb'; have hc' := bcell hB'; clear hb')
                          | (with_reducible refine (HC2.out _ ?_).mono ?_; (first | assumption | exact HS.out); rintro e w' ⟨rfl, hb'⟩; have hs' := Sat.below (by first | assumption | exact HS.out) hb'; have hB' := Below.then (by first | assumption | exact Below.refl _ _) hb'; have hc' := bcell hB'; clear hb'))
                      | (go_at_call 41; first
                          | (with_reducible refine (HC3.out _ ?_).mono ?_; (first | assumption | exact HS.out); rintro e w' ⟨rfl, hb'⟩; have hs' := Sat.below (by first | assumption | exact HS.out) hb'; have hB' := Below.then (by first | assumption | exact Below.refl _ _) hb'; have hc' := bcell hB'; clear hb')
                          | (with_reducible refine (HC4.out _ ?_).mono ?_; (first | assumption | exact HS.out); rintro e w' ⟨rfl, hb'⟩; have hs' := Sat.below (by first | assumption | exact HS.out) hb'; have hB' := Below.then (by first | assumption | exact Below.refl _ _) hb'; have hc' := bcell hB'; clear hb'))
                      | (go_at_call 42; with_reducible refine (HC5.out _ ?_).mono ?_; (first | assumption | exact HS.out); rintro e w' ⟨rfl, hb'⟩; have hs' := Sat.below (by first | assumption | exact HS.out) hb'; have hB' := Below.then (by first | assumption | exact Below.refl _ _) hb'; have hc' := bcell hB'; clear hb'))
                    have hBz := hB'
                    have hA3 := (bcell hBz _ _ (by simp; omega)).trans KA.out
                    have hB3 := (bcell hBz _ _ (by simp)).trans KB.out
                    have HBn := As.mk (Below.then HB.out hBz)
                    have HSn := As.mk (HS.out.below hBz)
                    go_loopw [5] (fun i wr => ∃ k : Nat, k ≤ a.l.length ∧ i = .int .i64 k ∧ wr.cell? ⟨w.heap.size, 10, none⟩ = some (.slice A10 a.l.length c10) ∧ wr.cell? ⟨w.heap.size + 1, 10, none⟩ = some (.slice B10 b.l.length d10) ∧ As (Below w.heap.size w wr) ∧ As (Sat P wr) ∧ As (∀ j x y, j < k → a.l[j]? = some x → b.l[j]? = some y → Lo.same x y = true)) (fun i _ => a.l.length - (intOf i).toNat)
                    case atStart => exact ⟨0, Nat.zero_le _, rfl, hA3, hB3, HBn, HSn, As.mk (fun j x y h => absurd h (Nat.not_lt_zero _))⟩
                    case round =>
                      clear hA3 hB3 HBn HSn
                      obtain ⟨k, hk, rfl, hA3, hB3, hBr, hSr, hall⟩ := hrel
                      by_cases hlt : k < a.l.length
                      · obtain ⟨x, hx⟩ : ∃ x, As (a.l[k]? = some x) := ⟨_, ⟨List.getElem?_eq_getElem hlt⟩⟩
                        obtain ⟨y, hy⟩ : ∃ y, As (b.l[k]? = some y) := ⟨_, ⟨List.getElem?_eq_getElem (HL2.out ▸ hlt)⟩⟩
                        have hlt2 : k < b.l.length := HL2.out ▸ hlt
                        have hz1 : (k : Int) < (a.l.length : Int) := by omega
                        have hz2 : (k : Int) < (b.l.length : Int) := by omega
                        obtain ⟨be, oe, E3, u3, E4, u4, E6, u6, E7, u7, E8, u8, E9, u9, E10, u10, rfl, hbe, hrx, e0, e1, e2, e3, e4, e5, e6, e7, e8, e9, e10⟩ := HRA.out.at hSr.out (i := k) (x := x) hx.out
                        obtain ⟨bg, og, G3, v3, G4, v4, G6, v6, G7, v7, G8, v8, G9, v9, G10, v10, rfl, hbg, hry, j0, j1, j2, j3, j4, j5, j6, j7, j8, j9, j10⟩ := HRB.out.at hSr.out (i := k) (x := y) hy.out
                        have IY := As.mk (IH.out x (List.mem_of_getElem? hx.out) y _ _ wr.drew hrx hry (hSr.out.drew))
                        have hzA := cell_block hA3
                        have hzB := cell_block hB3
                        clear hrx hry
                        cases hs : Lo.same x y
                        · rw [hs] at IY
                          have HF := As.mk (show Lo.same a b = false by rw [Lo.same_eq, eqBy_false hx.out hy.out hs, Bool.and_false])
                          clear hs
                          go_wp2_with fail
                          refine wp_region_still_tail 10 (by kernel_rfl) (by kernel_rfl) ?_
                          change wpStill _ _ (World.drew _) (fun a' => wpList _ _ _ _ a' (World.drew _)) _ _
                          simp only [List.take_succ_cons, List.take_zero, List.drop_succ_cons, List.drop_zero]
                          repeat still_step
                          refine wpStill_nil ?_
                          go_wp2_with (go_at_call 15; refine IY.out.mono ?_; rintro e w3 ⟨rfl, hb3⟩)
                          go_ret
                          exact ⟨by rw [HF.out]; rfl, hBr.out.trans ((pw_below_drewN' (Below.refl _ _) 1).trans (hb3.mono hBr.out.size))⟩
                        · rw [hs] at IY
                          have HT := As.mk hs
                          clear hs
                          go_wp2_with fail
                          refine wp_region_still_tail 10 (by kernel_rfl) (by kernel_rfl) ?_
                          change wpStill _ _ (World.drew _) (fun a' => wpList _ _ _ _ a' (World.drew _)) _ _
                          simp only [List.take_succ_cons, List.take_zero, List.drop_succ_cons, List.drop_zero]
                          repeat still_step
                          refine wpStill_nil ?_
                          go_wp2_with (go_at_call 15; refine IY.out.mono ?_; rintro e w3 ⟨rfl, hb3⟩; have hb4 := As.mk ((pw_below_drewN' (Below.refl wr.heap.size wr) 1).trans hb3); have n3 := (bcell hb4.out _ _ hzA).trans hA3; have m3 := (bcell hb4.out _ _ hzB).trans hB3; clear hb3)
                          go_roundw
                          case rel => exact ⟨k + 1, by omega, by go_num, n3, m3, ⟨hBr.out.trans (hb4.out.mono hBr.out.size)⟩, ⟨hSr.out.below hb4.out⟩, As.mk (fun j x' y' hj hx' hy' => by
                            by_cases hjk : j = k
                            · subst hjk
                              rw [hx.out] at hx'
                              rw [hy.out] at hy'
                              cases hx'
                              cases hy'
                              exact HT.out
                            · exact hall.out j x' y' (by omega) hx' hy')⟩
                          case measure => simp [intOf]; omega
                      · obtain rfl : k = a.l.length := by omega
                        have HT := As.mk (show Lo.same a b = true by rw [HSE.out, eqBy_true HL2.out hall.out])
                        go_wp2_with fail
                        go_ret
                        exact ⟨by rw [HT.out]; rfl, hBr.out⟩
        · have h2 : ((a.l.length : Int) != (b.l.length : Int)) = true := by rw [bne_iff_ne]; omega
          have HF := As.mk (show Lo.same a b = false by rw [HQ.out, eqBy_len q2, Bool.and_false])
          clear HQ q0 q1 q2
          go_enter Tryz.func15, Tryz.ntmps15
          go_wp2_with (first
            | (go_at_call 40; first
                | (with_reducible refine (HC1.out _ ?_).mono ?_; (first | assumption | exact HS.out); rintro e w' ⟨rfl, hb'⟩; have hs' := Sat.below (by first | assumption | exact HS.out) hb'; have hB' := Below.then (by first | assumption | exact Below.refl _ _) hb'; have hc' := bcell hB'; clear hb')
                | (with_reducible refine (HC2.out _ ?_).mono ?_; (first | assumption | exact HS.out); rintro e w' ⟨rfl, hb'⟩; have hs' := Sat.below (by first | assumption | exact HS.out) hb'; have hB' := Below.then (by first | assumption | exact Below.refl _ _) hb'; have hc' := bcell hB'; clear hb'))
            | (go_at_call 41; first
                | (with_reducible refine (HC3.out _ ?_).mono ?_; (first | assumption | exact HS.out); rintro e w' ⟨rfl, hb'⟩; have hs' := Sat.below (by first | assumption | exact HS.out) hb'; have hB' := Below.then (by first | assumption | exact Below.refl _ _) hb'; have hc' := bcell hB'; clear hb')
                | (with_reducible refine (HC4.out _ ?_).mono ?_; (first | assumption | exact HS.out); rintro e w' ⟨rfl, hb'⟩; have hs' := Sat.below (by first | assumption | exact HS.out) hb'; have hB' := Below.then (by first | assumption | exact Below.refl _ _) hb'; have hc' := bcell hB'; clear hb'))
            | (go_at_call 42; with_reducible refine (HC5.out _ ?_).mono ?_; (first | assumption | exact HS.out); rintro e w' ⟨rfl, hb'⟩; have hs' := Sat.below (by first | assumption | exact HS.out) hb'; have hB' := Below.then (by first | assumption | exact Below.refl _ _) hb'; have hc' := bcell hB'; clear hb'))
          go_ret
          exact ⟨by rw [HF.out]; rfl, by first | exact HB.out | exact Below.then HB.out (by assumption)⟩
end Go.Proofs.YtainigjbjfpoaaaGreatDoor

namespace Go.Proofs.YtainigjbjfpoaaaGreatDoor
open Go.RowKit Go.Shelf Go.Maps

set_option maxRecDepth 100000 in
set_option maxHeartbeats 4000000 in
theorem great_calls (P : Pers) (A : Option Addr) (c : Nat) (xs : List Lo) (w : World) (h : Los P A xs) (hs : Sat P w) (hw : ∀ x ∈ xs, x.wt ≤ 549755813888) :
    Calls Tryz.prog 8 #[.slice A xs.length c] w fun e w' => ((e = .returned (.int .i64 1)) ∨ (e = .returned (.int .i64 0) ∧ ∀ x ∈ xs, x.wt ≤ 5000)) ∧ Below w.heap.size w w' := by
  have HR := As.mk h
  have HS := As.mk hs
  have HW := As.mk hw
  have hlen := h.len
  clear h hs hw
  go_enter Tryz.func8, Tryz.ntmps8
  go_wp2
  go_loopw [7] (fun i wr => ∃ k : Nat, i = .int .i64 k ∧ k ≤ xs.length ∧ As (Below w.heap.size w wr) ∧ As (Sat P wr) ∧ As (∀ x ∈ xs.take k, x.wt ≤ 5000)) (fun i _ => xs.length - (intOf i).toNat)
  case atStart => exact ⟨0, rfl, Nat.zero_le _, ⟨Below.refl _ _⟩, HS, ⟨fun x h => by simp at h⟩⟩
  case round =>
    obtain ⟨k, rfl, hk, hB, hS, hA⟩ := hrel
    by_cases hlt : k < xs.length
    · obtain ⟨y, hy⟩ : ∃ y, As (xs[k]? = some y) := ⟨xs[k], ⟨List.getElem?_eq_getElem hlt⟩⟩
      obtain ⟨be, oe, B3, d3, B4, d4, B6, d6, B7, d7, B8, d8, B9, d9, B10, d10, rfl, hbe, hry, e0, e1, e2, e3, e4, e5, e6, e7, e8, e9, e10⟩ := HR.out.at hS.out (i := k) (x := y) hy.out
      have hb1 := As.mk ((Below.refl wr.heap.size wr).alloc (Nat.le_refl _) (.cells #[.int .i64 y.k, .int .i64 y.e.k, .string y.e.s, .slice B3 y.e.ns.length d3, .slice B4 y.e.l.length d4, .string y.pol, .slice B6 y.inp.length d6, .slice B7 y.out.length d7, .slice B8 y.ru.length d8, .slice B9 y.ns.length d9, .slice B10 y.l.length d10] 29))
      have IY := As.mk (cntLo_calls P _ y _ 5000 (wr.alloc (.cells #[.int .i64 y.k, .int .i64 y.e.k, .string y.e.s, .slice B3 y.e.ns.length d3, .slice B4 y.e.l.length d4, .string y.pol, .slice B6 y.inp.length d6, .slice B7 y.out.length d7, .slice B8 y.ru.length d8, .slice B9 y.ns.length d9, .slice B10 y.l.length d10] 29)) (Nat.le_refl _) (HW.out y (List.mem_of_getElem? hy.out)) (by decide) (by decide) hry (hS.out.alloc (.cells #[.int .i64 y.k, .int .i64 y.e.k, .string y.e.s, .slice B3 y.e.ns.length d3, .slice B4 y.e.l.length d4, .string y.pol, .slice B6 y.inp.length d6, .slice B7 y.out.length d7, .slice B8 y.ru.length d8, .slice B9 y.ns.length d9, .slice B10 y.l.length d10] 29)))
      clear hry
      go_wp2_with fail
      refine IY.out.mono ?_
      rintro e w2 ⟨⟨n, rfl, _, hL⟩, hb2⟩
      have HL := As.mk (show n ≤ 5000 → y.wt ≤ n from fun h => hL (by decide) (by omega))
      have HB2 := As.mk (Below.then hb1.out hb2)
      clear hL hb2 IY
      by_cases hn : n ≤ 5000
      · have hd : decide ((n : Int) > 5000) = false := decide_eq_false (by omega)
        have hd2 : decide (5000 < (n : Int)) = false := decide_eq_false (by omega)
        have HN := As.mk (show ∀ x ∈ xs.take (k + 1), x.wt ≤ 5000 from fun x hx => by
          rw [take_one hy.out, List.mem_append] at hx
          rcases hx with hx | hx
          · exact hA.out x hx
          · have := HL.out hn
            simp at hx
            subst hx
            omega)
        clear hn
        go_wp2
        go_roundw
        case rel => exact ⟨k + 1, by go_num, by omega, ⟨hB.out.trans (HB2.out.mono hB.out.size)⟩, ⟨hS.out.below HB2.out⟩, HN⟩
        case measure => simp [intOf]; omega
      · have hd : decide ((n : Int) > 5000) = true := decide_eq_true (by omega)
        have hd2 : decide (5000 < (n : Int)) = true := decide_eq_true (by omega)
        clear hn
        go_wp2
        go_ret
        exact ⟨.inl rfl, hB.out.trans (HB2.out.mono hB.out.size)⟩
    · obtain rfl : k = xs.length := by omega
      have hA2 := hA.out
      rw [List.take_length] at hA2
      have HA2 := As.mk hA2
      clear hA hA2
      go_wp2
      go_ret
      exact ⟨.inr ⟨rfl, HA2.out⟩, hB.out⟩
end Go.Proofs.YtainigjbjfpoaaaGreatDoor
