/- tipstavelaw15.LogicSames. Printed by a program of the session (own tool); the text is the source. -/
import Derived.Test.YtainigjbjfpoaaaGreatDoorCAlive
import Derived.Test.YtainigjbjfpoaaaGreatDoorCSame
namespace Go.Proofs.YtainigjbjfpoaaaGreatDoor
open Go.RowKit Go.Shelf Go.Maps

theorem eqBy_iff {α : Type} {f : α → α → Bool} : ∀ (xs ys : List α), (∀ x ∈ xs, ∀ y, f x y = true ↔ x = y) → (eqBy f xs ys = true ↔ xs = ys)
  | [], [], _ => by simp [eqBy]
  | [], _ :: _, _ => by simp [eqBy]
  | _ :: _, [], _ => by simp [eqBy]
  | x :: xs, y :: ys, h => by
    rw [eqBy, Bool.and_eq_true, h x (by simp) y, eqBy_iff xs ys (fun z hz => h z (by simp [hz]))]
    simp
theorem strsEq_iff (xs ys : List ByteArray) : strsEq xs ys = true ↔ xs = ys := eqBy_iff xs ys (fun _ _ _ => decide_eq_true_iff)
theorem Ex.same_iff : ∀ (n : Nat) (a b : Ex), a.sz ≤ n → (Ex.same a b = true ↔ a = b)
  | 0, a, b, h => by cases a; simp [Ex.sz] at h
  | n + 1, a, b, h => by
    have hl := eqBy_iff a.l b.l (fun x hx y => Ex.same_iff n x y (by have := Ex.lt_of_mem hx; omega))
    rw [Ex.same_eq]
    obtain ⟨k, s, ns, l⟩ := a
    obtain ⟨k', s', ns', l'⟩ := b
    simp only [Bool.and_eq_true, beq_iff_eq, decide_eq_true_eq, strsEq_iff, Ex.mk.injEq] at hl ⊢
    rw [hl]
    simp [and_assoc]
theorem Ex.same_iff' (a b : Ex) : Ex.same a b = true ↔ a = b := Ex.same_iff _ a b (Nat.le_refl _)
theorem Te.same_iff (a b : Te) : Te.same a b = true ↔ a = b := by
  obtain ⟨u, v, l⟩ := a
  obtain ⟨u', v', l'⟩ := b
  have hl := eqBy_iff l l' (fun x _ y => Ex.same_iff' x y)
  simp only [Te.same, Bool.and_eq_true, beq_iff_eq, hl, Te.mk.injEq, and_assoc]
theorem Ru.same_iff (a b : Ru) : Ru.same a b = true ↔ a = b := by
  obtain ⟨u, l⟩ := a
  obtain ⟨u', l'⟩ := b
  have h1 := eqBy_iff u u' (fun x _ y => Te.same_iff x y)
  have h2 := eqBy_iff l l' (fun x _ y => Ex.same_iff' x y)
  simp only [Ru.same, Bool.and_eq_true, h1, h2, Ru.mk.injEq]
theorem Lo.same_iff : ∀ (n : Nat) (a b : Lo), a.sz ≤ n → (Lo.same a b = true ↔ a = b)
  | 0, a, b, h => by cases a; simp [Lo.sz] at h
  | n + 1, a, b, h => by
    have hl := eqBy_iff a.l b.l (fun x hx y => Lo.same_iff n x y (by have := Lo.lt_of_mem hx; omega))
    rw [Lo.same_eq]
    obtain ⟨k, e, pol, inp, out, ru, ns, l⟩ := a
    obtain ⟨k', e', pol', inp', out', ru', ns', l'⟩ := b
    have h1 := eqBy_iff inp inp' (fun x _ y => Ex.same_iff' x y)
    have h2 := eqBy_iff ru ru' (fun x _ y => Ru.same_iff x y)
    simp only [Bool.and_eq_true, beq_iff_eq, Ex.same_iff', strsEq_iff, Lo.mk.injEq, h1, h2, toList_inj] at hl ⊢
    rw [hl]
    constructor
    · rintro ⟨⟨⟨⟨⟨⟨⟨e1, e2⟩, e3⟩, e4⟩, e5⟩, e6⟩, e7⟩, e8⟩
      exact ⟨e1, e3, e2, e4, e5, e7, e6, e8⟩
    · rintro ⟨e1, e3, e2, e4, e5, e7, e6, e8⟩
      exact ⟨⟨⟨⟨⟨⟨⟨e1, e2⟩, e3⟩, e4⟩, e5⟩, e6⟩, e7⟩, e8⟩
theorem Lo.same_iff' (a b : Lo) : Lo.same a b = true ↔ a = b := Lo.same_iff _ a b (Nat.le_refl _)
theorem Lo.same_symm (a b : Lo) : Lo.same b a = Lo.same a b := by
  rw [Bool.eq_iff_iff, Lo.same_iff', Lo.same_iff']
  exact ⟨Eq.symm, Eq.symm⟩
theorem Lo.same_refl (a : Lo) : Lo.same a a = true := (Lo.same_iff' a a).2 rfl

theorem keep2 {W0 : World} {P : Pers} {n b c : Nat} {L M : List Value} {W W' : World} (hb : Below W.heap.size W W') (h : ∀ j v, L[j]? = some v → W.cell? ⟨b, j, none⟩ = some v) (k : ∀ j v, M[j]? = some v → W.cell? ⟨c, j, none⟩ = some v) (hB : Below n W0 W) (hn : n ≤ W.heap.size) (hs : Sat P W) :
    ((∀ j v, L[j]? = some v → W'.cell? ⟨b, j, none⟩ = some v) ∧ (∀ j v, M[j]? = some v → W'.cell? ⟨c, j, none⟩ = some v)) ∧ Below n W0 W' ∧ Sat P W' :=
  ⟨⟨fun j v hj => Cells.below hb _ _ (h j v hj), fun j v hj => Cells.below hb _ _ (k j v hj)⟩, hB.trans (hb.mono hn), hs.below hb⟩

set_option maxRecDepth 100000 in
set_option maxHeartbeats 8000000 in
theorem logicSames_calls (P : Pers) (G : Glob P) (a b : Lo) (ca cb : List Value) (w : World) (ha : Lo.Rep P a ca) (hb : Lo.Rep P b cb) (hs : Sat P w) (hwa : a.wt ≤ 549755813888) (hwb : b.wt ≤ 549755813888) :
    Calls Tryz.prog 4 #[.agg ca.toArray, .agg cb.toArray] w fun e w' => e = .returned (.bool true) ∧ Below w.heap.size w w' := by
  have HA := As.mk ha
  have HBb := As.mk hb
  have HAL := As.mk (fun w hs => alive_calls P G w hs)
  obtain ⟨A3, c3, A4, c4, A6, c6, A7, c7, A8, c8, A9, c9, A10, c10, rfl, l3, r3, l4, r4, l6, r6, l7, r7, l8, r8, l9, r9, l10, r10, z2, z5, zk, zk2⟩ := ha.open
  obtain ⟨B3, d3, B4, d4, B6, d6, B7, d7, B8, d8, B9, d9, B10, d10, rfl, m3, t3, m4, t4, m6, t6, m7, t7, m8, t8, m9, t9, m10, t10, y2, y5, yk, yk2⟩ := hb.open
  have hB : Below w.heap.size w ((w.alloc (.cells #[.int .i64 a.k, .int .i64 a.e.k, .string a.e.s, .slice A3 a.e.ns.length c3, .slice A4 a.e.l.length c4, .string a.pol, .slice A6 a.inp.length c6, .slice A7 a.out.length c7, .slice A8 a.ru.length c8, .slice A9 a.ns.length c9, .slice A10 a.l.length c10] 29)).alloc (.cells #[.int .i64 b.k, .int .i64 b.e.k, .string b.e.s, .slice B3 b.e.ns.length d3, .slice B4 b.e.l.length d4, .string b.pol, .slice B6 b.inp.length d6, .slice B7 b.out.length d7, .slice B8 b.ru.length d8, .slice B9 b.ns.length d9, .slice B10 b.l.length d10] 29)) := ((Below.refl _ _).alloc (Nat.le_refl _) _).alloc (by simp) _
  have HB := As.mk hB
  have HS := As.mk (hs.below hB)
  have hka : ∀ j v, [.int .i64 a.k, .int .i64 a.e.k, .string a.e.s, .slice A3 a.e.ns.length c3, .slice A4 a.e.l.length c4, .string a.pol, .slice A6 a.inp.length c6, .slice A7 a.out.length c7, .slice A8 a.ru.length c8, .slice A9 a.ns.length c9, .slice A10 a.l.length c10][j]? = some v → ((w.alloc (.cells #[.int .i64 a.k, .int .i64 a.e.k, .string a.e.s, .slice A3 a.e.ns.length c3, .slice A4 a.e.l.length c4, .string a.pol, .slice A6 a.inp.length c6, .slice A7 a.out.length c7, .slice A8 a.ru.length c8, .slice A9 a.ns.length c9, .slice A10 a.l.length c10] 29)).alloc (.cells #[.int .i64 b.k, .int .i64 b.e.k, .string b.e.s, .slice B3 b.e.ns.length d3, .slice B4 b.e.l.length d4, .string b.pol, .slice B6 b.inp.length d6, .slice B7 b.out.length d7, .slice B8 b.ru.length d8, .slice B9 b.ns.length d9, .slice B10 b.l.length d10] 29)).cell? ⟨w.heap.size, j, none⟩ = some v := fun j v hj => (cell_first w _ _ _ j).trans (by simpa using hj)
  have hkb : ∀ j v, [.int .i64 b.k, .int .i64 b.e.k, .string b.e.s, .slice B3 b.e.ns.length d3, .slice B4 b.e.l.length d4, .string b.pol, .slice B6 b.inp.length d6, .slice B7 b.out.length d7, .slice B8 b.ru.length d8, .slice B9 b.ns.length d9, .slice B10 b.l.length d10][j]? = some v → ((w.alloc (.cells #[.int .i64 a.k, .int .i64 a.e.k, .string a.e.s, .slice A3 a.e.ns.length c3, .slice A4 a.e.l.length c4, .string a.pol, .slice A6 a.inp.length c6, .slice A7 a.out.length c7, .slice A8 a.ru.length c8, .slice A9 a.ns.length c9, .slice A10 a.l.length c10] 29)).alloc (.cells #[.int .i64 b.k, .int .i64 b.e.k, .string b.e.s, .slice B3 b.e.ns.length d3, .slice B4 b.e.l.length d4, .string b.pol, .slice B6 b.inp.length d6, .slice B7 b.out.length d7, .slice B8 b.ru.length d8, .slice B9 b.ns.length d9, .slice B10 b.l.length d10] 29)).cell? ⟨w.heap.size + 1, j, none⟩ = some v := row_later (V := w.alloc (.cells #[.int .i64 a.k, .int .i64 a.e.k, .string a.e.s, .slice A3 a.e.ns.length c3, .slice A4 a.e.l.length c4, .string a.pol, .slice A6 a.inp.length c6, .slice A7 a.out.length c7, .slice A8 a.ru.length c8, .slice A9 a.ns.length c9, .slice A10 a.l.length c10] 29)) (cs := [.int .i64 b.k, .int .i64 b.e.k, .string b.e.s, .slice B3 b.e.ns.length d3, .slice B4 b.e.l.length d4, .string b.pol, .slice B6 b.inp.length d6, .slice B7 b.out.length d7, .slice B8 b.ru.length d8, .slice B9 b.ns.length d9, .slice B10 b.l.length d10]) (t := 29) (Below.refl _ _) (by simp)
  have HKA := As.mk hka
  have HKB := As.mk hkb
  have HWA := As.mk hwa
  have HWB := As.mk hwb
  have HS1 := As.mk (fun W hs => loSame P a b _ _ W HA.out HBb.out hs)
  have HS2 := As.mk (fun W hs => rloSame_calls P _ a b _ _ W (Nat.le_refl _) HA.out HBb.out hs)
  have HS3 := As.mk (fun W hs => loSame P b a _ _ W HBb.out HA.out hs)
  have HS4 := As.mk (fun W hs => loSame P a a _ _ W HA.out HA.out hs)
  rw [Lo.same_symm a b] at HS3
  rw [Lo.same_refl a] at HS4
  generalize Lo.same a b = v at *
  clear ha hb hs r3 r4 r6 r7 r8 r9 r10 t3 t4 t6 t7 t8 t9 t10 zk zk2 yk yk2 z2 z5 y2 y5 hB hka hkb hwa hwb G
  go_enter Tryz.func4, Tryz.ntmps4
  go_wp2_with fail
  refine (HAL.out _ HS.out).mono ?_
  rintro e w1 ⟨rfl, hb1⟩
  have HB1 := As.mk (HB.out.trans (hb1.mono HB.out.size))
  have HS1' := As.mk (HS.out.below hb1)
  have HKA1 := As.mk (fun j v h => Cells.below hb1 _ _ (HKA.out j v h))
  have HKB1 := As.mk (fun j v h => Cells.below hb1 _ _ (HKB.out j v h))
  have p0 := HKA1.out 0 _ rfl
  have p1 := HKA1.out 1 _ rfl
  have p2 := HKA1.out 2 _ rfl
  have p3 := HKA1.out 3 _ rfl
  have p4 := HKA1.out 4 _ rfl
  have p5 := HKA1.out 5 _ rfl
  have p6 := HKA1.out 6 _ rfl
  have p7 := HKA1.out 7 _ rfl
  have p8 := HKA1.out 8 _ rfl
  have p9 := HKA1.out 9 _ rfl
  have p10 := HKA1.out 10 _ rfl
  have q0 := HKB1.out 0 _ rfl
  have q1 := HKB1.out 1 _ rfl
  have q2 := HKB1.out 2 _ rfl
  have q3 := HKB1.out 3 _ rfl
  have q4 := HKB1.out 4 _ rfl
  have q5 := HKB1.out 5 _ rfl
  have q6 := HKB1.out 6 _ rfl
  have q7 := HKB1.out 7 _ rfl
  have q8 := HKB1.out 8 _ rfl
  have q9 := HKB1.out 9 _ rfl
  have q10 := HKB1.out 10 _ rfl
  clear hb1
  go_wp2_with fail
  have hbr : Below w1.heap.size w1 (w1.alloc (.cells #[.int .i64 a.k, .int .i64 a.e.k, .string a.e.s, .slice A3 a.e.ns.length c3, .slice A4 a.e.l.length c4, .string a.pol, .slice A6 a.inp.length c6, .slice A7 a.out.length c7, .slice A8 a.ru.length c8, .slice A9 a.ns.length c9, .slice A10 a.l.length c10, .int .i64 b.k, .int .i64 b.e.k, .string b.e.s, .slice B3 b.e.ns.length d3, .slice B4 b.e.l.length d4, .string b.pol, .slice B6 b.inp.length d6, .slice B7 b.out.length d7, .slice B8 b.ru.length d8, .slice B9 b.ns.length d9, .slice B10 b.l.length d10] 29)) := (Below.refl _ _).alloc (Nat.le_refl _) _
  have hrow : ∀ j v, ([.int .i64 a.k, .int .i64 a.e.k, .string a.e.s, .slice A3 a.e.ns.length c3, .slice A4 a.e.l.length c4, .string a.pol, .slice A6 a.inp.length c6, .slice A7 a.out.length c7, .slice A8 a.ru.length c8, .slice A9 a.ns.length c9, .slice A10 a.l.length c10] ++ [.int .i64 b.k, .int .i64 b.e.k, .string b.e.s, .slice B3 b.e.ns.length d3, .slice B4 b.e.l.length d4, .string b.pol, .slice B6 b.inp.length d6, .slice B7 b.out.length d7, .slice B8 b.ru.length d8, .slice B9 b.ns.length d9, .slice B10 b.l.length d10])[j]? = some v → (w1.alloc (.cells #[.int .i64 a.k, .int .i64 a.e.k, .string a.e.s, .slice A3 a.e.ns.length c3, .slice A4 a.e.l.length c4, .string a.pol, .slice A6 a.inp.length c6, .slice A7 a.out.length c7, .slice A8 a.ru.length c8, .slice A9 a.ns.length c9, .slice A10 a.l.length c10, .int .i64 b.k, .int .i64 b.e.k, .string b.e.s, .slice B3 b.e.ns.length d3, .slice B4 b.e.l.length d4, .string b.pol, .slice B6 b.inp.length d6, .slice B7 b.out.length d7, .slice B8 b.ru.length d8, .slice B9 b.ns.length d9, .slice B10 b.l.length d10] 29)).cell? ⟨w1.heap.size, j, none⟩ = some v := row_later (V := w1) (cs := [.int .i64 a.k, .int .i64 a.e.k, .string a.e.s, .slice A3 a.e.ns.length c3, .slice A4 a.e.l.length c4, .string a.pol, .slice A6 a.inp.length c6, .slice A7 a.out.length c7, .slice A8 a.ru.length c8, .slice A9 a.ns.length c9, .slice A10 a.l.length c10] ++ [.int .i64 b.k, .int .i64 b.e.k, .string b.e.s, .slice B3 b.e.ns.length d3, .slice B4 b.e.l.length d4, .string b.pol, .slice B6 b.inp.length d6, .slice B7 b.out.length d7, .slice B8 b.ru.length d8, .slice B9 b.ns.length d9, .slice B10 b.l.length d10]) (t := 29) (Below.refl _ _) rfl
  have HGR := As.mk (great_calls (P.snap (w1.alloc (.cells #[.int .i64 a.k, .int .i64 a.e.k, .string a.e.s, .slice A3 a.e.ns.length c3, .slice A4 a.e.l.length c4, .string a.pol, .slice A6 a.inp.length c6, .slice A7 a.out.length c7, .slice A8 a.ru.length c8, .slice A9 a.ns.length c9, .slice A10 a.l.length c10, .int .i64 b.k, .int .i64 b.e.k, .string b.e.s, .slice B3 b.e.ns.length d3, .slice B4 b.e.l.length d4, .string b.pol, .slice B6 b.inp.length d6, .slice B7 b.out.length d7, .slice B8 b.ru.length d8, .slice B9 b.ns.length d9, .slice B10 b.l.length d10] 29))) (some ⟨w1.heap.size, 0, none⟩) 2 [a, b] (w1.alloc (.cells #[.int .i64 a.k, .int .i64 a.e.k, .string a.e.s, .slice A3 a.e.ns.length c3, .slice A4 a.e.l.length c4, .string a.pol, .slice A6 a.inp.length c6, .slice A7 a.out.length c7, .slice A8 a.ru.length c8, .slice A9 a.ns.length c9, .slice A10 a.l.length c10, .int .i64 b.k, .int .i64 b.e.k, .string b.e.s, .slice B3 b.e.ns.length d3, .slice B4 b.e.l.length d4, .string b.pol, .slice B6 b.inp.length d6, .slice B7 b.out.length d7, .slice B8 b.ru.length d8, .slice B9 b.ns.length d9, .slice B10 b.l.length d10] 29)) (Row.two rfl (HA.out.mono (Pers.le_snap _ _)) (HBb.out.mono (Pers.le_snap _ _)) (fun j v h => .inr (hrow j v h))) (Sat.snap (HS1'.out.below hbr)) (fun x hx => by
    simp at hx
    rcases hx with rfl | rfl
    · exact HWA.out
    · exact HWB.out))
  have HBR := As.mk hbr
  clear hbr hrow p0 q0 p1 q1 p2 q2 p3 q3 p4 q4 p5 q5 p6 q6 p7 q7 p8 q8 p9 q9 p10 q10
  refine HGR.out.mono ?_
  rintro e w2 ⟨h, hb2⟩
  have HB3 := As.mk ((HBR.out.trans (hb2.mono HBR.out.size)))
  have HB2 := As.mk (HB1.out.trans (HB3.out.mono HB1.out.size))
  have HS2' := As.mk (HS1'.out.below HB3.out)
  have HKA2 := As.mk (fun j v h => Cells.below HB3.out _ _ (HKA1.out j v h))
  have HKB2 := As.mk (fun j v h => Cells.below HB3.out _ _ (HKB1.out j v h))
  clear hb2
  rcases h with rfl | ⟨rfl, _⟩
  · go_wp2_with fail
    refine (HAL.out _ HS2'.out).mono ?_
    rintro e w3 ⟨rfl, hb3⟩
    have HF := As.mk (HB2.out.trans (hb3.mono HB2.out.size))
    clear hb3
    go_wp2_with fail
    go_ret
    exact ⟨rfl, HF.out⟩
  · go_wp2_with fail
    have c0 := And.intro HKA2.out HKB2.out
    have b0 := HB2.out
    have s0 := HS2'.out
    go_region_held3 (fun W => ((∀ j v, [.int .i64 a.k, .int .i64 a.e.k, .string a.e.s, .slice A3 a.e.ns.length c3, .slice A4 a.e.l.length c4, .string a.pol, .slice A6 a.inp.length c6, .slice A7 a.out.length c7, .slice A8 a.ru.length c8, .slice A9 a.ns.length c9, .slice A10 a.l.length c10][j]? = some v → W.cell? ⟨w.heap.size, j, none⟩ = some v) ∧ (∀ j v, [.int .i64 b.k, .int .i64 b.e.k, .string b.e.s, .slice B3 b.e.ns.length d3, .slice B4 b.e.l.length d4, .string b.pol, .slice B6 b.inp.length d6, .slice B7 b.out.length d7, .slice B8 b.ru.length d8, .slice B9 b.ns.length d9, .slice B10 b.l.length d10][j]? = some v → W.cell? ⟨w.heap.size + 1, j, none⟩ = some v)) ∧ Below w.heap.size w W ∧ Sat P W)
      (first
        | exact ⟨c0, b0.drew, s0.drew⟩
        | (go_split_ands
           first
             | (refine ⟨⟨?_, ?_⟩, ?_, ?_⟩ <;> assumption)
             | exact keep2 hb' (by assumption) (by assumption) (by assumption) (Below.size (by assumption)) (by assumption)))
      (first
        | (go_at_call 14; first
            | (with_reducible refine (HS1.out _ ?_).mono ?_; (go_split_ands; assumption); rintro e w' ⟨rfl, hb'⟩)
            | (with_reducible refine (HS3.out _ ?_).mono ?_; (go_split_ands; assumption); rintro e w' ⟨rfl, hb'⟩)
            | (with_reducible refine (HS4.out _ ?_).mono ?_; (go_split_ands; assumption); rintro e w' ⟨rfl, hb'⟩))
        | (go_at_call 15; with_reducible refine (HS2.out _ ?_).mono ?_; (go_split_ands; assumption); rintro e w' ⟨rfl, hb'⟩))
    go_wp2_with fail
    go_ret
    exact ⟨rfl, by go_split_ands; assumption⟩
end Go.Proofs.YtainigjbjfpoaaaGreatDoor
