/- logic.bare, form. -/
import Derived.Test.YtainigjbjfpoaaaGreatDoorCLog1
import Derived.Test.YtainigjbjfpoaaaGreatDoorCSame
import Derived.Deep.QuietTactic
import Derived.BigQuiet
namespace Go.Proofs.YtainigjbjfpoaaaGreatDoor
open Go.RowKit Go.Shelf Go.Maps

/-- has a logic nothing of a table's? -/
def bare (x : Lo) : Bool := decide (x.pol.size = 0) && (x.inp.length + x.out.length + x.ru.length == 0)

theorem nat_beq (a b : Nat) : ((a : Int) == (b : Int)) = (a == b) := by rw [Bool.eq_iff_iff, beq_iff_eq, beq_iff_eq]; omega
theorem size_empty (s : ByteArray) : s.toList.isEmpty = decide (s.size = 0) := by
  have := size_nonempty s
  cases h : s.toList.isEmpty
  · rw [h] at this
    have h2 : s.size ≠ 0 := by simpa using this.symm
    simp [h2]
  · rw [h] at this
    have h2 : s.size = 0 := by simpa using this.symm
    simp [h2]

set_option maxRecDepth 100000 in
set_option maxHeartbeats 1000000 in
theorem bare_calls (P : Pers) (x : Lo) (cs : List Value) (w : World) (hx : Lo.Rep P x cs) :
    Calls Tryz.prog 94 #[.agg cs.toArray] w fun e w' => e = .returned (.bool (bare x)) ∧ Below w.heap.size w w' := by
  obtain ⟨A3, c3, A4, c4, A6, c6, A7, c7, A8, c8, A9, c9, A10, c10, rfl, l3, r3, l4, r4, l6, r6, l7, r7, l8, r8, l9, r9, l10, r10, z2, z5, zk, zk2⟩ := hx.open
  have hQ := As.mk (bare.eq_1 x)
  have h6 := r6.len
  have h7 := r7.len
  have h8 := r8.len
  have he := size_empty x.pol
  clear hx
  cases hp : decide (x.pol.size = 0)
  · rw [hp] at hQ he
    clear hp
    go_enter Tryz.func94, Tryz.ntmps94
    go_wp2
    go_ret
    exact ⟨by rw [hQ.out]; rfl, (Below.refl _ _).alloc (Nat.le_refl _) _⟩
  · rw [hp] at hQ he
    clear hp
    have e0 : ((x.inp.length : Int) + (x.out.length : Int) + (x.ru.length : Int) == 0) = (x.inp.length + x.out.length + x.ru.length == 0) := by rw [Bool.eq_iff_iff, beq_iff_eq, beq_iff_eq]; omega
    have E0 := As.mk e0
    generalize (x.inp.length + x.out.length + x.ru.length == 0) = z at *
    clear e0
    have e0 := E0.out
    cases z
    all_goals
      go_enter Tryz.func94, Tryz.ntmps94
      go_wp2
      go_ret
      exact ⟨by rw [hQ.out]; simp, (Below.refl _ _).alloc (Nat.le_refl _) _⟩

theorem Ex.zero_rep (P : Pers) : Ex.Rep P Ex.zero [.int .i64 0, .string ⟨#[]⟩, .slice none 0 0, .slice none 0 0] :=
  Ex.Rep.shut Ex.zero (A2 := none) (c2 := 0) (A3 := none) (c3 := 0) (Nat.le_refl _) (Row.nil _ _ _ _) (Nat.le_refl _) (Row.nil _ _ _ _) (by decide) (by unfold inI64; decide)
theorem policies_row {P : Pers} (G : Glob P) : Strs P (some ⟨0, 0, none⟩) policies := by
  refine Row.made (policies.map fun x => [.string x]) (by decide) (by simp) (fun i x cs hi hc => ?_) (fun i cs j v hc hv => ?_)
  · rw [List.getElem?_map, hi] at hc
    cases hc
    exact ⟨rfl, by
      have := List.mem_of_getElem? hi
      simp only [policies, List.mem_cons, List.not_mem_nil, or_false] at this
      rcases this with rfl | rfl | rfl | rfl | rfl | rfl | rfl <;> decide⟩
  · rw [List.getElem?_map] at hc
    cases hi : policies[i]? with
    | none => rw [hi] at hc; cases hc
    | some x =>
      rw [hi] at hc
      cases hc
      cases j with
      | succ j => simp at hv
      | zero =>
        simp at hv
        rw [← hv]
        have := G.pol i x hi
        simpa using this

/-- are a logic's fields those of its kind? -/
def form (x : Lo) : Bool :=
  if x.k = 0 then bare x && (x.ns.length + x.l.length == 0)
  else if x.k = 1 then Ex.same x.e Ex.zero && (x.ns.length + x.l.length == 0) && decide (0 < x.out.length) && has policies x.pol
  else if x.k = 2 then Ex.same x.e Ex.zero && bare x && decide (0 < x.l.length) && (x.ns.length == x.l.length)
  else bare x && (x.e.k == 3) && (x.ns.length == x.l.length)

set_option maxRecDepth 100000 in
set_option maxHeartbeats 4000000 in
theorem form_calls (P : Pers) (G : Glob P) (x : Lo) (cs : List Value) (w : World) (hx : Lo.Rep P x cs) (hs : Sat P w) :
    Calls Tryz.prog 62 #[.agg cs.toArray] w fun e w' => e = .returned (.bool (form x)) ∧ Below w.heap.size w w' := by
  have HX := As.mk (fun w => bare_calls P x cs w hx)
  obtain ⟨A3, c3, A4, c4, A6, c6, A7, c7, A8, c8, A9, c9, A10, c10, rfl, l3, r3, l4, r4, l6, r6, l7, r7, l8, r8, l9, r9, l10, r10, z2, z5, zk, zk2⟩ := hx.open
  have HE := As.mk (fun w hs => exSame P _ _ _ _ w (Lo.ex l3 r3 l4 r4 z2 zk2) (Ex.zero_rep P) hs)
  have HP := As.mk (fun w hs => containsStr_calls P (some ⟨0, 0, none⟩) 7 policies x.pol w (policies_row G) hs)
  have hQ := As.mk (form.eq_1 x)
  have h7 := r7.len
  have h9 := r9.len
  have h10 := r10.len
  have HS := As.mk (hs.alloc (.cells #[.int .i64 x.k, .int .i64 x.e.k, .string x.e.s, .slice A3 x.e.ns.length c3, .slice A4 x.e.l.length c4, .string x.pol, .slice A6 x.inp.length c6, .slice A7 x.out.length c7, .slice A8 x.ru.length c8, .slice A9 x.ns.length c9, .slice A10 x.l.length c10] 29))
  have HB := As.mk ((Below.refl _ w).alloc (Nat.le_refl _) (.cells #[.int .i64 x.k, .int .i64 x.e.k, .string x.e.s, .slice A3 x.e.ns.length c3, .slice A4 x.e.l.length c4, .string x.pol, .slice A6 x.inp.length c6, .slice A7 x.out.length c7, .slice A8 x.ru.length c8, .slice A9 x.ns.length c9, .slice A10 x.l.length c10] 29))
  have hz0 : w.heap.size < (w.alloc (.cells #[.int .i64 x.k, .int .i64 x.e.k, .string x.e.s, .slice A3 x.e.ns.length c3, .slice A4 x.e.l.length c4, .string x.pol, .slice A6 x.inp.length c6, .slice A7 x.out.length c7, .slice A8 x.ru.length c8, .slice A9 x.ns.length c9, .slice A10 x.l.length c10] 29)).heap.size := by simp
  clear hx hs r3 r4 r6 r7 r8 r9 r10
  have e1 : ((x.ns.length : Int) + (x.l.length : Int) == 0) = (x.ns.length + x.l.length == 0) := by rw [Bool.eq_iff_iff, beq_iff_eq, beq_iff_eq]; omega
  have e2 := nat_beq x.ns.length x.l.length
  have E1 := As.mk e1
  have E2 := As.mk e2
  generalize Ex.same x.e Ex.zero = nn at *
  generalize bare x = bb at *
  generalize has policies x.pol = hp at *
  generalize (x.ns.length + x.l.length == 0) = y1 at *
  generalize (x.ns.length == x.l.length) = y2 at *
  clear e1 e2
  by_cases k0 : x.k = 0
  · have q0 : (x.k == 0) = true := beq_iff_eq.2 k0
    rw [if_pos k0] at hQ
    clear k0
    have e1 := E1.out
    cases bb <;> cases y1
    all_goals
      go_enter Tryz.func62, Tryz.ntmps62
      go_wp2_with (first
        | (go_at_call 32; refine (HE.out _ HS.out).mono ?_; rintro e w2 ⟨rfl, hb2⟩; have hc2 := bcell hb2; have hB := Below.then HB.out hb2; have hs2 := As.mk (HS.out.below hb2); have hz2 := Nat.lt_of_lt_of_le hz0 hb2.size)
        | (go_at_call 94; refine (HX.out _).mono ?_; rintro e w3 ⟨rfl, hb3⟩; have hc3 := bcell hb3; replace hB := Below.then hB hb3))
      go_ret
      exact ⟨by rw [hQ.out]; rfl, hB⟩
  have q0 : (x.k == 0) = false := beq_eq_false_iff_ne.2 k0
  rw [if_neg k0] at hQ
  clear k0
  by_cases k1 : x.k = 1
  · have q1 : (x.k == 1) = true := beq_iff_eq.2 k1
    rw [if_pos k1] at hQ
    clear k1
    have e1 := E1.out
    cases hl : decide (0 < x.out.length)
    · rw [hl] at hQ
      have hl2 : ¬ 0 < x.out.length := of_decide_eq_false hl
      clear hl
      cases nn <;> cases y1
      all_goals
        go_enter Tryz.func62, Tryz.ntmps62
        go_wp2_with (go_at_call 32; refine (HE.out _ HS.out).mono ?_; rintro e w2 ⟨rfl, hb2⟩; have hc2 := bcell hb2; have hB := Below.then HB.out hb2; have hs2 := As.mk (HS.out.below hb2); have hz2 := Nat.lt_of_lt_of_le hz0 hb2.size)
        go_quiet (fail)
        go_wp2
        go_ret
        exact ⟨by rw [hQ.out]; rfl, pw_below_drewN' hB _⟩
    · rw [hl] at hQ
      have hl2 : 0 < x.out.length := of_decide_eq_true hl
      clear hl
      cases nn
      · go_enter Tryz.func62, Tryz.ntmps62
        go_wp2_with (go_at_call 32; refine (HE.out _ HS.out).mono ?_; rintro e w2 ⟨rfl, hb2⟩; have hc2 := bcell hb2; have hB := Below.then HB.out hb2; have hs2 := As.mk (HS.out.below hb2); have hz2 := Nat.lt_of_lt_of_le hz0 hb2.size)
        go_quiet (fail)
        go_wp2
        go_ret
        exact ⟨by rw [hQ.out]; rfl, pw_below_drewN' hB _⟩
      · cases y1
        · go_enter Tryz.func62, Tryz.ntmps62
          go_wp2_with (go_at_call 32; refine (HE.out _ HS.out).mono ?_; rintro e w2 ⟨rfl, hb2⟩; have hc2 := bcell hb2; have hB := Below.then HB.out hb2; have hs2 := As.mk (HS.out.below hb2); have hz2 := Nat.lt_of_lt_of_le hz0 hb2.size)
          go_quiet (fail)
          go_wp2
          go_ret
          exact ⟨by rw [hQ.out]; rfl, pw_below_drewN' hB _⟩
        · cases hp
          all_goals
            go_enter Tryz.func62, Tryz.ntmps62
            go_wp2_with (go_at_call 32; refine (HE.out _ HS.out).mono ?_; rintro e w2 ⟨rfl, hb2⟩; have hc2 := bcell hb2; have hB := Below.then HB.out hb2; have hs2 := As.mk (HS.out.below hb2); have hz2 := Nat.lt_of_lt_of_le hz0 hb2.size)
            go_quiet ((go_at_call 74; exact Calls.quiet_of_same ((HP.out _ (hs2.out.drewN _)).mono (fun _ _ ⟨a, b⟩ => ⟨a, b.symm⟩))))
            go_wp2
            go_ret
            exact ⟨by rw [hQ.out]; rfl, pw_below_drewN' hB _⟩
  have q1 : (x.k == 1) = false := beq_eq_false_iff_ne.2 k1
  rw [if_neg k1] at hQ
  clear k1
  by_cases k2 : x.k = 2
  · have q2 : (x.k == 2) = true := beq_iff_eq.2 k2
    rw [if_pos k2] at hQ
    clear k2
    have e2 := E2.out
    cases hl : decide (0 < x.l.length)
    · rw [hl] at hQ
      have hl2 : ¬ 0 < x.l.length := of_decide_eq_false hl
      clear hl
      cases nn <;> cases bb
      all_goals
        go_enter Tryz.func62, Tryz.ntmps62
        go_wp2_with (first
        | (go_at_call 32; refine (HE.out _ HS.out).mono ?_; rintro e w2 ⟨rfl, hb2⟩; have hc2 := bcell hb2; have hB := Below.then HB.out hb2; have hs2 := As.mk (HS.out.below hb2); have hz2 := Nat.lt_of_lt_of_le hz0 hb2.size)
        | (go_at_call 94; refine (HX.out _).mono ?_; rintro e w3 ⟨rfl, hb3⟩; have hc3 := bcell hb3; replace hB := Below.then hB hb3))
        go_ret
        exact ⟨by rw [hQ.out]; rfl, hB⟩
    · rw [hl] at hQ
      have hl2 : 0 < x.l.length := of_decide_eq_true hl
      clear hl
      cases nn <;> cases bb <;> cases y2
      all_goals
        go_enter Tryz.func62, Tryz.ntmps62
        go_wp2_with (first
        | (go_at_call 32; refine (HE.out _ HS.out).mono ?_; rintro e w2 ⟨rfl, hb2⟩; have hc2 := bcell hb2; have hB := Below.then HB.out hb2; have hs2 := As.mk (HS.out.below hb2); have hz2 := Nat.lt_of_lt_of_le hz0 hb2.size)
        | (go_at_call 94; refine (HX.out _).mono ?_; rintro e w3 ⟨rfl, hb3⟩; have hc3 := bcell hb3; replace hB := Below.then hB hb3))
        go_ret
        exact ⟨by rw [hQ.out]; rfl, hB⟩
  have q2 : (x.k == 2) = false := beq_eq_false_iff_ne.2 k2
  rw [if_neg k2] at hQ
  clear k2
  have e2 := E2.out
  cases h3 : (x.e.k == 3)
  all_goals
    rw [h3] at hQ
    cases bb <;> cases y2
    all_goals
      go_enter Tryz.func62, Tryz.ntmps62
      go_wp2_with (first
        | (go_at_call 32; refine (HE.out _ HS.out).mono ?_; rintro e w2 ⟨rfl, hb2⟩; have hc2 := bcell hb2; have hB := Below.then HB.out hb2; have hs2 := As.mk (HS.out.below hb2); have hz2 := Nat.lt_of_lt_of_le hz0 hb2.size)
        | (go_at_call 94; refine (HX.out _).mono ?_; rintro e w3 ⟨rfl, hb3⟩; have hc3 := bcell hb3; replace hB := Below.then hB hb3))
      go_ret
      exact ⟨by rw [hQ.out]; rfl, hB⟩
end Go.Proofs.YtainigjbjfpoaaaGreatDoor
