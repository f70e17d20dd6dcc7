/- logic.first: the first error that some functions tell. -/
/- logic.rules. -/
import Derived.Test.YtainigjbjfpoaaaGreatDoorCLog2
namespace Go.Proofs.YtainigjbjfpoaaaGreatDoor
open Go.RowKit Go.Shelf Go.Maps

/-- a function, what it holds, what it tells -/
structure Ask where
  g : Nat
  cap : Array Value
  v : Nat
def askRep (x : Ask) (cs : List Value) : Prop := cs = [.func (.func x.g) #[] x.cap]

set_option maxRecDepth 100000 in
set_option maxHeartbeats 1000000 in
theorem firstOf_calls (P : Pers) (A : Option Addr) (c : Nat) (xs : List Ask) (w : World) (h : Row P askRep 1 A xs) (hs : Sat P w)
    (hen : ∀ x ∈ xs, ∀ args w, (callFunc x.g args).run Tryz.prog w = .ok (.enter x.g args) w)
    (hf : ∀ x ∈ xs, ∀ w', Sat P w' → Calls Tryz.prog x.g x.cap w' fun e w'' => e = .returned (.int .i64 x.v) ∧ Below w'.heap.size w' w'') :
    Calls Tryz.prog 63 #[.slice A xs.length c] w fun e w' => e = .returned (.int .i64 (firstErr Ask.v xs)) ∧ Below w.heap.size w w' := by
  have HF := As.mk hf
  have HN := As.mk hen
  have HR := As.mk h
  have HS := As.mk hs
  have hlen := h.len
  clear hf h hs hen
  go_enter Tryz.func63, Tryz.ntmps63
  go_wp2
  go_loopw [8] (fun i wr => ∃ k : Nat, i = .int .i64 k ∧ k ≤ xs.length ∧ As (Below w.heap.size w wr) ∧ As (Sat P wr) ∧ As (firstErr Ask.v xs = firstErr Ask.v (xs.drop k))) (fun i _ => xs.length - (intOf i).toNat)
  case atStart => exact ⟨0, rfl, Nat.zero_le _, ⟨Below.refl _ _⟩, HS, ⟨rfl⟩⟩
  case round =>
    obtain ⟨k, rfl, hk, hBr, hsr, hQ⟩ := hrel
    by_cases hlt : k < xs.length
    · have hd : xs.drop k = xs[k] :: xs.drop (k + 1) := List.drop_eq_getElem_cons hlt
      have hQ2 := hQ.out
      rw [hd, firstErr] at hQ2
      have HQ2 := As.mk hQ2
      obtain ⟨y, hy⟩ : ∃ y, As (xs[k] = y) := ⟨_, ⟨rfl⟩⟩
      rw [hy.out] at HQ2
      have hym : y ∈ xs := hy.out ▸ List.getElem_mem hlt
      obtain ⟨be, oe, cs, rfl, hcs, hp⟩ := Row.get HR.out (i := k) (x := y) (by rw [List.getElem?_eq_getElem hlt, hy.out]) (fun cs h => by unfold askRep at h; rw [h]; simp)
      unfold askRep at hcs
      subst hcs
      have e0 := hsr.out _ _ (hp 0 _ rfl)
      simp only [Nat.mul_one, Nat.add_zero] at e0
      have IY := As.mk (fun W hs => HF.out y hym W hs)
      have hen := HN.out y hym
      clear hd hQ2 hQ hp
      obtain ⟨g, cap, v⟩ := y
      dsimp only at *
      by_cases hv : v = 0
      · have HV := As.mk (HQ2.out.trans (if_pos hv))
        subst hv
        clear HQ2
        go_wp2_with (with_reducible refine (IY.out _ hsr.out).mono ?_; rintro e w2 ⟨rfl, hb2⟩)
        go_roundw
        case rel => exact ⟨k + 1, by go_num, by omega, ⟨hBr.out.trans (hb2.mono hBr.out.size)⟩, ⟨hsr.out.below hb2⟩, HV⟩
        case measure => simp [intOf]; omega
      · have HV := As.mk (HQ2.out.trans (if_neg hv))
        have h0' : ((v : Int) != 0) = true := by rw [bne_iff_ne]; omega
        clear HQ2 hv
        go_wp2_with (with_reducible refine (IY.out _ hsr.out).mono ?_; rintro e w2 ⟨rfl, hb2⟩)
        go_ret
        exact ⟨by rw [HV.out]; rfl, hBr.out.trans (hb2.mono hBr.out.size)⟩
    · obtain rfl : k = xs.length := by omega
      have HE := As.mk (show firstErr Ask.v xs = 0 by rw [hQ.out, List.drop_length, firstErr])
      clear hQ
      go_wp2
      go_ret
      exact ⟨by rw [HE.out]; rfl, hBr.out⟩
end Go.Proofs.YtainigjbjfpoaaaGreatDoor

namespace Go.Proofs.YtainigjbjfpoaaaGreatDoor
open Go.RowKit Go.Shelf Go.Maps

/-- what is wrong with a row -/
def ruErr (x : Lo) (r : Ru) : Nat := if r.ins.length ≠ x.inp.length ∨ r.out.length ≠ x.out.length then 17 else if firstErr teErr r.ins = 0 then firstErr expErr r.out else firstErr teErr r.ins

set_option maxRecDepth 100000 in
set_option maxHeartbeats 4000000 in
theorem rules_calls (P : Pers) (G : Glob P) (x : Lo) (cs : List Value) (w : World) (hx : Lo.Rep P x cs) (hs : Sat P w) :
    Calls Tryz.prog 71 #[.agg cs.toArray] w fun e w' => e = .returned (.int .i64 (firstErr (ruErr x) x.ru)) ∧ Below w.heap.size w w' := by
  obtain ⟨A3, c3, A4, c4, A6, c6, A7, c7, A8, c8, A9, c9, A10, c10, rfl, l3, r3, l4, r4, l6, r6, l7, r7, l8, r8, l9, r9, l10, r10, z2, z5, zk, zk2⟩ := hx.open
  have HR := As.mk r8
  have hlen := r8.len
  have h6 := r6.len
  have h7 := r7.len
  have HS := As.mk (hs.alloc (.cells #[.int .i64 x.k, .int .i64 x.e.k, .string x.e.s, .slice A3 x.e.ns.length c3, .slice A4 x.e.l.length c4, .string x.pol, .slice A6 x.inp.length c6, .slice A7 x.out.length c7, .slice A8 x.ru.length c8, .slice A9 x.ns.length c9, .slice A10 x.l.length c10] 29))
  have HB := As.mk ((Below.refl _ w).alloc (Nat.le_refl _) (.cells #[.int .i64 x.k, .int .i64 x.e.k, .string x.e.s, .slice A3 x.e.ns.length c3, .slice A4 x.e.l.length c4, .string x.pol, .slice A6 x.inp.length c6, .slice A7 x.out.length c7, .slice A8 x.ru.length c8, .slice A9 x.ns.length c9, .slice A10 x.l.length c10] 29))
  have k6 : (w.alloc (.cells #[.int .i64 x.k, .int .i64 x.e.k, .string x.e.s, .slice A3 x.e.ns.length c3, .slice A4 x.e.l.length c4, .string x.pol, .slice A6 x.inp.length c6, .slice A7 x.out.length c7, .slice A8 x.ru.length c8, .slice A9 x.ns.length c9, .slice A10 x.l.length c10] 29)).cell? ⟨w.heap.size, 6, none⟩ = some (.slice A6 x.inp.length c6) := World.cell?_alloc_mark ..
  have k7 : (w.alloc (.cells #[.int .i64 x.k, .int .i64 x.e.k, .string x.e.s, .slice A3 x.e.ns.length c3, .slice A4 x.e.l.length c4, .string x.pol, .slice A6 x.inp.length c6, .slice A7 x.out.length c7, .slice A8 x.ru.length c8, .slice A9 x.ns.length c9, .slice A10 x.l.length c10] 29)).cell? ⟨w.heap.size, 7, none⟩ = some (.slice A7 x.out.length c7) := World.cell?_alloc_mark ..
  have K6 := As.mk k6
  have K7 := As.mk k7
  clear hx hs r3 r4 r6 r7 r8 r9 r10 k6 k7
  go_enter Tryz.func71, Tryz.ntmps71
  go_wp2
  go_loopw [12] (fun i wr => ∃ k : Nat, i = .int .i64 k ∧ k ≤ x.ru.length ∧ wr.cell? ⟨w.heap.size, 6, none⟩ = some (.slice A6 x.inp.length c6) ∧ wr.cell? ⟨w.heap.size, 7, none⟩ = some (.slice A7 x.out.length c7) ∧ As (Below w.heap.size w wr) ∧ As (Sat P wr) ∧ As (firstErr (ruErr x) x.ru = firstErr (ruErr x) (x.ru.drop k))) (fun i _ => x.ru.length - (intOf i).toNat)
  case atStart => exact ⟨0, rfl, Nat.zero_le _, K6.out, K7.out, HB, HS, ⟨rfl⟩⟩
  case round =>
    obtain ⟨k, rfl, hk, q6, q7, hBr, hsr, hQ⟩ := hrel
    by_cases hlt : k < x.ru.length
    · have hd : x.ru.drop k = x.ru[k] :: x.ru.drop (k + 1) := List.drop_eq_getElem_cons hlt
      have hQ2 := hQ.out
      rw [hd, firstErr] at hQ2
      have HQ2 := As.mk hQ2
      obtain ⟨y, hy⟩ : ∃ y, As (x.ru[k] = y) := ⟨_, ⟨rfl⟩⟩
      rw [hy.out] at HQ2
      obtain ⟨be, oe, B0, d0, B1, d1, rfl, hbe, hry, e0, e1⟩ := HR.out.at hsr.out (i := k) (x := y) (by rw [List.getElem?_eq_getElem hlt, hy.out])
      obtain ⟨_, _, _, _, hcs, hl0, t0, hl1, t1⟩ := hry.open
      simp only [List.cons.injEq, Value.slice.injEq, and_true, true_and] at hcs
      obtain ⟨⟨rfl, rfl⟩, rfl, rfl⟩ := hcs
      have HE := As.mk (ruErr.eq_1 x y)
      have HT0 := As.mk t0
      have HT1 := As.mk t1
      have g0 := t0.len
      have g1 := t1.len
      have hzr := cell_block q6
      clear hd hQ2 hQ hry t0 t1
      by_cases hw : y.ins.length ≠ x.inp.length ∨ y.out.length ≠ x.out.length
      · have HE1 := As.mk (HE.out.trans (if_pos hw))
        have HV := As.mk (HQ2.out.trans (if_neg (by rw [HE1.out]; decide)))
        clear HE HQ2
        by_cases hw1 : y.ins.length = x.inp.length
        · have hw2 : y.out.length ≠ x.out.length := hw.resolve_left (fun h => h hw1)
          have b1 : ((y.ins.length : Int) != (x.inp.length : Int)) = false := by rw [bne_eq_false_iff_eq]; omega
          have b2 : ((y.out.length : Int) != (x.out.length : Int)) = true := by rw [bne_iff_ne]; omega
          clear hw hw1 hw2
          go_wp2
          go_ret
          exact ⟨by rw [HV.out, HE1.out]; rfl, hBr.out.alloc hBr.out.size _⟩
        · have b1 : ((y.ins.length : Int) != (x.inp.length : Int)) = true := by rw [bne_iff_ne]; omega
          clear hw hw1
          go_wp2
          go_ret
          exact ⟨by rw [HV.out, HE1.out]; rfl, hBr.out.alloc hBr.out.size _⟩
      · have HE1 := As.mk (HE.out.trans (if_neg hw))
        have b1 : ((y.ins.length : Int) != (x.inp.length : Int)) = false := by rw [bne_eq_false_iff_eq]; omega
        have b2 : ((y.out.length : Int) != (x.out.length : Int)) = false := by rw [bne_eq_false_iff_eq]; omega
        clear HE hw
        have HBy := As.mk ((Below.refl _ wr).alloc (Nat.le_refl _) (.cells #[.slice B0 y.ins.length d0, .slice B1 y.out.length d1] 65))
        have HSy := As.mk (hsr.out.alloc (.cells #[.slice B0 y.ins.length d0, .slice B1 y.out.length d1] 65))
        have ky1 : As ((wr.alloc (.cells #[.slice B0 y.ins.length d0, .slice B1 y.out.length d1] 65)).cell? ⟨wr.heap.size, 1, none⟩ = some (.slice B1 y.out.length d1)) := ⟨World.cell?_alloc_mark ..⟩
        go_wp2
        go_loopw [35] (fun i wq => ∃ j : Nat, i = .int .i64 j ∧ j ≤ y.ins.length ∧ wq.cell? ⟨wr.heap.size, 1, none⟩ = some (.slice B1 y.out.length d1) ∧ As (Below wr.heap.size wr wq) ∧ As (Sat P wq) ∧ As (firstErr teErr y.ins = firstErr teErr (y.ins.drop j))) (fun i _ => y.ins.length - (intOf i).toNat)
        case atStart => exact ⟨0, rfl, Nat.zero_le _, ky1.out, HBy, HSy, ⟨rfl⟩⟩
        case round =>
          obtain ⟨j, rfl, hj, p1, hBq, hsq, hQq⟩ := hrel
          by_cases hltj : j < y.ins.length
          · have hd : y.ins.drop j = y.ins[j] :: y.ins.drop (j + 1) := List.drop_eq_getElem_cons hltj
            have hQ2 := hQq.out
            rw [hd, firstErr] at hQ2
            have HQq := As.mk hQ2
            obtain ⟨z, hz⟩ : ∃ z, As (y.ins[j] = z) := ⟨_, ⟨rfl⟩⟩
            rw [hz.out] at HQq
            obtain ⟨bz, oz, D2, f2, rfl, hbz, hrz, m0, m1, m2⟩ := HT0.out.at hsq.out (i := j) (x := z) (by rw [List.getElem?_eq_getElem hltj, hz.out])
            have IZ := As.mk (fun W hs => teCheck_calls P G z _ W hrz hs)
            have hzq := cell_block p1
            clear hd hQ2 hQq hrz
            by_cases hv : teErr z = 0
            · rw [hv] at IZ
              have HV := As.mk (HQq.out.trans (if_pos hv))
              clear HQq hv
              go_wp2_with (go_at_call 98; refine (IZ.out _ (hsq.out.alloc _)).mono ?_; rintro e w2 ⟨rfl, hb2⟩)
              have hb3 := Below.then ((Below.refl _ _).alloc (Nat.le_refl _) _) hb2
              go_roundw
              case rel => exact ⟨j + 1, by go_num, by omega, (bcell hb3 _ _ hzq).trans p1, ⟨hBq.out.trans (hb3.mono hBq.out.size)⟩, ⟨hsq.out.below hb3⟩, HV⟩
              case measure => simp [intOf]; omega
            · have h0' : ((teErr z : Int) != 0) = true := by rw [bne_iff_ne]; omega
              have HV := As.mk (HQq.out.trans (if_neg hv))
              have HE2 := As.mk (HE1.out.trans (if_neg (by rw [HV.out]; exact hv)))
              have HV2 := As.mk (HQ2.out.trans (if_neg (by rw [HE2.out, HV.out]; exact hv)))
              clear HQq hv HE1 HQ2
              generalize teErr z = v at *
              go_wp2_with (go_at_call 98; refine (IZ.out _ (hsq.out.alloc _)).mono ?_; rintro e w2 ⟨rfl, hb2⟩)
              go_ret
              have hb3 := Below.then ((Below.refl _ _).alloc (Nat.le_refl _) _) hb2
              exact ⟨by rw [HV2.out, HE2.out, HV.out]; rfl, hBr.out.trans ((hBq.out.trans (hb3.mono hBq.out.size)).mono hBr.out.size)⟩
          · obtain rfl : j = y.ins.length := by omega
            have HZ := As.mk (show firstErr teErr y.ins = 0 by rw [hQq.out, List.drop_length, firstErr])
            have HE2 := As.mk (HE1.out.trans (if_pos HZ.out))
            have IX := As.mk (fun W hs => exprs_calls P G B1 d1 y.out W HT1.out hs)
            clear hQq HE1
            by_cases hv : firstErr expErr y.out = 0
            · rw [hv] at IX
              have HV := As.mk (HQ2.out.trans (if_pos (by rw [HE2.out]; exact hv)))
              clear HQ2 hv
              go_wp2_with (go_at_call 68; refine (IX.out _ hsq.out).mono ?_; rintro e w2 ⟨rfl, hb2⟩)
              have hb3 := hBq.out.trans (hb2.mono hBq.out.size)
              go_roundw
              case rel => exact ⟨k + 1, by go_num, by omega, (bcell hb3 _ _ hzr).trans q6, (bcell hb3 _ _ hzr).trans q7, ⟨hBr.out.trans (hb3.mono hBr.out.size)⟩, ⟨hsr.out.below hb3⟩, HV⟩
              case measure => simp [intOf]; omega
            · have h0' : ((firstErr expErr y.out : Int) != 0) = true := by rw [bne_iff_ne]; omega
              have HV := As.mk (HQ2.out.trans (if_neg (by rw [HE2.out]; exact hv)))
              clear HQ2 hv
              generalize firstErr expErr y.out = v at *
              go_wp2_with (go_at_call 68; refine (IX.out _ hsq.out).mono ?_; rintro e w2 ⟨rfl, hb2⟩)
              go_ret
              have hb3 := hBq.out.trans (hb2.mono hBq.out.size)
              exact ⟨by rw [HV.out, HE2.out]; rfl, hBr.out.trans (hb3.mono hBr.out.size)⟩
    · obtain rfl : k = x.ru.length := by omega
      have HE := As.mk (show firstErr (ruErr x) x.ru = 0 by rw [hQ.out, List.drop_length, firstErr])
      clear hQ
      go_wp2
      go_ret
      exact ⟨by rw [HE.out]; rfl, hBr.out⟩
end Go.Proofs.YtainigjbjfpoaaaGreatDoor
