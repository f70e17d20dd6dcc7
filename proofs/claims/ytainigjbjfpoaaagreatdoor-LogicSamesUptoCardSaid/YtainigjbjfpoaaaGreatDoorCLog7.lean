/- logic.check. -/
import Derived.Test.YtainigjbjfpoaaaGreatDoorCLog6
namespace Go.Proofs.YtainigjbjfpoaaaGreatDoor
open Go.RowKit Go.Shelf Go.Maps

/-- does a context's last name stand for its result? -/
def open_ (x : Lo) : Bool := decide (x.k = 2) && (match x.ns.getLast? with | some s => decide (s.size = 0) | none => false)
/-- the names that are names -/
def given (x : Lo) : List ByteArray := if open_ x then x.ns.take (x.ns.length - 1) else x.ns
/-- what is wrong with one itself -/
def loOwn (x : Lo) : Nat := if x.k < 0 ∨ 3 < x.k then 2 else if form x = false then 17 else fiveErr (given x) x
mutual
def Lo.err : Lo → Nat
  | ⟨k, e, pol, inp, out, ru, ns, l⟩ => if loOwn ⟨k, e, pol, inp, out, ru, ns, l⟩ = 0 then Lo.errs l else loOwn ⟨k, e, pol, inp, out, ru, ns, l⟩
def Lo.errs : List Lo → Nat
  | [] => 0
  | x :: xs => if Lo.err x = 0 then Lo.errs xs else Lo.err x
end
theorem Lo.err_eq (x : Lo) : Lo.err x = if loOwn x = 0 then Lo.errs x.l else loOwn x := by
  cases x
  rw [Lo.err]
theorem Strs.take {P : Pers} {A : Option Addr} {l : List ByteArray} (h : Strs P A l) (n : Nat) : Strs P A (l.take n) := by
  obtain ⟨css, h0, h1, h2⟩ := h
  refine ⟨css, Nat.le_trans (List.length_take_le' _ _) h0, fun i x hx => h1 i x ?_, fun i j v hi hj => h2 i j v (Nat.lt_of_lt_of_le hi (List.length_take_le' _ _)) hj⟩
  rw [List.getElem?_take] at hx
  split at hx
  · exact hx
  · cases hx

set_option maxRecDepth 100000 in
set_option maxHeartbeats 6000000 in
theorem loCheck_calls (P : Pers) (G : Glob P) : ∀ (m : Nat) (x : Lo) (cs : List Value) (w : World), x.sz ≤ m → Lo.Rep P x cs → Sat P w →
    Calls Tryz.prog 27 #[.agg cs.toArray] w fun e w' => e = .returned (.int .i64 (Lo.err x)) ∧ Below w.heap.size w w' := by
  intro m
  induction m with
  | zero => intro x cs w h; cases x; simp [Lo.sz] at h
  | succ m ih =>
    intro x cs w hn hx hs
    have IH := As.mk (fun (y : Lo) (hy : y ∈ x.l) cy w hr hs => ih y cy w (by have := Lo.lt_of_mem hy; omega) hr hs)
    have HQ := As.mk (Lo.err_eq x)
    have HO := As.mk (loOwn.eq_1 x)
    have HF := As.mk (fun w hs => form_calls P G x cs w hx hs)
    have HX := As.mk hx
    obtain ⟨A3, c3, A4, c4, A6, c6, A7, c7, A8, c8, A9, c9, A10, c10, rfl, l3, r3, l4, r4, l6, r6, l7, r7, l8, r8, l9, r9, l10, r10, z2, z5, zk, zk2⟩ := hx.open
    have HR := As.mk r10
    have HN := As.mk r9
    have hlen := r10.len
    have hlen9 := r9.len
    have hB0 : Below w.heap.size w (w.alloc (.cells #[.int .i64 x.k, .int .i64 x.e.k, .string x.e.s, .slice A3 x.e.ns.length c3, .slice A4 x.e.l.length c4, .string x.pol, .slice A6 x.inp.length c6, .slice A7 x.out.length c7, .slice A8 x.ru.length c8, .slice A9 x.ns.length c9, .slice A10 x.l.length c10] 29)) := (Below.refl _ _).alloc (Nat.le_refl _) _
    have HB := As.mk hB0
    have HS := As.mk (hs.alloc (.cells #[.int .i64 x.k, .int .i64 x.e.k, .string x.e.s, .slice A3 x.e.ns.length c3, .slice A4 x.e.l.length c4, .string x.pol, .slice A6 x.inp.length c6, .slice A7 x.out.length c7, .slice A8 x.ru.length c8, .slice A9 x.ns.length c9, .slice A10 x.l.length c10] 29))
    have HK : As (∀ j v, [.int .i64 x.k, .int .i64 x.e.k, .string x.e.s, .slice A3 x.e.ns.length c3, .slice A4 x.e.l.length c4, .string x.pol, .slice A6 x.inp.length c6, .slice A7 x.out.length c7, .slice A8 x.ru.length c8, .slice A9 x.ns.length c9, .slice A10 x.l.length c10][j]? = some v → (w.alloc (.cells #[.int .i64 x.k, .int .i64 x.e.k, .string x.e.s, .slice A3 x.e.ns.length c3, .slice A4 x.e.l.length c4, .string x.pol, .slice A6 x.inp.length c6, .slice A7 x.out.length c7, .slice A8 x.ru.length c8, .slice A9 x.ns.length c9, .slice A10 x.l.length c10] 29)).cell? ⟨w.heap.size, j, none⟩ = some v) := ⟨fun j v h => by rw [World.cell?_alloc_mark]; simpa using h⟩
    have hz0 : w.heap.size < (w.alloc (.cells #[.int .i64 x.k, .int .i64 x.e.k, .string x.e.s, .slice A3 x.e.ns.length c3, .slice A4 x.e.l.length c4, .string x.pol, .slice A6 x.inp.length c6, .slice A7 x.out.length c7, .slice A8 x.ru.length c8, .slice A9 x.ns.length c9, .slice A10 x.l.length c10] 29)).heap.size := by simp
    clear ih hx hs r3 r4 r6 r7 r8 r9 r10 hB0
    by_cases hk : x.k < 0 ∨ 3 < x.k
    · have HO1 := As.mk (HO.out.trans (if_pos hk))
      have HV := As.mk (HQ.out.trans (if_neg (by rw [HO1.out]; decide)))
      clear HO HQ
      rcases hk with hk | hk
      · go_enter Tryz.func27, Tryz.ntmps27
        go_wp2
        go_ret
        exact ⟨by rw [HV.out, HO1.out]; rfl, HB.out⟩
      · have hk1 : ¬ x.k < 0 := by omega
        go_enter Tryz.func27, Tryz.ntmps27
        go_wp2
        go_ret
        exact ⟨by rw [HV.out, HO1.out]; rfl, HB.out⟩
    have HO1 := As.mk (HO.out.trans (if_neg hk))
    have hk1 : 0 ≤ x.k := by omega
    have hk2 : x.k ≤ 3 := by omega
    clear hk HO
    cases hf : form x
    · have HO2 := As.mk (HO1.out.trans (if_pos hf))
      have HV := As.mk (HQ.out.trans (if_neg (by rw [HO2.out]; decide)))
      rw [hf] at HF
      clear HO1 HQ hf
      go_enter Tryz.func27, Tryz.ntmps27
      go_wp2_with (go_at_call 62; refine (HF.out _ HS.out).mono ?_; rintro e w1 ⟨rfl, hb1⟩)
      go_ret
      exact ⟨by rw [HV.out, HO2.out]; rfl, Below.then HB.out hb1⟩
    have HO2 := As.mk (HO1.out.trans (if_neg (by rw [hf]; decide)))
    have HFm := As.mk hf
    rw [hf] at HF
    clear HO1 hf
    by_cases k2 : x.k = 2
    · have hn0 : 0 < x.ns.length := by
        have h := HFm.out
        unfold form at h
        rw [if_neg (by omega), if_neg (by omega), if_pos k2] at h
        simp only [Bool.and_eq_true, decide_eq_true_eq, beq_iff_eq] at h
        omega
      obtain ⟨s, hs⟩ : ∃ s, As (x.ns[x.ns.length - 1]? = some s) := ⟨x.ns[x.ns.length - 1], ⟨List.getElem?_eq_getElem (by omega)⟩⟩
      obtain ⟨b9, o9, rfl, hp9, hsz⟩ := Row.str HN.out hs.out
      have hla : x.ns.getLast? = some s := by rw [List.getLast?_eq_getElem?]; exact hs.out
      have q2 : (x.k == 2) = true := beq_iff_eq.2 k2
      have ho : open_ x = decide (s.size = 0) := by unfold open_; rw [decide_eq_true k2, hla]; rfl
      have he := size_empty s
      have HP9 := As.mk hp9
      have n1 : (0 : Int) ≤ (x.ns.length : Int) - 1 := by omega
      have n2 : (x.ns.length : Int) - 1 < (x.ns.length : Int) := by omega
      have n3 : ((x.ns.length : Int) - 1).toNat = x.ns.length - 1 := by omega
      have n4 : x.ns.length - 1 ≤ c9 := by omega
      clear k2 hla hp9
      cases h0 : decide (s.size = 0)
      · have hg : given x = x.ns := by unfold given; rw [ho, h0]; rfl
        rw [hg] at HO2
        rw [h0] at he
        clear hg ho h0
        go_enter Tryz.func27, Tryz.ntmps27
        go_wp2_with (go_at_call 62; refine (HF.out _ HS.out).mono ?_; rintro e w1 ⟨rfl, hb1⟩; have k0 := fun j v h => (bcell hb1 _ _ hz0).trans (HK.out j v h); have q0 := k0 0 _ rfl; have q9 := k0 9 _ rfl; have q10 := k0 10 _ rfl; have hz1 := cell_block q0; have hB1 := As.mk (Below.then HB.out hb1); have hs1 := As.mk (HS.out.below hb1); have K0 := As.mk k0; have qs := hs1.out _ _ HP9.out; have hz9 := cell_block qs; clear k0 hb1)
        have hbW : Below w1.heap.size w1 (w1.alloc (.cells #[.slice (some ⟨b9, o9, none⟩) x.ns.length c9] 22)) := (Below.refl _ _).alloc (Nat.le_refl _) _
        have H5 := As.mk (five_calls P G x _ (w1.alloc (.cells #[.slice (some ⟨b9, o9, none⟩) x.ns.length c9] 22)) w.heap.size w1.heap.size c9 (some ⟨b9, o9, none⟩) x.ns HX.out (hs1.out.alloc _) (fun j v h => (bcell hbW _ _ hz1).trans (K0.out j v h)) (World.cell?_alloc_mark ..) HN.out (w1.heap.size + 1) (by simp))
        unfold fiveCells at H5
        by_cases hv : fiveErr x.ns x = 0
        · rw [hv] at HO2
          have HV := As.mk (HQ.out.trans (if_pos HO2.out))
          have HI := As.mk (show Lo.errs x.l = Lo.errs (x.l.drop 0) from rfl)
          rw [hv] at H5
          clear hv HQ HO2
          go_wp2_with fail
          refine H5.out.mono ?_
          rintro e w2 ⟨rfl, hb2⟩
          have hb3 := Below.then hbW hb2
          have p10 := (bcell hb3 _ _ hz1).trans q10
          have hB2 := As.mk (hB1.out.trans (hb3.mono hB1.out.size))
          have hs2 := As.mk (hs1.out.below hb3)
          clear hb2 hb3 q9 q10 q0 H5
          go_wp2
          go_loopw [53] (fun i wr => ∃ k : Nat, i = .int .i64 k ∧ k ≤ x.l.length ∧ As (Below w.heap.size w wr) ∧ As (Sat P wr) ∧ As (Lo.errs x.l = Lo.errs (x.l.drop k))) (fun i _ => x.l.length - (intOf i).toNat)
          case atStart => exact ⟨0, rfl, Nat.zero_le _, hB2, hs2, HI⟩
          case round =>
            obtain ⟨k, rfl, hk, hBr, hsr, hQ⟩ := hrel
            by_cases hlt : k < x.l.length
            · have hd : x.l.drop k = x.l[k] :: x.l.drop (k + 1) := List.drop_eq_getElem_cons hlt
              have hQ2 := hQ.out
              rw [hd, Lo.errs] at hQ2
              have HQ2 := As.mk hQ2
              obtain ⟨y, hy⟩ : ∃ y, As (x.l[k] = y) := ⟨_, ⟨rfl⟩⟩
              rw [hy.out] at HQ2
              have hym : y ∈ x.l := hy.out ▸ List.getElem_mem hlt
              obtain ⟨be, oe, B3, d3, B4, d4, B6, d6, B7, d7, B8, d8, B9, d9, B10, d10, rfl, hbe, hry, e0, e1, e2, e3, e4, e5, e6, e7, e8, e9, e10⟩ := HR.out.at hsr.out (i := k) (x := y) (by rw [List.getElem?_eq_getElem hlt, hy.out])
              have IY := As.mk (fun W hs => IH.out y hym _ W hry hs)
              clear hd hQ2 hQ hry
              by_cases hv : Lo.err y = 0
              · have HV2 := As.mk (HQ2.out.trans (if_pos hv))
                rw [hv] at IY
                clear HQ2 hv
                go_wp2_with (go_at_call 27; refine (IY.out _ (hsr.out.alloc _)).mono ?_; rintro e w2 ⟨rfl, hb2⟩)
                have hb3 := Below.then ((Below.refl _ _).alloc (Nat.le_refl _) _) hb2
                go_roundw
                case rel => exact ⟨k + 1, by go_num, by omega, ⟨hBr.out.trans (hb3.mono hBr.out.size)⟩, ⟨hsr.out.below hb3⟩, HV2⟩
                case measure => simp [intOf]; omega
              · have HV2 := As.mk (HQ2.out.trans (if_neg hv))
                have h0' : ((Lo.err y : Int) != 0) = true := by rw [bne_iff_ne]; omega
                clear HQ2 hv
                generalize Lo.err y = v at *
                go_wp2_with (go_at_call 27; refine (IY.out _ (hsr.out.alloc _)).mono ?_; rintro e w2 ⟨rfl, hb2⟩)
                go_ret
                exact ⟨by rw [HV.out, HV2.out]; rfl, hBr.out.trans ((Below.then ((Below.refl _ _).alloc (Nat.le_refl _) _) hb2).mono hBr.out.size)⟩
            · obtain rfl : k = x.l.length := by omega
              have HE := As.mk (show Lo.errs x.l = 0 by rw [hQ.out, List.drop_length, Lo.errs])
              clear hQ
              go_wp2
              go_ret
              exact ⟨by rw [HV.out, HE.out]; rfl, hBr.out⟩
        · have HV := As.mk (HQ.out.trans (if_neg (by rw [HO2.out]; exact hv)))
          have h0' : ((fiveErr x.ns x : Int) != 0) = true := by rw [bne_iff_ne]; omega
          clear hv HQ
          generalize fiveErr x.ns x = v at *
          go_wp2_with fail
          refine H5.out.mono ?_
          rintro e w2 ⟨rfl, hb2⟩
          go_wp2
          go_ret
          exact ⟨by rw [HV.out, HO2.out]; rfl, hB1.out.trans ((Below.then hbW hb2).mono hB1.out.size)⟩
      · have hg : given x = x.ns.take (x.ns.length - 1) := by unfold given; rw [ho, h0]; rfl
        rw [hg] at HO2
        rw [h0] at he
        have hgl : (x.ns.take (x.ns.length - 1)).length = x.ns.length - 1 := by rw [List.length_take]; omega
        have HGL := As.mk hgl
        clear hg ho h0 hgl
        go_enter Tryz.func27, Tryz.ntmps27
        go_wp2_with (go_at_call 62; refine (HF.out _ HS.out).mono ?_; rintro e w1 ⟨rfl, hb1⟩; have k0 := fun j v h => (bcell hb1 _ _ hz0).trans (HK.out j v h); have q0 := k0 0 _ rfl; have q9 := k0 9 _ rfl; have q10 := k0 10 _ rfl; have hz1 := cell_block q0; have hB1 := As.mk (Below.then HB.out hb1); have hs1 := As.mk (HS.out.below hb1); have K0 := As.mk k0; have qs := hs1.out _ _ HP9.out; have hz9 := cell_block qs; clear k0 hb1)
        have hbW : Below w1.heap.size w1 (w1.alloc (.cells #[.slice (some ⟨b9, o9, none⟩) (x.ns.length - 1) c9] 22)) := (Below.refl _ _).alloc (Nat.le_refl _) _
        have H5 := As.mk (five_calls P G x _ (w1.alloc (.cells #[.slice (some ⟨b9, o9, none⟩) (x.ns.length - 1) c9] 22)) w.heap.size w1.heap.size c9 (some ⟨b9, o9, none⟩) (x.ns.take (x.ns.length - 1)) HX.out (hs1.out.alloc _) (fun j v h => (bcell hbW _ _ hz1).trans (K0.out j v h)) (by rw [HGL.out]; exact World.cell?_alloc_mark ..) (Strs.take HN.out _) (w1.heap.size + 1) (by simp))
        unfold fiveCells at H5
        by_cases hv : fiveErr (x.ns.take (x.ns.length - 1)) x = 0
        · rw [hv] at HO2
          have HV := As.mk (HQ.out.trans (if_pos HO2.out))
          have HI := As.mk (show Lo.errs x.l = Lo.errs (x.l.drop 0) from rfl)
          rw [hv] at H5
          clear hv HQ HO2
          go_wp2_with fail
          refine H5.out.mono ?_
          rintro e w2 ⟨rfl, hb2⟩
          have hb3 := Below.then hbW hb2
          have p10 := (bcell hb3 _ _ hz1).trans q10
          have hB2 := As.mk (hB1.out.trans (hb3.mono hB1.out.size))
          have hs2 := As.mk (hs1.out.below hb3)
          clear hb2 hb3 q9 q10 q0 H5
          go_wp2
          go_loopw [53] (fun i wr => ∃ k : Nat, i = .int .i64 k ∧ k ≤ x.l.length ∧ As (Below w.heap.size w wr) ∧ As (Sat P wr) ∧ As (Lo.errs x.l = Lo.errs (x.l.drop k))) (fun i _ => x.l.length - (intOf i).toNat)
          case atStart => exact ⟨0, rfl, Nat.zero_le _, hB2, hs2, HI⟩
          case round =>
            obtain ⟨k, rfl, hk, hBr, hsr, hQ⟩ := hrel
            by_cases hlt : k < x.l.length
            · have hd : x.l.drop k = x.l[k] :: x.l.drop (k + 1) := List.drop_eq_getElem_cons hlt
              have hQ2 := hQ.out
              rw [hd, Lo.errs] at hQ2
              have HQ2 := As.mk hQ2
              obtain ⟨y, hy⟩ : ∃ y, As (x.l[k] = y) := ⟨_, ⟨rfl⟩⟩
              rw [hy.out] at HQ2
              have hym : y ∈ x.l := hy.out ▸ List.getElem_mem hlt
              obtain ⟨be, oe, B3, d3, B4, d4, B6, d6, B7, d7, B8, d8, B9, d9, B10, d10, rfl, hbe, hry, e0, e1, e2, e3, e4, e5, e6, e7, e8, e9, e10⟩ := HR.out.at hsr.out (i := k) (x := y) (by rw [List.getElem?_eq_getElem hlt, hy.out])
              have IY := As.mk (fun W hs => IH.out y hym _ W hry hs)
              clear hd hQ2 hQ hry
              by_cases hv : Lo.err y = 0
              · have HV2 := As.mk (HQ2.out.trans (if_pos hv))
                rw [hv] at IY
                clear HQ2 hv
                go_wp2_with (go_at_call 27; refine (IY.out _ (hsr.out.alloc _)).mono ?_; rintro e w2 ⟨rfl, hb2⟩)
                have hb3 := Below.then ((Below.refl _ _).alloc (Nat.le_refl _) _) hb2
                go_roundw
                case rel => exact ⟨k + 1, by go_num, by omega, ⟨hBr.out.trans (hb3.mono hBr.out.size)⟩, ⟨hsr.out.below hb3⟩, HV2⟩
                case measure => simp [intOf]; omega
              · have HV2 := As.mk (HQ2.out.trans (if_neg hv))
                have h0' : ((Lo.err y : Int) != 0) = true := by rw [bne_iff_ne]; omega
                clear HQ2 hv
                generalize Lo.err y = v at *
                go_wp2_with (go_at_call 27; refine (IY.out _ (hsr.out.alloc _)).mono ?_; rintro e w2 ⟨rfl, hb2⟩)
                go_ret
                exact ⟨by rw [HV.out, HV2.out]; rfl, hBr.out.trans ((Below.then ((Below.refl _ _).alloc (Nat.le_refl _) _) hb2).mono hBr.out.size)⟩
            · obtain rfl : k = x.l.length := by omega
              have HE := As.mk (show Lo.errs x.l = 0 by rw [hQ.out, List.drop_length, Lo.errs])
              clear hQ
              go_wp2
              go_ret
              exact ⟨by rw [HV.out, HE.out]; rfl, hBr.out⟩
        · have HV := As.mk (HQ.out.trans (if_neg (by rw [HO2.out]; exact hv)))
          have h0' : ((fiveErr (x.ns.take (x.ns.length - 1)) x : Int) != 0) = true := by rw [bne_iff_ne]; omega
          clear hv HQ
          generalize fiveErr (x.ns.take (x.ns.length - 1)) x = v at *
          go_wp2_with fail
          refine H5.out.mono ?_
          rintro e w2 ⟨rfl, hb2⟩
          go_wp2
          go_ret
          exact ⟨by rw [HV.out, HO2.out]; rfl, hB1.out.trans ((Below.then hbW hb2).mono hB1.out.size)⟩
    · have q2 : (x.k == 2) = false := beq_eq_false_iff_ne.2 k2
      have hg : given x = x.ns := by unfold given open_; rw [decide_eq_false k2]; rfl
      rw [hg] at HO2
      clear k2 hg
      go_enter Tryz.func27, Tryz.ntmps27
      go_wp2_with (go_at_call 62; refine (HF.out _ HS.out).mono ?_; rintro e w1 ⟨rfl, hb1⟩; have k0 := fun j v h => (bcell hb1 _ _ hz0).trans (HK.out j v h); have q0 := k0 0 _ rfl; have q9 := k0 9 _ rfl; have q10 := k0 10 _ rfl; have hz1 := cell_block q0; have hB1 := As.mk (Below.then HB.out hb1); have hs1 := As.mk (HS.out.below hb1); have K0 := As.mk k0; clear k0 hb1)
      have hbW : Below w1.heap.size w1 (w1.alloc (.cells #[.slice A9 x.ns.length c9] 22)) := (Below.refl _ _).alloc (Nat.le_refl _) _
      have H5 := As.mk (five_calls P G x _ (w1.alloc (.cells #[.slice A9 x.ns.length c9] 22)) w.heap.size w1.heap.size c9 A9 x.ns HX.out (hs1.out.alloc _) (fun j v h => (bcell hbW _ _ hz1).trans (K0.out j v h)) (World.cell?_alloc_mark ..) HN.out (w1.heap.size + 1) (by simp))
      unfold fiveCells at H5
      by_cases hv : fiveErr x.ns x = 0
      · rw [hv] at HO2
        have HV := As.mk (HQ.out.trans (if_pos HO2.out))
        have HI := As.mk (show Lo.errs x.l = Lo.errs (x.l.drop 0) from rfl)
        rw [hv] at H5
        clear hv HQ HO2
        go_wp2_with fail
        refine H5.out.mono ?_
        rintro e w2 ⟨rfl, hb2⟩
        have hb3 := Below.then hbW hb2
        have p10 := (bcell hb3 _ _ hz1).trans q10
        have hB2 := As.mk (hB1.out.trans (hb3.mono hB1.out.size))
        have hs2 := As.mk (hs1.out.below hb3)
        clear hb2 hb3 q9 q10 q0 H5
        go_wp2
        go_loopw [53] (fun i wr => ∃ k : Nat, i = .int .i64 k ∧ k ≤ x.l.length ∧ As (Below w.heap.size w wr) ∧ As (Sat P wr) ∧ As (Lo.errs x.l = Lo.errs (x.l.drop k))) (fun i _ => x.l.length - (intOf i).toNat)
        case atStart => exact ⟨0, rfl, Nat.zero_le _, hB2, hs2, HI⟩
        case round =>
          obtain ⟨k, rfl, hk, hBr, hsr, hQ⟩ := hrel
          by_cases hlt : k < x.l.length
          · have hd : x.l.drop k = x.l[k] :: x.l.drop (k + 1) := List.drop_eq_getElem_cons hlt
            have hQ2 := hQ.out
            rw [hd, Lo.errs] at hQ2
            have HQ2 := As.mk hQ2
            obtain ⟨y, hy⟩ : ∃ y, As (x.l[k] = y) := ⟨_, ⟨rfl⟩⟩
            rw [hy.out] at HQ2
            have hym : y ∈ x.l := hy.out ▸ List.getElem_mem hlt
            obtain ⟨be, oe, B3, d3, B4, d4, B6, d6, B7, d7, B8, d8, B9, d9, B10, d10, rfl, hbe, hry, e0, e1, e2, e3, e4, e5, e6, e7, e8, e9, e10⟩ := HR.out.at hsr.out (i := k) (x := y) (by rw [List.getElem?_eq_getElem hlt, hy.out])
            have IY := As.mk (fun W hs => IH.out y hym _ W hry hs)
            clear hd hQ2 hQ hry
            by_cases hv : Lo.err y = 0
            · have HV2 := As.mk (HQ2.out.trans (if_pos hv))
              rw [hv] at IY
              clear HQ2 hv
              go_wp2_with (go_at_call 27; refine (IY.out _ (hsr.out.alloc _)).mono ?_; rintro e w2 ⟨rfl, hb2⟩)
              have hb3 := Below.then ((Below.refl _ _).alloc (Nat.le_refl _) _) hb2
              go_roundw
              case rel => exact ⟨k + 1, by go_num, by omega, ⟨hBr.out.trans (hb3.mono hBr.out.size)⟩, ⟨hsr.out.below hb3⟩, HV2⟩
              case measure => simp [intOf]; omega
            · have HV2 := As.mk (HQ2.out.trans (if_neg hv))
              have h0' : ((Lo.err y : Int) != 0) = true := by rw [bne_iff_ne]; omega
              clear HQ2 hv
              generalize Lo.err y = v at *
              go_wp2_with (go_at_call 27; refine (IY.out _ (hsr.out.alloc _)).mono ?_; rintro e w2 ⟨rfl, hb2⟩)
              go_ret
              exact ⟨by rw [HV.out, HV2.out]; rfl, hBr.out.trans ((Below.then ((Below.refl _ _).alloc (Nat.le_refl _) _) hb2).mono hBr.out.size)⟩
          · obtain rfl : k = x.l.length := by omega
            have HE := As.mk (show Lo.errs x.l = 0 by rw [hQ.out, List.drop_length, Lo.errs])
            clear hQ
            go_wp2
            go_ret
            exact ⟨by rw [HV.out, HE.out]; rfl, hBr.out⟩
      · have HV := As.mk (HQ.out.trans (if_neg (by rw [HO2.out]; exact hv)))
        have h0' : ((fiveErr x.ns x : Int) != 0) = true := by rw [bne_iff_ne]; omega
        clear hv HQ
        generalize fiveErr x.ns x = v at *
        go_wp2_with fail
        refine H5.out.mono ?_
        rintro e w2 ⟨rfl, hb2⟩
        go_wp2
        go_ret
        exact ⟨by rw [HV.out, HO2.out]; rfl, hB1.out.trans ((Below.then hbW hb2).mono hB1.out.size)⟩
end Go.Proofs.YtainigjbjfpoaaaGreatDoor
