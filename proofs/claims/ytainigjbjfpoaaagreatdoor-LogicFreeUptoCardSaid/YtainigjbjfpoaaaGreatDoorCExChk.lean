/- expr.check, Check. -/
/- expr.Check. -/
import Derived.Test.YtainigjbjfpoaaaGreatDoorCOwn3
import Derived.Test.YtainigjbjfpoaaaGreatDoorCSame
namespace Go.Proofs.YtainigjbjfpoaaaGreatDoor
open Go.RowKit Go.Shelf Go.Maps

mutual
/-- what is wrong with one and its parts -/
def Ex.err : Ex → Bool → Nat
  | ⟨k, s, ns, l⟩, t => if ownErr ⟨k, s, ns, l⟩ t = 0 then Ex.errs k l 0 else ownErr ⟨k, s, ns, l⟩ t
def Ex.errs (k : Int) : List Ex → Nat → Nat
  | [], _ => 0
  | y :: ys, i => if Ex.err y (k == 7 && i == 1) = 0 then Ex.errs k ys (i + 1) else Ex.err y (k == 7 && i == 1)
end
theorem Ex.err_eq (x : Ex) (t : Bool) : Ex.err x t = if ownErr x t = 0 then Ex.errs x.k x.l 0 else ownErr x t := by
  cases x
  rw [Ex.err]
theorem int_beq_one (k : Nat) : ((k : Int) == 1) = (k == 1) := by
  rw [Bool.eq_iff_iff, beq_iff_eq, beq_iff_eq]
  omega

set_option maxRecDepth 100000 in
set_option maxHeartbeats 2000000 in
theorem exCheck0_calls (P : Pers) (G : Glob P) (b n : Nat) (f : Int → Option Value) (hf : RowsOk P f) : ∀ (m : Nat) (x : Ex) (cs : List Value) (test : Bool) (w : World), x.sz ≤ m → Ex.Rep P x cs → Sat P w → IMap 139 158 w b n f →
    Calls Tryz.prog 124 #[.map (some b), .agg cs.toArray, .bool test] w fun e w' => e = .returned (.int .i64 (Ex.err x test)) ∧ Below w.heap.size w w' := by
  intro m
  induction m with
  | zero => intro x cs test w h; cases x; simp [Ex.sz] at h
  | succ m ih =>
    intro x cs test w hn hx hs hm
    have HO := As.mk (fun w hs hm => own_calls P G b n f hf x cs test w hx hs hm)
    have IH := As.mk (fun (y : Ex) (hy : y ∈ x.l) cy t w hr hs hm => ih y cy t w (by have := Ex.lt_of_mem hy; omega) hr hs hm)
    have HQ := As.mk (Ex.err_eq x test)
    obtain ⟨A2, c2, A3, c3, rfl, l2, r2, l3, r3, z1, zk⟩ := hx.open
    have hB0 : Below w.heap.size w (w.alloc (.cells #[.int .i64 x.k, .string x.s, .slice A2 x.ns.length c2, .slice A3 x.l.length c3] 25)) := (Below.refl _ _).alloc (Nat.le_refl _) _
    have hs0 := hs.alloc (.cells #[.int .i64 x.k, .string x.s, .slice A2 x.ns.length c2, .slice A3 x.l.length c3] 25)
    have hm0 := hm.alloc (.cells #[.int .i64 x.k, .string x.s, .slice A2 x.ns.length c2, .slice A3 x.l.length c3] 25)
    have hk0 : (w.alloc (.cells #[.int .i64 x.k, .string x.s, .slice A2 x.ns.length c2, .slice A3 x.l.length c3] 25)).cell? ⟨w.heap.size, 0, none⟩ = some (.int .i64 x.k) := World.cell?_alloc_mark ..
    have hk3 : (w.alloc (.cells #[.int .i64 x.k, .string x.s, .slice A2 x.ns.length c2, .slice A3 x.l.length c3] 25)).cell? ⟨w.heap.size, 3, none⟩ = some (.slice A3 x.l.length c3) := World.cell?_alloc_mark ..
    have hz0 : w.heap.size < (w.alloc (.cells #[.int .i64 x.k, .string x.s, .slice A2 x.ns.length c2, .slice A3 x.l.length c3] 25)).heap.size := by simp
    have HB := As.mk hB0
    have HS := As.mk hs0
    have HM := As.mk hm0
    have HK0 := As.mk hk0
    have HK3 := As.mk hk3
    have HR := As.mk r3
    have hlen := r3.len
    clear hB0 hs0 hm0 hk0 hk3 ih hx hs hm r2 r3
    by_cases h0 : ownErr x test = 0
    · rw [h0] at HO
      rw [if_pos h0] at HQ
      clear h0
      go_enter Tryz.func124, Tryz.ntmps124
      go_wp2_with (go_at_call 146; refine (HO.out _ HS.out HM.out).mono ?_; rintro e w1 ⟨rfl, hb1⟩; have k0 := (bcell hb1 _ _ hz0).trans HK0.out; have k3 := (bcell hb1 _ _ hz0).trans HK3.out; have hB := As.mk (Below.then HB.out hb1); have hs1 := As.mk (HS.out.below hb1); have hm1 := As.mk (HM.out.below HM.out.lt hb1); have hz1 := cell_block k0; clear hb1)
      go_loopw [21] (fun i wr => ∃ k : Nat, i = .int .i64 k ∧ k ≤ x.l.length ∧ wr.cell? ⟨w.heap.size, 0, none⟩ = some (.int .i64 x.k) ∧ As (Below w.heap.size w wr) ∧ As (Sat P wr) ∧ As (IMap 139 158 wr b n f) ∧ As (Ex.err x test = Ex.errs x.k (x.l.drop k) k)) (fun i _ => x.l.length - (intOf i).toNat)
      case atStart => exact ⟨0, rfl, Nat.zero_le _, k0, hB, hs1, hm1, HQ⟩
      case round =>
        obtain ⟨k, rfl, hk, kr, hBr, hsr, hmr, hQ⟩ := hrel
        clear k0 k3 hB hs1 hm1
        by_cases hlt : k < x.l.length
        · have hd : x.l.drop k = x.l[k] :: x.l.drop (k + 1) := List.drop_eq_getElem_cons hlt
          have hQ2 := hQ.out
          rw [hd, Ex.errs] at hQ2
          have HQ2 := As.mk hQ2
          obtain ⟨y, hy⟩ : ∃ y, As (x.l[k] = y) := ⟨_, ⟨rfl⟩⟩
          rw [hy.out] at HQ2
          have hym : y ∈ x.l := hy.out ▸ List.getElem_mem hlt
          obtain ⟨be, oe, B2, d2, B3, d3, rfl, hbe, hry, e0, e1, e2, e3⟩ := HR.out.at hsr.out (i := k) (x := y) (by rw [List.getElem?_eq_getElem hlt, hy.out])
          have HY := As.mk hry
          clear hd hQ2 hQ hry
          have hzr := cell_block kr
          rcases chain2 (x.k == 7) ((k : Int) == 1) with q | ⟨q, q'⟩ | ⟨q, q'⟩
          · have ht : (x.k == 7 && k == 1) = false := by rw [← int_beq_one, q]; rfl
            rw [ht] at HQ2
            clear ht
            by_cases hv : Ex.err y false = 0
            · have HV := As.mk (HQ2.out.trans (if_pos hv))
              have IY := As.mk (fun W hs hm => IH.out y hym _ false W HY.out hs hm)
              rw [hv] at IY
              clear HQ2 hv
              go_wp2_with (go_at_call 124; refine (IY.out _ (hsr.out.alloc _) (hmr.out.alloc _)).mono ?_; rintro e w2 ⟨rfl, hb2⟩)
              have hb3 := Below.then ((Below.refl _ wr).alloc (Nat.le_refl _) _) hb2
              go_roundw
              case rel => exact ⟨k + 1, by go_num, by omega, (bcell hb3 _ _ hzr).trans kr, ⟨hBr.out.trans (hb3.mono hBr.out.size)⟩, ⟨hsr.out.below hb3⟩, ⟨hmr.out.below hmr.out.lt hb3⟩, HV⟩
              case measure => simp [intOf]; omega
            · have HV := As.mk (HQ2.out.trans (if_neg hv))
              have IY := As.mk (fun W hs hm => IH.out y hym _ false W HY.out hs hm)
              have h0' : ((Ex.err y false : Int) != 0) = true := by rw [bne_iff_ne]; omega
              clear HQ2 hv
              generalize Ex.err y false = v at *
              go_wp2_with (go_at_call 124; refine (IY.out _ (hsr.out.alloc _) (hmr.out.alloc _)).mono ?_; rintro e w2 ⟨rfl, hb2⟩)
              go_ret
              exact ⟨by rw [HV.out]; rfl, hBr.out.trans ((Below.then ((Below.refl _ wr).alloc (Nat.le_refl _) _) hb2).mono hBr.out.size)⟩
          · have ht : (x.k == 7 && k == 1) = false := by rw [← int_beq_one, q, q']; rfl
            rw [ht] at HQ2
            clear ht
            by_cases hv : Ex.err y false = 0
            · have HV := As.mk (HQ2.out.trans (if_pos hv))
              have IY := As.mk (fun W hs hm => IH.out y hym _ false W HY.out hs hm)
              rw [hv] at IY
              clear HQ2 hv
              go_wp2_with (go_at_call 124; refine (IY.out _ (hsr.out.alloc _) (hmr.out.alloc _)).mono ?_; rintro e w2 ⟨rfl, hb2⟩)
              have hb3 := Below.then ((Below.refl _ wr).alloc (Nat.le_refl _) _) hb2
              go_roundw
              case rel => exact ⟨k + 1, by go_num, by omega, (bcell hb3 _ _ hzr).trans kr, ⟨hBr.out.trans (hb3.mono hBr.out.size)⟩, ⟨hsr.out.below hb3⟩, ⟨hmr.out.below hmr.out.lt hb3⟩, HV⟩
              case measure => simp [intOf]; omega
            · have HV := As.mk (HQ2.out.trans (if_neg hv))
              have IY := As.mk (fun W hs hm => IH.out y hym _ false W HY.out hs hm)
              have h0' : ((Ex.err y false : Int) != 0) = true := by rw [bne_iff_ne]; omega
              clear HQ2 hv
              generalize Ex.err y false = v at *
              go_wp2_with (go_at_call 124; refine (IY.out _ (hsr.out.alloc _) (hmr.out.alloc _)).mono ?_; rintro e w2 ⟨rfl, hb2⟩)
              go_ret
              exact ⟨by rw [HV.out]; rfl, hBr.out.trans ((Below.then ((Below.refl _ wr).alloc (Nat.le_refl _) _) hb2).mono hBr.out.size)⟩
          · have ht : (x.k == 7 && k == 1) = true := by rw [← int_beq_one, q, q']; rfl
            rw [ht] at HQ2
            clear ht
            by_cases hv : Ex.err y true = 0
            · have HV := As.mk (HQ2.out.trans (if_pos hv))
              have IY := As.mk (fun W hs hm => IH.out y hym _ true W HY.out hs hm)
              rw [hv] at IY
              clear HQ2 hv
              go_wp2_with (go_at_call 124; refine (IY.out _ (hsr.out.alloc _) (hmr.out.alloc _)).mono ?_; rintro e w2 ⟨rfl, hb2⟩)
              have hb3 := Below.then ((Below.refl _ wr).alloc (Nat.le_refl _) _) hb2
              go_roundw
              case rel => exact ⟨k + 1, by go_num, by omega, (bcell hb3 _ _ hzr).trans kr, ⟨hBr.out.trans (hb3.mono hBr.out.size)⟩, ⟨hsr.out.below hb3⟩, ⟨hmr.out.below hmr.out.lt hb3⟩, HV⟩
              case measure => simp [intOf]; omega
            · have HV := As.mk (HQ2.out.trans (if_neg hv))
              have IY := As.mk (fun W hs hm => IH.out y hym _ true W HY.out hs hm)
              have h0' : ((Ex.err y true : Int) != 0) = true := by rw [bne_iff_ne]; omega
              clear HQ2 hv
              generalize Ex.err y true = v at *
              go_wp2_with (go_at_call 124; refine (IY.out _ (hsr.out.alloc _) (hmr.out.alloc _)).mono ?_; rintro e w2 ⟨rfl, hb2⟩)
              go_ret
              exact ⟨by rw [HV.out]; rfl, hBr.out.trans ((Below.then ((Below.refl _ wr).alloc (Nat.le_refl _) _) hb2).mono hBr.out.size)⟩
        · obtain rfl : k = x.l.length := by omega
          have HE := As.mk (show Ex.err x test = 0 by rw [hQ.out, List.drop_length, Ex.errs])
          clear hQ
          go_wp2
          go_ret
          exact ⟨by rw [HE.out]; rfl, hBr.out⟩
    · rw [if_neg h0] at HQ
      have h0' : ((ownErr x test : Int) != 0) = true := by rw [bne_iff_ne]; omega
      clear h0
      generalize ownErr x test = v at *
      go_enter Tryz.func124, Tryz.ntmps124
      go_wp2_with (go_at_call 146; refine (HO.out _ HS.out HM.out).mono ?_; rintro e w1 ⟨rfl, hb1⟩)
      go_ret
      exact ⟨by rw [HQ.out]; rfl, Below.then HB.out hb1⟩
end Go.Proofs.YtainigjbjfpoaaaGreatDoor

namespace Go.Proofs.YtainigjbjfpoaaaGreatDoor
open Go.RowKit Go.Shelf Go.Maps

/-- what is wrong with an expression -/
def exErr (x : Ex) : Nat := if deeper 200 x then 9 else Ex.err x true

/-- a world's cells, besides -/
def Pers.snap (P : Pers) (W : World) : Pers := fun a v => P a v ∨ W.cell? a = some v
theorem Pers.le_snap (P : Pers) (W : World) : PLe P (P.snap W) := fun _ _ h => .inl h
theorem Sat.snap {P : Pers} {W : World} (h : Sat P W) : Sat (P.snap W) W := fun a v p => p.elim (h a v) id

theorem keep4 {P : Pers} {w W W' : World} {b : Nat} {v0 v1 v2 v3 : Value} (hb : Below W.heap.size W W') (h : W.cell? ⟨b, 0, none⟩ = some v0 ∧ W.cell? ⟨b, 1, none⟩ = some v1 ∧ W.cell? ⟨b, 2, none⟩ = some v2 ∧ W.cell? ⟨b, 3, none⟩ = some v3 ∧ Below w.heap.size w W ∧ Sat P W) :
    W'.cell? ⟨b, 0, none⟩ = some v0 ∧ W'.cell? ⟨b, 1, none⟩ = some v1 ∧ W'.cell? ⟨b, 2, none⟩ = some v2 ∧ W'.cell? ⟨b, 3, none⟩ = some v3 ∧ Below w.heap.size w W' ∧ Sat P W' :=
  let ⟨h0, h1, h2, h3, h4, h5⟩ := h
  ⟨(bcell hb _ _ (cell_block h0)).trans h0, (bcell hb _ _ (cell_block h0)).trans h1, (bcell hb _ _ (cell_block h0)).trans h2, (bcell hb _ _ (cell_block h0)).trans h3, Below.then h4 hb, h5.below hb⟩

set_option maxRecDepth 100000 in
set_option maxHeartbeats 1000000 in
theorem exCheck_calls (P : Pers) (G : Glob P) (x : Ex) (cs : List Value) (w : World) (hx : Ex.Rep P x cs) (hs : Sat P w) :
    Calls Tryz.prog 97 #[.agg cs.toArray] w fun e w' => e = .returned (.int .i64 (exErr x)) ∧ Below w.heap.size w w' := by
  have HD := As.mk (fun w hs => exDeep_calls 200 P x cs w (by omega) hx hs)
  have HX := As.mk hx
  have hE := As.mk (exErr.eq_1 x)
  obtain ⟨A2, c2, A3, c3, rfl, _⟩ := hx.open
  have HB := As.mk ((Below.refl _ w).alloc (Nat.le_refl _) (.cells #[.int .i64 x.k, .string x.s, .slice A2 x.ns.length c2, .slice A3 x.l.length c3] 25))
  have HS := As.mk (hs.alloc (.cells #[.int .i64 x.k, .string x.s, .slice A2 x.ns.length c2, .slice A3 x.l.length c3] 25))
  have HK : ∀ j, (w.alloc (.cells #[.int .i64 x.k, .string x.s, .slice A2 x.ns.length c2, .slice A3 x.l.length c3] 25)).cell? ⟨w.heap.size, j, none⟩ = _ := fun j => World.cell?_alloc_mark ..
  have hz0 : w.heap.size < (w.alloc (.cells #[.int .i64 x.k, .string x.s, .slice A2 x.ns.length c2, .slice A3 x.l.length c3] 25)).heap.size := by simp
  have HK := As.mk HK
  clear hx hs
  rename_i HK0
  clear HK0
  cases hd : deeper 200 x
  · rw [hd] at HD hE
    go_enter Tryz.func97, Tryz.ntmps97
    go_wp2_with (go_at_call 123; refine (HD.out _ HS.out).mono ?_; rintro e w1 ⟨rfl, hb1⟩; have k0 := (bcell hb1 _ _ hz0).trans (HK.out 0); have k1 := (bcell hb1 _ _ hz0).trans (HK.out 1); have k2 := (bcell hb1 _ _ hz0).trans (HK.out 2); have k3 := (bcell hb1 _ _ hz0).trans (HK.out 3); have hB := Below.then HB.out hb1; have hs1 := HS.out.below hb1; have hz1 := cell_block k0; clear hb1; simp only [List.getElem?_toArray, List.getElem?_cons_zero, List.getElem?_cons_succ] at k0 k1 k2 k3)
    go_region_held3 (fun W => W.cell? ⟨w.heap.size, 0, none⟩ = some (.int .i64 x.k) ∧ W.cell? ⟨w.heap.size, 1, none⟩ = some (.string x.s) ∧ W.cell? ⟨w.heap.size, 2, none⟩ = some (.slice A2 x.ns.length c2) ∧ W.cell? ⟨w.heap.size, 3, none⟩ = some (.slice A3 x.l.length c3) ∧ Below w.heap.size w W ∧ Sat P W)
      (first
        | exact ⟨k0, k1, k2, k3, hB.drew, hs1.drew⟩
        | (go_split_ands
           first
             | (refine ⟨?_, ?_, ?_, ?_, ?_, ?_⟩ <;> assumption)
             | exact keep4 hb5 ⟨by assumption, by assumption, by assumption, by assumption, by assumption, by assumption⟩
             | exact keep4 hb4 ⟨by assumption, by assumption, by assumption, by assumption, by assumption, by assumption⟩))
      (first
        | (go_at_call 125; refine (rows_calls _).mono ?_; rintro e w4 ⟨b, n, B0, B1, B2, B3, B4, rfl, hm, o0, o1, o2, o3, o4, hb4⟩)
        | (go_at_call 124; refine (exCheck0_calls (P.snap w4) (G.mono (Pers.le_snap _ _)) b n _ (rows_ok (G.mono (Pers.le_snap _ _)) (fun _ _ h => .inr h) o0 o1 o2 o3 o4) x.sz x _ true _ (Nat.le_refl _) (HX.out.mono (Pers.le_snap _ _)) (Sat.snap (by go_split_ands; assumption)) hm).mono ?_; rintro e w5 ⟨rfl, hb5⟩))
    go_wp2
    go_ret
    exact ⟨by rw [hE.out]; rfl, by go_split_ands; assumption⟩
  · rw [hd] at HD hE
    go_enter Tryz.func97, Tryz.ntmps97
    go_wp2_with (go_at_call 123; refine (HD.out _ HS.out).mono ?_; rintro e w1 ⟨rfl, hb1⟩)
    go_ret
    exact ⟨by rw [hE.out]; rfl, Below.then HB.out hb1⟩
end Go.Proofs.YtainigjbjfpoaaaGreatDoor
