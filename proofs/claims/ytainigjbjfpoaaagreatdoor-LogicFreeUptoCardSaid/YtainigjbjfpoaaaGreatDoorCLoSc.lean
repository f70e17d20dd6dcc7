/- logic.Scoped: the walk. -/
import Derived.Test.YtainigjbjfpoaaaGreatDoorCExSc
import Derived.Deep.RegionHeld3
namespace Go.Proofs.YtainigjbjfpoaaaGreatDoor
open Go.RowKit Go.Shelf Go.Maps

/-- a cell that holds an error -/
abbrev ErrAt (W : World) (b n : Nat) : Prop := W.heap[b]? = some (.cells #[.int .i64 n] 32)
theorem ErrAt.cell {W : World} {b n : Nat} (h : ErrAt W b n) : W.cell? ⟨b, 0, none⟩ = some (.int .i64 n) := cell_of_row _ _ 0 _ _ _ h
theorem ErrAt.froz {W : World} {b n : Nat} (h : ErrAt W b n) : W.frozen? ⟨b, 0, none⟩ = false := frozen_of_row _ _ 0 _ _ h
theorem ErrAt.lt {W : World} {b n : Nat} (h : ErrAt W b n) : b < W.heap.size := (Array.getElem?_eq_some_iff.1 h).1
theorem ErrAt.below {W W' : World} {b n : Nat} (h : ErrAt W b n) (hb : Below W.heap.size W W') : ErrAt W' b n := (hb.block b h.lt).trans h
theorem ErrAt.set {W : World} {b n : Nat} (h : ErrAt W b n) (m : Nat) : ErrAt (W.setCell ⟨b, 0, none⟩ (.int .i64 m)) b m := heap_setCell_same W b 0 _ _ _ h

theorem err_new {W V : World} {n : Nat} (hW : W = V.alloc (.cells #[.int .i64 0] 32)) (hn : V.heap.size = n) : ErrAt W n 0 := by
  subst hW
  subst hn
  exact heap_alloc_new V _

set_option maxRecDepth 100000 in
set_option maxHeartbeats 1000000 in
theorem sc1_calls (P : Pers) (G : Glob P) (y : Ex) (cy : List Value) (a : Option Addr) (ls : List (List ByteArray)) (b1 b2 e0 : Nat) (W : World) (hy : Ex.Rep P y cy) (hsc : ScOk P a ls) (hs : Sat P W) (hn : (scN ls).length ≤ 4096)
    (h1 : W.cell? ⟨b1, 0, none⟩ = some (.pointer a)) (h2 : ErrAt W b2 e0) :
    Calls Tryz.prog 46 #[.agg cy.toArray, .pointer (some ⟨b1, 0, none⟩), .pointer (some ⟨b2, 0, none⟩)] W fun e w' => e = .returned (.bool (Ex.sc y (scN ls) == 0)) ∧ ∃ W', Below W.heap.size W W' ∧ w' = W'.setCell ⟨b2, 0, none⟩ (.int .i64 (Ex.sc y (scN ls))) := by
  have HY := As.mk hy
  obtain ⟨A2, c2, A3, c3, rfl, l2, r2, l3, r3, z1, zk⟩ := hy.open
  have HE := As.mk (fun V (hv : Sat P V) => exScoped_calls y.sz P G y _ a ls V (Nat.le_refl _) HY.out hsc hv hn)
  have HS := As.mk hs
  have H1 := As.mk h1
  have H2 := As.mk h2
  clear hy r2 r3 zk z1 hsc hs h1 h2 hn G
  go_enter Tryz.func46, Tryz.ntmps46
  go_upto_region 1 with fail
  refine wp_abs ?_
  intro w1 hw1
  have hb := show Below W.heap.size W w1 by rw [hw1]; exact (Below.refl _ _).alloc (Nat.le_refl _) _
  have HK := As.mk (show RowAt w1 W.heap.size _ from row_at hw1 rfl)
  have HB := As.mk hb
  have HS1 := As.mk (HS.out.below hb)
  have q1 : w1.cell? ⟨b1, 0, none⟩ = some (.pointer a) := Cells.below hb _ _ H1.out
  obtain ⟨n, hn⟩ : ∃ n, As (Ex.sc y (scN ls) = n) := ⟨_, ⟨rfl⟩⟩
  rw [hn.out] at HE
  have HEC := As.mk (HE.out w1 HS1.out)
  obtain ⟨k0, k1, k2, k3⟩ := cells4 HK.out
  clear hw1 hb
  go_wp2_with fail
  refine HEC.out.mono ?_
  rintro e w2 ⟨rfl, hb2⟩
  have H22 := (H2.out.below HB.out).below hb2
  have q2 := H22.cell
  have f2 := H22.froz
  have HB2 := As.mk (HB.out.trans (hb2.mono HB.out.size))
  clear hb2 H22 k0 k1 k2 k3
  go_wp2_with fail
  go_ret
  refine ⟨?_, w2, HB2.out, ?_⟩
  · rw [hn.out]
    have : ((n : Int) == 0) = (n == 0) := by rw [Bool.eq_iff_iff, beq_iff_eq, beq_iff_eq]; omega
    rw [← this]; rfl
  · rw [hn.out]

/-- whether a right logic's names are in scope -/
def Lo.sc (x : Lo) (N : List ByteArray) : Nat := if x.in_ N = true then 0 else 13
theorem Lo.sc_zero {x : Lo} {N : List ByteArray} (h : x.in_ N = true) : Lo.sc x N = 0 := if_pos h
theorem Lo.sc_thirteen {x : Lo} {N : List ByteArray} (h : ¬ x.in_ N = true) : Lo.sc x N = 13 := if_neg h

/-- what holds while a logic's expressions are asked -/
structure EachR (P : Pers) (N : List ByteArray) (w : World) (a : Option Addr) (b1 b2 : Nat) (ca : List Value) (pre : List Ex) (W : World) : Prop where
  sat : Sat P W
  below : Below w.heap.size w W
  box : RowAt W w.heap.size ca
  ptr : W.cell? ⟨b1, 0, none⟩ = some (.pointer a)
  err : ErrAt W b2 0
  fine : ∀ y ∈ pre, y.in_ N = true
structure EachS (P : Pers) (N : List ByteArray) (w : World) (x : Lo) (b2 : Nat) (W : World) : Prop where
  below : Below w.heap.size w W
  err : ErrAt W b2 13
  bad : ∃ y ∈ x.parts, ¬ y.in_ N = true
theorem EachR.alloc {P : Pers} {N : List ByteArray} {w : World} {a : Option Addr} {b1 b2 : Nat} {ca : List Value} {pre : List Ex} {W : World} (h : EachR P N w a b1 b2 ca pre W) (o : Obj) : EachR P N w a b1 b2 ca pre (W.alloc o) := by
  have hb : Below W.heap.size W (W.alloc o) := (Below.refl _ _).alloc (Nat.le_refl _) o
  exact ⟨h.sat.alloc o, h.below.alloc h.below.size o, h.box.below hb, Cells.below hb _ _ h.ptr, h.err.below hb, h.fine⟩
theorem set_other {W : World} {b : Nat} {u : Value} {p : Addr} {v : Value} (h : W.cell? p = some v) (hne : p.block ≠ b) : (W.setCell ⟨b, 0, none⟩ u).cell? p = some v := by
  rw [World.cell?_of_block (heap_setCell_other W ⟨b, 0, none⟩ p.block u hne)]
  exact h
theorem EachR.step {P : Pers} {N : List ByteArray} {w : World} {a : Option Addr} {b1 b2 : Nat} {ca : List Value} {pre : List Ex} {W W' : World} {y : Ex} (h : EachR P N w a b1 b2 ca pre W) (hw : Sat P w) (h2 : w.heap.size < b2) (h12 : b1 ≠ b2) (hb : Below W.heap.size W W') (hy : y.in_ N = true) :
    EachR P N w a b1 b2 ca (pre ++ [y]) (W'.setCell ⟨b2, 0, none⟩ (.int .i64 (0 : Nat))) := by
  refine ⟨?_, ?_, fun j v hj => ?_, ?_, (h.err.below hb).set 0, fun z hz => ?_⟩
  · exact (h.sat.below hb).set (hw.fresh (by show w.heap.size ≤ b2; omega)) _
  · exact (h.below.trans (hb.mono h.below.size)).setCell (by show w.heap.size ≤ b2; omega) _
  · exact set_other ((h.box.below hb) j v hj) (by show w.heap.size ≠ b2; omega)
  · exact set_other (Cells.below hb _ _ h.ptr) h12
  · rcases List.mem_append.1 hz with hz | hz
    · exact h.fine z hz
    · simp at hz; subst hz; exact hy
theorem Above.set {n : Nat} {A B : World} {b : Nat} {u : Value} (h : Below A.heap.size A B) (hb : b < n) : Above n A (B.setCell ⟨b, 0, none⟩ u) :=
  ⟨fun p v hp hv => set_other (Cells.below h p v hv) (by omega), by have := h.size; simp; omega⟩

theorem ErrAt.same {W : World} {b n : Nat} (h : ErrAt W b n) (p : Addr) : (W.setCell ⟨b, 0, none⟩ (.int .i64 n)).cell? p = W.cell? p := by
  refine World.cell?_of_block ?_
  by_cases e : p.block = b
  · subst e
    rw [h.set n, h]
  · exact heap_setCell_other W ⟨b, 0, none⟩ p.block _ e
structure LoKeep (P : Pers) (w w3 : World) (b2 : Nat) (W : World) : Prop where
  below : Below w.heap.size w W
  sat : Sat (P.snap w3) W
  size : w3.heap.size ≤ W.heap.size
  err : ErrAt W b2 0
theorem keepLo {P : Pers} {w w3 : World} {b0 b1 b2 : Nat} {W W' : World} {u v : Value} (hb : Below W.heap.size W W') (h0 : W.cell? ⟨b0, 9, none⟩ = some u) (h1 : W.cell? ⟨b1, 0, none⟩ = some v) (h : LoKeep P w w3 b2 W) :
    W'.cell? ⟨b0, 9, none⟩ = some u ∧ W'.cell? ⟨b1, 0, none⟩ = some v ∧ W'.cell? ⟨b2, 0, none⟩ = some (.int .i64 0) ∧ LoKeep P w w3 b2 W' :=
  ⟨Cells.below hb _ _ h0, Cells.below hb _ _ h1, (h.err.below hb).cell, ⟨h.below.trans (hb.mono h.below.size), h.sat.below hb, Nat.le_trans h.size hb.size, h.err.below hb⟩⟩
theorem keepLoE {P : Pers} {w w3 : World} {b0 b1 b2 : Nat} {W : World} {u v : Value} (h0 : W.cell? ⟨b0, 9, none⟩ = some u) (h1 : W.cell? ⟨b1, 0, none⟩ = some v) (h : LoKeep P w w3 b2 W) (hb2 : w.heap.size ≤ b2) :
    (W.setCell ⟨b2, 0, none⟩ (.int .i64 0)).cell? ⟨b0, 9, none⟩ = some u ∧ (W.setCell ⟨b2, 0, none⟩ (.int .i64 0)).cell? ⟨b1, 0, none⟩ = some v ∧ (W.setCell ⟨b2, 0, none⟩ (.int .i64 0)).cell? ⟨b2, 0, none⟩ = some (.int .i64 0) ∧ LoKeep P w w3 b2 (W.setCell ⟨b2, 0, none⟩ (.int .i64 0)) :=
  ⟨(h.err.same _).trans h0, (h.err.same _).trans h1, (h.err.same _).trans h.err.cell, ⟨h.below.setCell hb2 _, fun p v hp => (h.err.same p).trans (h.sat p v hp), Nat.le_trans h.size (by simp), h.err.set 0⟩⟩

set_option maxRecDepth 100000 in
set_option maxHeartbeats 8000000 in
theorem loScoped_calls (M : List ByteArray) (hM : M.length ≤ 4096) (hit : itemName ∈ M) : ∀ (m : Nat) (P : Pers) (_ : Glob P) (x : Lo) (cs : List Value) (a : Option Addr) (ls : List (List ByteArray)) (w : World), x.sz ≤ m → Lo.Rep P x cs → Lo.err x = 0 → ScOk P a ls → Sat P w →
    (∀ s ∈ scN ls, s ∈ M) → (∀ s ∈ x.occ, s ∈ M) →
    Calls Tryz.prog 18 #[.agg cs.toArray, .pointer a] w fun e w' => e = .returned (.int .i64 (Lo.sc x (scN ls))) ∧ Below w.heap.size w w' := by
  intro m
  induction m with
  | zero => intro P _ x cs a ls w h; cases x; simp [Lo.sz] at h
  | succ m ih =>
    intro P G x cs a ls w hm hx he hsc hs hNM hoc
    have HG := As.mk G
    have HSC := As.mk hsc
    have HX := As.mk hx
    obtain ⟨he0, hel⟩ := Lo.err_zero he
    have HE0 := As.mk he0
    have hNl : (scN ls).length ≤ 4096 := Nat.le_trans (nodup_le _ _ (scN_rising ls).nodup hNM) hM
    have IH := As.mk (fun (Q : Pers) (g : Glob Q) (y : Lo) (hy : y ∈ x.l) cy b ls w hr h1 h2 h3 => ih Q g y cy b ls w (by have := Lo.lt_of_mem hy; omega) hr (hel y hy) h1 h2 h3 (fun s hs => hoc s (Lo.occ_child hy hs)))
    obtain ⟨A3, c3, A4, c4, A6, c6, A7, c7, A8, c8, A9, c9, A10, c10, rfl, l3, r3, l4, r4, l6, r6, l7, r7, l8, r8, l9, r9, l10, r10, z2, z5, zk, zk2⟩ := hx.open
    have HS := As.mk hs
    have HR := As.mk r10
    have HR9 := As.mk r9
    have hlen := r10.len
    have hlen9 := r9.len
    have HNM := As.mk hNM
    have HNL := As.mk hNl
    have HEX := As.mk (fun (y : Ex) (hy : y ∈ x.parts) => Ex.sc_in hM hit y.sz y (scN ls) (Nat.le_refl _) (scN_rising ls) hNM (fun s hs => ⟨hoc s (Lo.occ_part hy hs), exErr_names ((loOwn_zero he0).2.2 y hy) s hs⟩))
    have HIN := As.mk (Lo.in_eq x (scN ls) he0)
    have HOC := As.mk hoc
    clear ih hx hs hm r3 r4 r6 r7 r8 r9 r10 zk zk2 z2 z5 hsc hNM hNl hoc he hel he0
    go_enter Tryz.func18, Tryz.ntmps18
    go_upto_region 2 with fail
    refine wp_abs ?_
    intro w1 hw1
    have hb1 := show Below w.heap.size w w1 by rw [hw1]; exact (((Below.refl _ _).alloc (Nat.le_refl _) _).alloc (by simp) _).alloc (by simp; omega) _
    have HKx := As.mk (show RowAt w1 w.heap.size _ from row_in hw1 (((Below.refl _ _).alloc (by simp) _).alloc (by simp) _) rfl)
    have HKp := As.mk (show RowAt w1 (w.heap.size + 1) _ from row_in hw1 ((Below.refl _ _).alloc (by simp) _) (by simp))
    have HKe : As (ErrAt w1 (w.heap.size + 1 + 1) 0) := As.mk (err_new hw1 (by simp))
    have HB1 := As.mk hb1
    have HS1 := As.mk (HS.out.below hb1)
    clear hw1 hb1
    obtain ⟨p0, p1, p2, p3, p4, p5, p6, p7, p8, p9, p10⟩ := cells11 HKx.out
    have HEA := As.mk (lgEach_calls P x _ w1 HX.out 46 #[.pointer (some ⟨w.heap.size + 1, 0, none⟩), .pointer (some ⟨w.heap.size + 1 + 1, 0, none⟩)] (enters_of Tryz.func46 (by kernel_rfl) rfl)
      (EachR P (scN ls) w a (w.heap.size + 1) (w.heap.size + 1 + 1) [.int .i64 x.k, .int .i64 x.e.k, .string x.e.s, .slice A3 x.e.ns.length c3, .slice A4 x.e.l.length c4, .string x.pol, .slice A6 x.inp.length c6, .slice A7 x.out.length c7, .slice A8 x.ru.length c8, .slice A9 x.ns.length c9, .slice A10 x.l.length c10]) (EachS P (scN ls) w x (w.heap.size + 1 + 1))
      (fun _ _ h => h.sat) (fun _ _ o h => h.alloc o) (fun pre y cy W hy hr hR hsz => by
        refine (sc1_calls P HG.out y cy a ls (w.heap.size + 1) (w.heap.size + 1 + 1) 0 W hr HSC.out hR.sat HNL.out hR.ptr hR.err).mono ?_
        rintro e w' ⟨rfl, W', hb, rfl⟩
        have h1 := HKe.out.lt
        rw [HEX.out y hy]
        refine ⟨?_, Above.set hb h1⟩
        by_cases hin : y.in_ (scN ls) = true
        · rw [if_pos hin]
          exact .inl ⟨rfl, hR.step HS.out (by omega) (by omega) hb hin⟩
        · rw [if_neg hin]
          exact .inr ⟨rfl, (hR.below.trans (hb.mono hR.below.size)).setCell (by show w.heap.size ≤ w.heap.size + 1 + 1; omega) _, (hR.err.below hb).set 13, y, hy, hin⟩)
      ⟨HS1.out, HB1.out, HKx.out, HKp.out 0 _ rfl, HKe.out, fun _ h => by simp at h⟩)
    go_wp2_with fail
    refine HEA.out.mono ?_
    rintro e w2 (⟨rfl, hR⟩ | ⟨rfl, hS⟩)
    · have HQ0 := As.mk (Lo.sc_zero (x := x) (N := scN ls))
      have HFI := As.mk hR.fine
      have HB2 := As.mk hR.below
      have HS2 := As.mk hR.sat
      have HK2 := As.mk hR.box
      have HP2 := As.mk hR.ptr
      have HE2 := As.mk hR.err
      clear hR p0 p1 p2 p3 p4 p5 p6 p7 p8 p9 p10
      have p10 := HK2.out 10 _ rfl
      go_wp2_with fail
      go_loopw [18] (fun i wr => ∃ k : Nat, i = .int .i64 k ∧ k ≤ x.l.length ∧ As (Below w.heap.size w wr) ∧ As (Sat P wr) ∧ As (RowAt wr w.heap.size [.int .i64 x.k, .int .i64 x.e.k, .string x.e.s, .slice A3 x.e.ns.length c3, .slice A4 x.e.l.length c4, .string x.pol, .slice A6 x.inp.length c6, .slice A7 x.out.length c7, .slice A8 x.ru.length c8, .slice A9 x.ns.length c9, .slice A10 x.l.length c10]) ∧ As (wr.cell? ⟨w.heap.size + 1, 0, none⟩ = some (.pointer a)) ∧ As (ErrAt wr (w.heap.size + 1 + 1) 0) ∧ As (∀ (j : Nat) (y : Lo), j < k → x.l[j]? = some y → y.in_ (subN x j (scN ls)) = true)) (fun i _ => x.l.length - (intOf i).toNat)
      case atStart => exact ⟨0, rfl, Nat.zero_le _, HB2, HS2, HK2, HP2, HE2, ⟨fun j y h => absurd h (Nat.not_lt_zero _)⟩⟩
      case round =>
        obtain ⟨k, rfl, hk, hB, hS, hK, hP, hE, hA⟩ := hrel
        clear p10
        by_cases hlt : k < x.l.length
        · obtain ⟨y, hy⟩ : ∃ y, As (x.l[k]? = some y) := ⟨_, ⟨List.getElem?_eq_getElem hlt⟩⟩
          obtain ⟨be, oe, B3, d3, B4, d4, B6, d6, B7, d7, B8, d8, B9, d9, B10, d10, rfl, hbe, hry, e0, e1, e2, e3, e4, e5, e6, e7, e8, e9, e10⟩ := HR.out.at hS.out (i := k) (x := y) hy.out
          have HRY := As.mk hry
          clear hry
          go_upto_region 7 with fail
          refine wp_abs ?_
          intro w3 hw3
          have hb3 := show Below wr.heap.size wr w3 by rw [hw3]; exact (Below.refl _ _).alloc (Nat.le_refl _) _
          have HY3 := As.mk (show RowAt w3 wr.heap.size _ from row_at hw3 rfl)
          have HK3 := As.mk (hK.out.below hb3)
          have HB3 := As.mk (hB.out.trans (hb3.mono hB.out.size))
          have HS3 := As.mk (hS.out.below hb3)
          have HP3 := As.mk (Cells.below hb3 _ _ hP.out)
          have HE3 := As.mk (hE.out.below hb3)
          clear hw3 hb3 e0 e1 e2 e3 e4 e5 e6 e7 e8 e9 e10
          have k0 := HK3.out 0 _ rfl
          have k9 := HK3.out 9 _ rfl
          have q0 := HP3.out
          have hSUB := As.mk (show subN x k (scN ls) = if x.k == 2 && decide (0 < k) then addAll (scN ls) (x.ns.take k) else scN ls from rfl)
          by_cases hc : (x.k == 2 && decide (0 < k)) = true
          · rw [if_pos hc] at hSUB
            rw [Bool.and_eq_true] at hc
            obtain ⟨hk2, hk0⟩ := hc
            have hk0' : 0 < k := of_decide_eq_true hk0
            have hq : decide (0 < (k : Int)) = true := decide_eq_true (by omega)
            have hnl := ns_le HE0.out hk2
            have hkn : (k : Int) ≤ (x.ns.length : Int) := by omega
            have hkc : (k : Int) ≤ (c9 : Int) := by omega
            obtain ⟨y0, hy0⟩ : ∃ y0, x.ns[0]? = some y0 := ⟨_, List.getElem?_eq_getElem (by omega)⟩
            obtain ⟨b9, o9, rfl, _, _⟩ := Row.str HR9.out hy0
            have htl : (x.ns.take k).length = k := by rw [List.length_take]; omega
            have hSM : ∀ s ∈ x.ns.take k, s ∈ M ∧ right s = true := fun s hs => by
              have hg := ns_take_given HE0.out hk2 hlt hs
              have hb := (loOwn_zero HE0.out).2.1
              refine ⟨HOC.out s (by rw [Lo.occ_eq, List.mem_append, List.mem_append]; exact .inl (.inr (by rw [if_pos hk2]; exact hg))), ?_⟩
              unfold bad at hb
              rw [List.any_eq_false] at hb
              have := hb s hg
              simpa using this
            have HSM := As.mk hSM
            have HW0 := As.mk (fun W (hs : Sat (P.snap w3) W) => scWith_calls (P.snap w3) (HG.out.mono (Pers.le_snap _ _)) a (some ⟨b9, o9, none⟩) c9 ls (x.ns.take k) W (HSC.out.mono (Pers.le_snap _ _)) ((HR9.out.take k).mono (Pers.le_snap _ _) (fun _ _ _ h => h)) hs (Nat.le_trans HNL.out (by decide)))
            have HW : As (∀ W, Sat (P.snap w3) W → Calls Tryz.prog 21 #[.pointer a, .slice (some ⟨b9, o9, none⟩) (x.ns.take k).length c9] W fun e w' => (∃ b ls', e = .returned (.tuple #[.pointer (some ⟨b, 0, none⟩), .int .i64 0]) ∧ ScOk ((P.snap w3).snap w') (some ⟨b, 0, none⟩) ls' ∧ scN ls' = addAll (scN ls) (x.ns.take k)) ∧ Below W.heap.size W w') := ⟨fun W hs => (HW0.out W hs).mono fun e w' ⟨hnew, hb⟩ => by
              refine ⟨?_, hb⟩
              rcases hnew.scN with ⟨h, _⟩ | ⟨_, h, _⟩ | ⟨_, _, h⟩
              · rw [bad_of fun s hs => (HSM.out s hs).2] at h; cases h
              · have := addAll_few (scN_rising ls) HNM.out (fun s hs => (HSM.out s hs).1)
                omega
              · exact h⟩
            rw [htl] at HW
            have hkN : k ≤ x.ns.length := by omega
            clear hk0' hnl hy0 htl hSM HW0
            go_upto_region 9 with fail
            have s0 : LoKeep P w w3 (w.heap.size + 1 + 1) w3.drew := ⟨HB3.out.drew, (Sat.snap HS3.out).drew, Nat.le_refl _, HE3.out⟩
            have n0 : w3.drew.cell? ⟨w.heap.size, 9, none⟩ = some (.slice (some ⟨b9, o9, none⟩) x.ns.length c9) := k9
            have n1 : w3.drew.cell? ⟨w.heap.size + 1, 0, none⟩ = some (.pointer a) := q0
            have hb2z : w.heap.size ≤ w.heap.size + 1 + 1 := by omega
            go_region_held3 (fun W => W.cell? ⟨w.heap.size, 9, none⟩ = some (.slice (some ⟨b9, o9, none⟩) x.ns.length c9) ∧ W.cell? ⟨w.heap.size + 1, 0, none⟩ = some (.pointer a) ∧ W.cell? ⟨w.heap.size + 1 + 1, 0, none⟩ = some (.int .i64 0) ∧ LoKeep P w w3 (w.heap.size + 1 + 1) W)
              (first
                | exact ⟨n0, n1, s0.err.cell, s0⟩
                | (go_split_ands
                   first
                     | (refine ⟨?_, ?_, ?_, ?_⟩ <;> assumption)
                     | exact keepLo hb' (by assumption) (by assumption) (by assumption)
                     | exact keepLoE (by assumption) (by assumption) (by assumption) hb2z))
              (first
                | (go_at_call 21; refine (HW.out _ ?_).mono ?_; (go_split_ands; exact LoKeep.sat (by assumption)); rintro e w6 ⟨⟨b, ls', rfl, hok, hN'⟩, hb'⟩; have HOK := As.mk hok; have HN' := As.mk hN'; clear hok hN'; have f6 : w6.frozen? ⟨w.heap.size + 1 + 1, 0, none⟩ = false := (by go_split_ands; exact ((LoKeep.err (by assumption)).below hb').froz)))
            rename_i hh
            obtain ⟨_, _, hh3, hkp⟩ := hh
            have hE6 : ErrAt w6 (w.heap.size + 1 + 1) 0 := (show ErrAt w3.drew (w.heap.size + 1 + 1) 0 from HE3.out).below hb'
            have hs7 : Sat ((P.snap w3).snap w6) (w6.setCell ⟨w.heap.size + 1 + 1, 0, none⟩ (.int .i64 0)) := fun p v hp => hp.elim (hkp.sat p v) (fun h => (hE6.same p).trans h)
            have HB4 := As.mk hkp.below
            have HSQ4 := As.mk hkp.sat
            have HS4 := As.mk (hkp.sat.le (Pers.le_snap _ _))
            have HK4 := As.mk (HK3.out.sat hkp.sat)
            have HY4 := As.mk (HY3.out.sat hkp.sat)
            have HP4 := As.mk (hkp.sat _ _ (.inr HP3.out))
            have HE4 := As.mk hkp.err
            have HS7 := As.mk hs7
            have hPQ : As (PLe P ((P.snap w3).snap w6)) := As.mk ((Pers.le_snap _ _).trans (Pers.le_snap _ _))
            clear hs7 hE6 hkp hb' f6 s0 n0 n1 hb2z k0 k9 q0
            go_upto_region 12 with fail
            clear hh3
            generalize w6.setCell ⟨w.heap.size + 1 + 1, 0, none⟩ (.int .i64 0) = w7 at *
            have HI := As.mk (IH.out ((P.snap w3).snap w6) (HG.out.mono hPQ.out) y (List.mem_of_getElem? hy.out) _ (some ⟨b, 0, none⟩) ls' w7 (HRY.out.mono hPQ.out) HOK.out HS7.out (by
              rw [HN'.out]
              intro s hs
              exact (addAll_mem.1 hs).elim (HNM.out s) (fun h => (HSM.out s h).1)))
            rw [HN'.out, ← hSUB.out] at HI
            obtain ⟨n, hn⟩ : ∃ n, As (Lo.sc y (subN x k (scN ls)) = n) := ⟨_, ⟨rfl⟩⟩
            rw [hn.out] at HI
            obtain ⟨j0, j1, j2, j3, j4, j5, j6, j7, j8, j9, j10⟩ := cells11 HY4.out
            go_wp2_with fail
            refine HI.out.mono ?_
            rintro e w5 ⟨rfl, hb5⟩
            have HB5 := As.mk (HB4.out.trans (hb5.mono HB4.out.size))
            have HS5 := As.mk (HS4.out.below hb5)
            have HK5 := As.mk (HK4.out.below hb5)
            have HP5 := As.mk (Cells.below hb5 _ _ HP4.out)
            have HE5 := As.mk (HE4.out.below hb5)
            clear hb5 j0 j1 j2 j3 j4 j5 j6 j7 j8 j9 j10
            by_cases hin : y.in_ (subN x k (scN ls)) = true
            · have hn0 : n = 0 := hn.out.symm.trans (Lo.sc_zero hin)
              have HA2 := As.mk (show ∀ (j : Nat) (z : Lo), j < k + 1 → x.l[j]? = some z → z.in_ (subN x j (scN ls)) = true from fun j z hj hz => by
                by_cases hjk : j = k
                · subst hjk
                  rw [hy.out] at hz
                  cases hz
                  exact hin
                · exact hA.out j z (by omega) hz)
              have hqn : ((n : Int) != 0) = false := by rw [hn0]; rfl
              clear hn0 hin
              go_wp2_with fail
              go_roundw
              case rel => exact ⟨k + 1, by go_num, by omega, HB5, HS5, HK5, HP5, HE5, HA2⟩
              case measure => simp [intOf]; omega
            · have hn13 : n = 13 := hn.out.symm.trans (Lo.sc_thirteen hin)
              have HQ2 := As.mk (show Lo.sc x (scN ls) = n by
                rw [hn13]
                exact Lo.sc_thirteen fun h => hin ((HIN.out.1 h).2 k y hy.out))
              have hqn : ((n : Int) != 0) = true := by rw [hn13]; rfl
              clear hn13 hin
              go_wp2_with fail
              go_ret
              exact ⟨by rw [HQ2.out]; rfl, HB5.out⟩
          · rw [if_neg hc] at hSUB
            have hc2 : (x.k == 2) = false ∨ ((x.k == 2) = true ∧ k = 0) := by
              cases h2 : (x.k == 2)
              · exact .inl rfl
              · refine .inr ⟨rfl, ?_⟩
                rw [h2] at hc
                simp at hc
                omega
            clear hc
            have HB4 := HB3
            have HS4 := HS3
            have HK4 := HK3
            have HY4 := HY3
            have HP4 := HP3
            have HE4 := HE3
            have HI := As.mk (IH.out P HG.out y (List.mem_of_getElem? hy.out) _ a ls w3 HRY.out HSC.out HS3.out HNM.out)
            rw [← hSUB.out] at HI
            clear k9
            rcases hc2 with hk2 | ⟨hk2, hk0⟩
            · go_upto_region 12 with fail
              obtain ⟨n, hn⟩ : ∃ n, As (Lo.sc y (subN x k (scN ls)) = n) := ⟨_, ⟨rfl⟩⟩
              rw [hn.out] at HI
              obtain ⟨j0, j1, j2, j3, j4, j5, j6, j7, j8, j9, j10⟩ := cells11 HY4.out
              go_wp2_with fail
              refine HI.out.mono ?_
              rintro e w5 ⟨rfl, hb5⟩
              have HB5 := As.mk (HB4.out.trans (hb5.mono HB4.out.size))
              have HS5 := As.mk (HS4.out.below hb5)
              have HK5 := As.mk (HK4.out.below hb5)
              have HP5 := As.mk (Cells.below hb5 _ _ HP4.out)
              have HE5 := As.mk (HE4.out.below hb5)
              clear hb5 j0 j1 j2 j3 j4 j5 j6 j7 j8 j9 j10
              by_cases hin : y.in_ (subN x k (scN ls)) = true
              · have hn0 : n = 0 := hn.out.symm.trans (Lo.sc_zero hin)
                have HA2 := As.mk (show ∀ (j : Nat) (z : Lo), j < k + 1 → x.l[j]? = some z → z.in_ (subN x j (scN ls)) = true from fun j z hj hz => by
                  by_cases hjk : j = k
                  · subst hjk
                    rw [hy.out] at hz
                    cases hz
                    exact hin
                  · exact hA.out j z (by omega) hz)
                have hqn : ((n : Int) != 0) = false := by rw [hn0]; rfl
                clear hn0 hin
                go_wp2_with fail
                go_roundw
                case rel => exact ⟨k + 1, by go_num, by omega, HB5, HS5, HK5, HP5, HE5, HA2⟩
                case measure => simp [intOf]; omega
              · have hn13 : n = 13 := hn.out.symm.trans (Lo.sc_thirteen hin)
                have HQ2 := As.mk (show Lo.sc x (scN ls) = n by
                  rw [hn13]
                  exact Lo.sc_thirteen fun h => hin ((HIN.out.1 h).2 k y hy.out))
                have hqn : ((n : Int) != 0) = true := by rw [hn13]; rfl
                clear hn13 hin
                go_wp2_with fail
                go_ret
                exact ⟨by rw [HQ2.out]; rfl, HB5.out⟩
            · have hq : decide (0 < (k : Int)) = false := decide_eq_false (by omega)
              have hq2 : decide (0 < k) = false := decide_eq_false (by omega)
              clear hk0
              go_upto_region 12 with fail
              obtain ⟨n, hn⟩ : ∃ n, As (Lo.sc y (subN x k (scN ls)) = n) := ⟨_, ⟨rfl⟩⟩
              rw [hn.out] at HI
              obtain ⟨j0, j1, j2, j3, j4, j5, j6, j7, j8, j9, j10⟩ := cells11 HY4.out
              go_wp2_with fail
              refine HI.out.mono ?_
              rintro e w5 ⟨rfl, hb5⟩
              have HB5 := As.mk (HB4.out.trans (hb5.mono HB4.out.size))
              have HS5 := As.mk (HS4.out.below hb5)
              have HK5 := As.mk (HK4.out.below hb5)
              have HP5 := As.mk (Cells.below hb5 _ _ HP4.out)
              have HE5 := As.mk (HE4.out.below hb5)
              clear hb5 j0 j1 j2 j3 j4 j5 j6 j7 j8 j9 j10
              by_cases hin : y.in_ (subN x k (scN ls)) = true
              · have hn0 : n = 0 := hn.out.symm.trans (Lo.sc_zero hin)
                have HA2 := As.mk (show ∀ (j : Nat) (z : Lo), j < k + 1 → x.l[j]? = some z → z.in_ (subN x j (scN ls)) = true from fun j z hj hz => by
                  by_cases hjk : j = k
                  · subst hjk
                    rw [hy.out] at hz
                    cases hz
                    exact hin
                  · exact hA.out j z (by omega) hz)
                have hqn : ((n : Int) != 0) = false := by rw [hn0]; rfl
                clear hn0 hin
                go_wp2_with fail
                go_roundw
                case rel => exact ⟨k + 1, by go_num, by omega, HB5, HS5, HK5, HP5, HE5, HA2⟩
                case measure => simp [intOf]; omega
              · have hn13 : n = 13 := hn.out.symm.trans (Lo.sc_thirteen hin)
                have HQ2 := As.mk (show Lo.sc x (scN ls) = n by
                  rw [hn13]
                  exact Lo.sc_thirteen fun h => hin ((HIN.out.1 h).2 k y hy.out))
                have hqn : ((n : Int) != 0) = true := by rw [hn13]; rfl
                clear hn13 hin
                go_wp2_with fail
                go_ret
                exact ⟨by rw [HQ2.out]; rfl, HB5.out⟩
        · obtain rfl : k = x.l.length := by omega
          have HQ2 := As.mk (HQ0.out (HIN.out.2 ⟨HFI.out, fun i y hy => hA.out i y (List.getElem?_eq_some_iff.1 hy).1 hy⟩))
          clear hA
          go_wp2_with fail
          go_ret
          exact ⟨by rw [HQ2.out]; rfl, hB.out⟩
    · have HQ := As.mk (show Lo.sc x (scN ls) = 13 from Lo.sc_thirteen fun h => by
        obtain ⟨y, hy, hn⟩ := hS.bad
        exact hn ((HIN.out.1 h).1 y hy))
      have HB2 := As.mk hS.below
      have q2 := hS.err.cell
      clear hS p0 p1 p2 p3 p4 p5 p6 p7 p8 p9 p10
      go_wp2_with fail
      go_ret
      exact ⟨by rw [HQ.out]; rfl, HB2.out⟩
end Go.Proofs.YtainigjbjfpoaaaGreatDoor
