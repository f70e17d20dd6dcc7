/- logic.free. Printed by wip/tools/gen_lgfree2.py (own tool). -/
/- logic.Free: the names that a logic needs, in order. -/
import Derived.Test.YtainigjbjfpoaaaGreatDoorCLgFree
import Derived.Test.YtainigjbjfpoaaaGreatDoorCConcat
namespace Go.Proofs.YtainigjbjfpoaaaGreatDoor
open Go.RowKit Go.Shelf Go.Maps

/-- the names that a logic's part i has bound -/
def bdAt (x : Lo) (i : Nat) (bd : List ByteArray) : List ByteArray := if x.k == 2 && decide (i < x.ns.length) then bd ++ x.ns.take i else bd
/-- what an expression of a logic needs -/
def need (bd : List ByteArray) (y : Ex) : List ByteArray := unb bd (freeOf (Ex.fv y []))
mutual
/-- the names that a logic needs, some being bound -/
def Lo.fv : Lo → List ByteArray → List ByteArray
  | ⟨k, e, pol, inp, out, ru, ns, l⟩, bd => (Lo.parts ⟨k, e, pol, inp, out, ru, ns, []⟩).flatMap (need bd) ++ Lo.fvs ⟨k, e, pol, inp, out, ru, ns, []⟩ l 0 bd
def Lo.fvs (x : Lo) : List Lo → Nat → List ByteArray → List ByteArray
  | [], _, _ => []
  | y :: ys, i, bd => Lo.fv y (bdAt x i bd) ++ Lo.fvs x ys (i + 1) bd
end
theorem Lo.fvs_l (x : Lo) (l : List Lo) : ∀ (ys : List Lo) (i : Nat) (bd : List ByteArray), Lo.fvs ⟨x.k, x.e, x.pol, x.inp, x.out, x.ru, x.ns, l⟩ ys i bd = Lo.fvs x ys i bd
  | [], i, bd => by simp only [Lo.fvs]
  | y :: ys, i, bd => by simp only [Lo.fvs, Lo.fvs_l x l ys]; rfl
theorem Lo.fv_eq (x : Lo) (bd : List ByteArray) : Lo.fv x bd = x.parts.flatMap (need bd) ++ Lo.fvs x x.l 0 bd := by
  obtain ⟨k, e, pol, inp, out, ru, ns, l⟩ := x
  rw [Lo.fv]
  exact congrArg _ (Lo.fvs_l ⟨k, e, pol, inp, out, ru, ns, l⟩ [] l 0 bd)
theorem sum_flatMap {α β : Type} (f : α → List β) (g : β → Nat) : ∀ l : List α, ((l.flatMap f).map g).sum = (l.map fun a => ((f a).map g).sum).sum
  | [] => rfl
  | a :: l => by simp [sum_flatMap f g l]
theorem sum_le {α : Type} {f g : α → Nat} : ∀ (l : List α), (∀ a ∈ l, f a ≤ g a) → (l.map f).sum ≤ (l.map g).sum
  | [], _ => Nat.le_refl _
  | a :: l, h => by
    have h1 := h a (by simp)
    have h2 := sum_le l (fun b hb => h b (by simp [hb]))
    simp only [List.map_cons, List.sum_cons]
    omega
theorem Lo.parts_wt (x : Lo) : (x.parts.map Ex.wt).sum + 1 + strsW x.ns + (x.l.map Lo.wt).sum ≤ x.wt := by
  rw [Lo.wt_eq, Lo.parts, List.map_append, List.map_append, List.sum_append, List.sum_append, sum_flatMap]
  have h1 : (x.hd.map Ex.wt).sum ≤ x.e.wt := by
    unfold Lo.hd
    split <;> simp
  have h2 : (x.ru.map fun a => ((ruParts a).map Ex.wt).sum).sum ≤ (x.ru.map Ru.wt).sum := sum_le _ (fun r _ => by
    unfold ruParts Ru.wt
    rw [List.map_append, List.sum_append, sum_flatMap]
    have : (r.ins.map fun a => (a.l.map Ex.wt).sum).sum ≤ (r.ins.map Te.wt).sum := sum_le _ (fun t _ => by unfold Te.wt; omega)
    omega)
  omega
theorem need_le (bd : List ByteArray) (y : Ex) : (need bd y).length ≤ y.wt :=
  Nat.le_trans (unb_le _ _) (Nat.le_trans (freeOf_le _) (Ex.fv_wt _ y [] (Nat.le_refl _)))
theorem flatMap_need_le (bd : List ByteArray) : ∀ l : List Ex, (l.flatMap (need bd)).length ≤ (l.map Ex.wt).sum
  | [] => Nat.le_refl _
  | y :: l => by
    have h1 := need_le bd y
    have h2 := flatMap_need_le bd l
    simp only [List.flatMap_cons, List.length_append, List.map_cons, List.sum_cons]
    omega
theorem FdMap.nub {W : World} {b : Nat} {l k : List ByteArray} (h : FdMap W b l) (hm : ∀ s, s ∈ l ↔ s ∈ k) : FdMap W b (nub k) := by
  have hf : fnd l (fun _ => none) = fnd (Go.Proofs.YtainigjbjfpoaaaGreatDoor.nub k) fun _ => none := by
    funext s
    unfold fnd
    have : has l s = has (Go.Proofs.YtainigjbjfpoaaaGreatDoor.nub k) s := by rw [Bool.eq_iff_iff, has_iff, has_iff, nub_mem, hm]
    rw [this]
  exact (h.cast rfl hf).trim _ (fun s hs => fnd_mem hs)

set_option maxRecDepth 100000 in
set_option maxHeartbeats 8000000 in
theorem lgFree_calls (P : Pers) (bf : Nat) : ∀ (m : Nat) (x : Lo) (cs : List Value) (Ab : Option Addr) (cb : Nat) (bd F : List ByteArray) (w : World), x.sz ≤ m → x.wt + bd.length ≤ 1073741824 → F.length + x.wt ≤ 2305843009213693952 → Lo.Rep P x cs → Sat P w →
    StrsAt w.heap.size w Ab bd → bd.length ≤ cb → (∀ s ∈ bd, s.size ≤ maxStr) → FdMap w bf F →
    Calls Tryz.prog 28 #[.agg cs.toArray, .slice Ab bd.length cb, .map (some bf)] w fun e w' => (∃ v, e = .returned v) ∧ (∃ F', FdMap w' bf F' ∧ (∀ s, s ∈ F' ↔ s ∈ F ∨ s ∈ Lo.fv x bd) ∧ F'.length ≤ F.length + x.wt) ∧ Kept2 bf bf w w' := by
  intro m
  induction m with
  | zero => intro x cs Ab cb bd F w h; cases x; simp [Lo.sz] at h
  | succ m ih =>
    intro x cs Ab cb bd F w hn hwt hwf hx hs hbd hcb hbz hf
    have HX := As.mk hx
    have IH := As.mk (fun (y : Lo) (hy : y ∈ x.l) cs Ab cb bd F w => ih y cs Ab cb bd F w (by have := Lo.lt_of_mem hy; omega))
    have HPW := As.mk (Lo.parts_wt x)
    have HWT := As.mk hwt
    have HWF := As.mk hwf
    obtain ⟨A3, c3, A4, c4, A6, c6, A7, c7, A8, c8, A9, c9, A10, c10, rfl, l3, r3, l4, r4, l6, r6, l7, r7, l8, r8, l9, r9, l10, r10, z2, z5, zk, zk2⟩ := hx.open
    have hB0 : Below w.heap.size w (((w.alloc (.cells #[.int .i64 x.k, .int .i64 x.e.k, .string x.e.s, .slice A3 x.e.ns.length c3, .slice A4 x.e.l.length c4, .string x.pol, .slice A6 x.inp.length c6, .slice A7 x.out.length c7, .slice A8 x.ru.length c8, .slice A9 x.ns.length c9, .slice A10 x.l.length c10] 29)).alloc (.cells #[.slice Ab bd.length cb] 22)).alloc (.cells #[.map (some bf)] 55)) := (((Below.refl _ _).alloc (Nat.le_refl _) _).alloc (by simp) _).alloc (by simp; omega) _
    have hc0 : ∀ j v, [.int .i64 x.k, .int .i64 x.e.k, .string x.e.s, .slice A3 x.e.ns.length c3, .slice A4 x.e.l.length c4, .string x.pol, .slice A6 x.inp.length c6, .slice A7 x.out.length c7, .slice A8 x.ru.length c8, .slice A9 x.ns.length c9, .slice A10 x.l.length c10][j]? = some v → (((w.alloc (.cells #[.int .i64 x.k, .int .i64 x.e.k, .string x.e.s, .slice A3 x.e.ns.length c3, .slice A4 x.e.l.length c4, .string x.pol, .slice A6 x.inp.length c6, .slice A7 x.out.length c7, .slice A8 x.ru.length c8, .slice A9 x.ns.length c9, .slice A10 x.l.length c10] 29)).alloc (.cells #[.slice Ab bd.length cb] 22)).alloc (.cells #[.map (some bf)] 55)).cell? ⟨w.heap.size, j, none⟩ = some v := fun j v hj => by
      have h1 := (((Below.refl _ (w.alloc (.cells #[.int .i64 x.k, .int .i64 x.e.k, .string x.e.s, .slice A3 x.e.ns.length c3, .slice A4 x.e.l.length c4, .string x.pol, .slice A6 x.inp.length c6, .slice A7 x.out.length c7, .slice A8 x.ru.length c8, .slice A9 x.ns.length c9, .slice A10 x.l.length c10] 29))).alloc (Nat.le_refl _) (.cells #[.slice Ab bd.length cb] 22)).alloc (by simp) (.cells #[.map (some bf)] 55)).cell (p := ⟨w.heap.size, j, none⟩) (by simp)
      rw [h1]
      refine (World.cell?_alloc_mark ..).trans ?_
      simpa using hj
    have hc1 : (((w.alloc (.cells #[.int .i64 x.k, .int .i64 x.e.k, .string x.e.s, .slice A3 x.e.ns.length c3, .slice A4 x.e.l.length c4, .string x.pol, .slice A6 x.inp.length c6, .slice A7 x.out.length c7, .slice A8 x.ru.length c8, .slice A9 x.ns.length c9, .slice A10 x.l.length c10] 29)).alloc (.cells #[.slice Ab bd.length cb] 22)).alloc (.cells #[.map (some bf)] 55)).cell? ⟨w.heap.size + 1, 0, none⟩ = some (.slice Ab bd.length cb) := by
      have := cell_first (w.alloc (.cells #[.int .i64 x.k, .int .i64 x.e.k, .string x.e.s, .slice A3 x.e.ns.length c3, .slice A4 x.e.l.length c4, .string x.pol, .slice A6 x.inp.length c6, .slice A7 x.out.length c7, .slice A8 x.ru.length c8, .slice A9 x.ns.length c9, .slice A10 x.l.length c10] 29)) #[.slice Ab bd.length cb] 22 (.cells #[.map (some bf)] 55) 0
      simpa using this
    have hc2 : (((w.alloc (.cells #[.int .i64 x.k, .int .i64 x.e.k, .string x.e.s, .slice A3 x.e.ns.length c3, .slice A4 x.e.l.length c4, .string x.pol, .slice A6 x.inp.length c6, .slice A7 x.out.length c7, .slice A8 x.ru.length c8, .slice A9 x.ns.length c9, .slice A10 x.l.length c10] 29)).alloc (.cells #[.slice Ab bd.length cb] 22)).alloc (.cells #[.map (some bf)] 55)).cell? ⟨w.heap.size + 1 + 1, 0, none⟩ = some (.map (some bf)) := by
      have := World.cell?_alloc_mark ((w.alloc (.cells #[.int .i64 x.k, .int .i64 x.e.k, .string x.e.s, .slice A3 x.e.ns.length c3, .slice A4 x.e.l.length c4, .string x.pol, .slice A6 x.inp.length c6, .slice A7 x.out.length c7, .slice A8 x.ru.length c8, .slice A9 x.ns.length c9, .slice A10 x.l.length c10] 29)).alloc (.cells #[.slice Ab bd.length cb] 22)) #[.map (some bf)] 55 (0, 0) 0
      simpa using this
    obtain ⟨W1, hW1⟩ : ∃ W1, W1 = (((w.alloc (.cells #[.int .i64 x.k, .int .i64 x.e.k, .string x.e.s, .slice A3 x.e.ns.length c3, .slice A4 x.e.l.length c4, .string x.pol, .slice A6 x.inp.length c6, .slice A7 x.out.length c7, .slice A8 x.ru.length c8, .slice A9 x.ns.length c9, .slice A10 x.l.length c10] 29)).alloc (.cells #[.slice Ab bd.length cb] 22)).alloc (.cells #[.map (some bf)] 55)) := ⟨_, rfl⟩
    have HW1 := As.mk hW1
    rw [← hW1] at hB0 hc0 hc1 hc2
    clear hW1
    have hC0 := As.mk hc0
    have hC1 := As.mk hc1
    have hC2 := As.mk hc2
    have HK0 := As.mk (Kept2.of (b := bf) (c := bf) hB0)
    have HBD := As.mk ((hbd.cells HK0.out.cells HK0.out.size))
    have HS1 := As.mk (hs.below hB0)
    have HF1 := As.mk (hf.later hB0)
    have HBZ := As.mk hbz
    have HR10 := As.mk r10
    have hlen := r10.len
    have hlns := r9.len
    have HR9 := As.mk r9
    have HFV := As.mk (Lo.fv_eq x bd)
    have HEA := As.mk (lgEach_calls P x _ W1 HX.out 72 #[.pointer (some ⟨w.heap.size + 1, 0, none⟩), .pointer (some ⟨w.heap.size + 1 + 1, 0, none⟩)] (enters_of Tryz.func72 (by kernel_rfl) rfl)
      (fun pre W => FdMap W bf (nub (F ++ pre.flatMap (need bd))) ∧ (∀ s ∈ pre.flatMap (need bd), s ∈ x.parts.flatMap (need bd)) ∧ Kept2 bf bf W1 W) (fun _ => False)
      (fun pre W h => HS1.out.cells h.2.2.cells)
      (fun pre W o h => ⟨h.1.alloc o, h.2.1, h.2.2.trans (.of ((Below.refl _ W).alloc (Nat.le_refl _) o))⟩)
      (fun pre y cy W hy hry h hsz => by
        have hyw : y.wt ≤ x.wt := by
          have h1 := le_sum_of_mem Ex.wt hy
          have h2 := HPW.out
          omega
        have hnl : (nub (F ++ pre.flatMap (need bd))).length ≤ F.length + (x.parts.map Ex.wt).sum := by
          have h1 := nodup_le (nub (F ++ pre.flatMap (need bd))) (F ++ x.parts.flatMap (need bd)) (nub_nodup _) (fun s hs => by
            rw [nub_mem, List.mem_append] at hs
            rw [List.mem_append]
            exact hs.imp id (h.2.1 s))
          have h2 := flatMap_need_le bd x.parts
          rw [List.length_append] at h1
          omega
        have hpw := HPW.out
        have hw1 := HWT.out
        have hw2 := HWF.out
        refine (free1_calls P (w.heap.size + 1) (w.heap.size + 1 + 1) bf Ab cb bd _ y cy W hry (HS1.out.cells h.2.2.cells) (by omega) (by omega) (h.2.2.cells _ _ hC1.out) (h.2.2.cells _ _ hC2.out) (HBD.out.cells h.2.2.cells h.2.2.size) (by unfold maxRow; omega) HBZ.out h.1).mono ?_
        rintro e w' ⟨rfl, hF', hK'⟩
        refine ⟨.inl ⟨rfl, FdMap.nub hF' (fun s => ?_), fun s hs => ?_, h.2.2.trans hK'⟩, .of_cells hK'.cells hK'.size⟩
        · rw [List.flatMap_append, List.mem_append, nub_mem, ← List.append_assoc, List.mem_append (s := F ++ _)]
          simp [need]
        · rw [List.flatMap_append, List.mem_append] at hs
          rcases hs with hs | hs
          · exact h.2.1 s hs
          · exact List.mem_flatMap.2 ⟨y, hy, by simpa using hs⟩)
      ⟨by rw [List.flatMap_nil, List.append_nil]; exact FdMap.nub HF1.out (fun s => Iff.rfl), fun s hs => by simp at hs, Kept2.refl _ _ _⟩)
    rw [HW1.out] at HEA
    have hk9 := hC0.out 9 _ rfl
    clear hx ih hs r3 r4 r6 r7 r8 r9 r10 hB0 hc0 hc1 hc2 hbd hbz hf hwt hwf l3 l4 l6 l7 l8 l10 z2 z5 zk zk2 hk9
    go_enter Tryz.func28, Tryz.ntmps28
    go_wp2_with fail
    refine HEA.out.mono ?_
    rintro e w2 (⟨rfl, hfd, _, hk2⟩ | ⟨_, h⟩)
    case inr => exact h.elim
    rw [← HW1.out] at hk2
    have HK2 := As.mk hk2
    have HFD := As.mk hfd
    have k10 := hk2.cells _ _ (hC0.out 10 _ rfl)
    clear hk2 hfd HEA
    go_wp2_with fail
    clear k10
    go_loopw [15] (fun i wr => ∃ (k : Nat) (Fk : List ByteArray), i = .int .i64 k ∧ k ≤ x.l.length ∧ As (Kept2 bf bf W1 wr) ∧ As (FdMap wr bf Fk) ∧ As (∀ s, (s ∈ F ∨ s ∈ Lo.fv x bd) ↔ (s ∈ Fk ∨ s ∈ Lo.fvs x (x.l.drop k) k bd)) ∧ As (Fk.length + ((x.l.drop k).map Lo.wt).sum ≤ F.length + x.wt)) (fun i _ => x.l.length - (intOf i).toNat)
    case atStart => exact ⟨0, nub (F ++ x.parts.flatMap (need bd)), rfl, Nat.zero_le _, HK2, HFD, ⟨fun s => by rw [HFV.out, List.drop_zero, nub_mem, List.mem_append, List.mem_append, or_assoc]⟩, ⟨by
      have h1 := nub_le (F ++ x.parts.flatMap (need bd))
      have h2 := flatMap_need_le bd x.parts
      have h3 := HPW.out
      rw [List.length_append] at h1
      rw [List.drop_zero]
      omega⟩⟩
    case round =>
      obtain ⟨k, Fk, rfl, hk, hK, hF, hM, hL⟩ := hrel
      clear HK2 HFD
      by_cases hlt : k < x.l.length
      · have hd : x.l.drop k = x.l[k] :: x.l.drop (k + 1) := List.drop_eq_getElem_cons hlt
        obtain ⟨y, hy⟩ : ∃ y, As (x.l[k] = y) := ⟨_, ⟨rfl⟩⟩
        have hym : y ∈ x.l := hy.out ▸ List.getElem_mem hlt
        have hM2 := hM.out
        have hL2 := hL.out
        rw [hd, hy.out, Lo.fvs] at hM2
        rw [hd, hy.out, List.map_cons, List.sum_cons] at hL2
        have HM2 := As.mk hM2
        have HL2 := As.mk hL2
        have hyw : As (y.wt + strsW x.ns ≤ x.wt) := ⟨by
          have h1 := le_sum_of_mem Lo.wt hym
          have h2 := HPW.out
          omega⟩
        have hsr := As.mk (HS1.out.cells hK.out.cells)
        obtain ⟨be, oe, B3, d3, B4, d4, B6, d6, B7, d7, B8, d8, B9, d9, B10, d10, rfl, hbe, hry, e0, e1, e2, e3, e4, e5, e6, e7, e8, e9, e10⟩ := HR10.out.at hsr.out (i := k) (x := y) (by rw [List.getElem?_eq_getElem hlt, hy.out])
        have HY := As.mk hry
        have hb2 : Below wr.heap.size wr (wr.alloc (.cells #[.int .i64 y.k, .int .i64 y.e.k, .string y.e.s, .slice B3 y.e.ns.length d3, .slice B4 y.e.l.length d4, .string y.pol, .slice B6 y.inp.length d6, .slice B7 y.out.length d7, .slice B8 y.ru.length d8, .slice B9 y.ns.length d9, .slice B10 y.l.length d10] 29)) := (Below.refl _ _).alloc (Nat.le_refl _) _
        have hK2 := As.mk (hK.out.trans (Kept2.of hb2))
        have HB2 := As.mk hb2
        have HF2 := As.mk (hF.out.later hb2)
        have HYC : As (∀ j v, [.int .i64 y.k, .int .i64 y.e.k, .string y.e.s, .slice B3 y.e.ns.length d3, .slice B4 y.e.l.length d4, .string y.pol, .slice B6 y.inp.length d6, .slice B7 y.out.length d7, .slice B8 y.ru.length d8, .slice B9 y.ns.length d9, .slice B10 y.l.length d10][j]? = some v → (wr.alloc (.cells #[.int .i64 y.k, .int .i64 y.e.k, .string y.e.s, .slice B3 y.e.ns.length d3, .slice B4 y.e.l.length d4, .string y.pol, .slice B6 y.inp.length d6, .slice B7 y.out.length d7, .slice B8 y.ru.length d8, .slice B9 y.ns.length d9, .slice B10 y.l.length d10] 29)).cell? ⟨wr.heap.size, j, none⟩ = some v) := ⟨fun j v hj => (World.cell?_alloc_mark ..).trans (by simpa using hj)⟩
        have q0 := hK2.out.cells _ _ (hC0.out 0 _ rfl)
        have q9 := hK2.out.cells _ _ (hC0.out 9 _ rfl)
        have p1 := hK2.out.cells _ _ hC1.out
        have p2 := hK2.out.cells _ _ hC2.out
        have hBA := bdAt.eq_1 x k bd
        have hcl : decide ((k : Int) < (x.ns.length : Int)) = decide (k < x.ns.length) := by simp
        clear hd hM2 hL2 hry hM hL hb2 hsr
        have hfin : ∀ (W : World) (F' : List ByteArray), Kept2 bf bf (wr.alloc (.cells #[.int .i64 y.k, .int .i64 y.e.k, .string y.e.s, .slice B3 y.e.ns.length d3, .slice B4 y.e.l.length d4, .string y.pol, .slice B6 y.inp.length d6, .slice B7 y.out.length d7, .slice B8 y.ru.length d8, .slice B9 y.ns.length d9, .slice B10 y.l.length d10] 29)) W → True := fun _ _ _ => trivial
        clear hfin
        cases q2 : (x.k == 2)
        · have HBA := As.mk (show bdAt x k bd = bd by rw [hBA, q2]; rfl)
          rw [HBA.out] at HM2
          have IY := As.mk (IH.out y hym _ Ab cb bd Fk (wr.alloc (.cells #[.int .i64 y.k, .int .i64 y.e.k, .string y.e.s, .slice B3 y.e.ns.length d3, .slice B4 y.e.l.length d4, .string y.pol, .slice B6 y.inp.length d6, .slice B7 y.out.length d7, .slice B8 y.ru.length d8, .slice B9 y.ns.length d9, .slice B10 y.l.length d10] 29)) (by have := hyw.out; have := HWT.out; omega) (by have := HL2.out; have := HWF.out; omega) HY.out (HS1.out.cells hK2.out.cells) (HBD.out.cells hK2.out.cells hK2.out.size) hcb HBZ.out HF2.out)
          clear hBA
          go_wp2_with fail
          refine IY.out.mono ?_
          rintro e w5 ⟨⟨v, rfl⟩, ⟨F5, hF5, hm5, hl5⟩, hK5⟩
          have HX := As.mk (And.intro (hK2.out.trans hK5) (And.intro hF5 (And.intro (show ∀ s, (s ∈ F ∨ s ∈ Lo.fv x bd) ↔ (s ∈ F5 ∨ s ∈ Lo.fvs x (x.l.drop (k + 1)) (k + 1) bd) from fun s => by rw [HM2.out s, hm5 s, List.mem_append, or_assoc]) (show F5.length + ((x.l.drop (k + 1)).map Lo.wt).sum ≤ F.length + x.wt by have := HL2.out; omega))))
          clear hF5 hm5 hl5 hK5
          go_wp2_with fail
          go_roundw
          case rel => exact ⟨k + 1, F5, by go_num, by omega, ⟨HX.out.1⟩, ⟨HX.out.2.1⟩, ⟨HX.out.2.2.1⟩, ⟨HX.out.2.2.2⟩⟩
          case measure => simp [intOf]; omega
        · have hcl2 : decide ((k : Int) < (x.ns.length : Int)) = decide (k < x.ns.length) := by simp
          cases ql : decide (k < x.ns.length)
          · have HBA := As.mk (show bdAt x k bd = bd by rw [hBA, q2, ql]; rfl)
            rw [ql] at hcl2
            rw [HBA.out] at HM2
            have IY := As.mk (IH.out y hym _ Ab cb bd Fk (wr.alloc (.cells #[.int .i64 y.k, .int .i64 y.e.k, .string y.e.s, .slice B3 y.e.ns.length d3, .slice B4 y.e.l.length d4, .string y.pol, .slice B6 y.inp.length d6, .slice B7 y.out.length d7, .slice B8 y.ru.length d8, .slice B9 y.ns.length d9, .slice B10 y.l.length d10] 29)) (by have := hyw.out; have := HWT.out; omega) (by have := HL2.out; have := HWF.out; omega) HY.out (HS1.out.cells hK2.out.cells) (HBD.out.cells hK2.out.cells hK2.out.size) hcb HBZ.out HF2.out)
            clear hBA
            go_wp2_with fail
            refine IY.out.mono ?_
            rintro e w5 ⟨⟨v, rfl⟩, ⟨F5, hF5, hm5, hl5⟩, hK5⟩
            have HX := As.mk (And.intro (hK2.out.trans hK5) (And.intro hF5 (And.intro (show ∀ s, (s ∈ F ∨ s ∈ Lo.fv x bd) ↔ (s ∈ F5 ∨ s ∈ Lo.fvs x (x.l.drop (k + 1)) (k + 1) bd) from fun s => by rw [HM2.out s, hm5 s, List.mem_append, or_assoc]) (show F5.length + ((x.l.drop (k + 1)).map Lo.wt).sum ≤ F.length + x.wt by have := HL2.out; omega))))
            clear hF5 hm5 hl5 hK5
            go_wp2_with fail
            go_roundw
            case rel => exact ⟨k + 1, F5, by go_num, by omega, ⟨HX.out.1⟩, ⟨HX.out.2.1⟩, ⟨HX.out.2.2.1⟩, ⟨HX.out.2.2.2⟩⟩
            case measure => simp [intOf]; omega
          · have HBA := As.mk (show bdAt x k bd = bd ++ x.ns.take k by rw [hBA, q2, ql]; rfl)
            rw [ql] at hcl2
            have hkn : k < x.ns.length := of_decide_eq_true ql
            have hkc : k ≤ c9 := by omega
            obtain ⟨b9, o9, rfl, _, _⟩ := Row.str HR9.out (i := 0) (x := x.ns[0]'(by omega)) (List.getElem?_eq_getElem (by omega))
            rw [HBA.out] at HM2
            clear hBA ql
            go_wp2_with fail
            refine wp_region_still_tail 5 (by kernel_rfl) (by kernel_rfl) ?_
            change wpStill _ _ (World.drew _) (fun a' => wpList _ _ _ _ a' (World.drew _)) _ _
            simp only [List.take_succ_cons, List.take_zero, List.drop_succ_cons, List.drop_zero]
            repeat still_step
            refine wpStill_nil ?_
            go_wp2_with fail
            have hfl : [bd, x.ns.take k].flatten = bd ++ x.ns.take k := by simp
            have hbc : Below (wr.alloc (.cells #[.int .i64 y.k, .int .i64 y.e.k, .string y.e.s, .slice B3 y.e.ns.length d3, .slice B4 y.e.l.length d4, .string y.pol, .slice B6 y.inp.length d6, .slice B7 y.out.length d7, .slice B8 y.ru.length d8, .slice B9 y.ns.length d9, .slice B10 y.l.length d10] 29)).heap.size (wr.alloc (.cells #[.int .i64 y.k, .int .i64 y.e.k, .string y.e.s, .slice B3 y.e.ns.length d3, .slice B4 y.e.l.length d4, .string y.pol, .slice B6 y.inp.length d6, .slice B7 y.out.length d7, .slice B8 y.ru.length d8, .slice B9 y.ns.length d9, .slice B10 y.l.length d10] 29)) ((wr.alloc (.cells #[.int .i64 y.k, .int .i64 y.e.k, .string y.e.s, .slice B3 y.e.ns.length d3, .slice B4 y.e.l.length d4, .string y.pol, .slice B6 y.inp.length d6, .slice B7 y.out.length d7, .slice B8 y.ru.length d8, .slice B9 y.ns.length d9, .slice B10 y.l.length d10] 29)).alloc (.cells #[.slice Ab bd.length cb, .slice (some ⟨b9, o9, none⟩) k c9] 22)).drew := pw_below_drewN' ((Below.refl _ _).alloc (Nat.le_refl _) _) 1
            have hrc : ∀ j v, [Value.slice Ab bd.length cb, Value.slice (some ⟨b9, o9, none⟩) k c9][j]? = some v → ((wr.alloc (.cells #[.int .i64 y.k, .int .i64 y.e.k, .string y.e.s, .slice B3 y.e.ns.length d3, .slice B4 y.e.l.length d4, .string y.pol, .slice B6 y.inp.length d6, .slice B7 y.out.length d7, .slice B8 y.ru.length d8, .slice B9 y.ns.length d9, .slice B10 y.l.length d10] 29)).alloc (.cells #[.slice Ab bd.length cb, .slice (some ⟨b9, o9, none⟩) k c9] 22)).drew.cell? ⟨wr.heap.size + 1, 0 + j, none⟩ = some v := fun j v hj => by
              have := World.cell?_alloc_mark (wr.alloc (.cells #[.int .i64 y.k, .int .i64 y.e.k, .string y.e.s, .slice B3 y.e.ns.length d3, .slice B4 y.e.l.length d4, .string y.pol, .slice B6 y.inp.length d6, .slice B7 y.out.length d7, .slice B8 y.ru.length d8, .slice B9 y.ns.length d9, .slice B10 y.l.length d10] 29)) #[.slice Ab bd.length cb, .slice (some ⟨b9, o9, none⟩) k c9] 22 (0, 0) j
              rw [Nat.zero_add]
              refine Eq.trans ?_ (this.trans (by simpa using hj))
              simp
            have hkl : (x.ns.take k).length = k := by rw [List.length_take]; omega
            have hs9 : StrsAt ((wr.alloc (.cells #[.int .i64 y.k, .int .i64 y.e.k, .string y.e.s, .slice B3 y.e.ns.length d3, .slice B4 y.e.l.length d4, .string y.pol, .slice B6 y.inp.length d6, .slice B7 y.out.length d7, .slice B8 y.ru.length d8, .slice B9 y.ns.length d9, .slice B10 y.l.length d10] 29)).alloc (.cells #[.slice Ab bd.length cb, .slice (some ⟨b9, o9, none⟩) k c9] 22)).drew.heap.size ((wr.alloc (.cells #[.int .i64 y.k, .int .i64 y.e.k, .string y.e.s, .slice B3 y.e.ns.length d3, .slice B4 y.e.l.length d4, .string y.pol, .slice B6 y.inp.length d6, .slice B7 y.out.length d7, .slice B8 y.ru.length d8, .slice B9 y.ns.length d9, .slice B10 y.l.length d10] 29)).alloc (.cells #[.slice Ab bd.length cb, .slice (some ⟨b9, o9, none⟩) k c9] 22)).drew (some ⟨b9, o9, none⟩) x.ns := StrsAt.of HR9.out (HS1.out.cells (hK2.out.cells.trans (Cells.below hbc)))
            have hkw := len_le_strsW x.ns
            have hC := concat_calls (wr.heap.size + 1) 0 2 [bd, x.ns.take k] _ (by simp) (fun i xs hi => by
              match i, hi with
              | 0, hi =>
                obtain rfl : bd = xs := by simpa using hi
                exact ⟨Ab, cb, hrc 0 _ rfl, (HBD.out.cells hK2.out.cells hK2.out.size).cells (Cells.below hbc) hbc.size⟩
              | 1, hi =>
                obtain rfl : x.ns.take k = xs := by simpa using hi
                exact ⟨_, c9, (hrc 1 _ rfl).trans (by rw [hkl]), hs9.take k⟩
              | i + 2, hi => simp at hi) (by rw [hfl, List.length_append, hkl]; have := HWT.out; omega)
            rw [hfl] at hC
            obtain ⟨bd', hbd'⟩ : ∃ bd', As (bd ++ x.ns.take k = bd') := ⟨_, ⟨rfl⟩⟩
            rw [hbd'.out] at hC HM2
            have HC := As.mk hC
            have HBC := As.mk hbc
            clear hC hbc hrc hs9
            refine HC.out.mono ?_
            rintro e w3 ⟨⟨Ac, cc, rfl, hcc, hstc⟩, hb3⟩
            have HB3 := As.mk (Below.then HBC.out hb3)
            have HSTC := As.mk hstc
            have hkl2 := hkl
            have hK3 := As.mk (hK2.out.trans (Kept2.of HB3.out))
            have IY := As.mk (IH.out y hym _ Ac cc bd' Fk w3 (by have := hyw.out; have := HWT.out; rw [← hbd'.out, List.length_append, hkl]; omega) (by have := HL2.out; have := HWF.out; omega) HY.out (HS1.out.cells hK3.out.cells) HSTC.out hcc (fun s hs => by
              rw [← hbd'.out] at hs
              rcases List.mem_append.1 hs with hs | hs
              · exact HBZ.out s hs
              · obtain ⟨j, hj⟩ := List.mem_iff_getElem?.1 (List.mem_of_mem_take hs)
                obtain ⟨_, _, _, _, h⟩ := Row.str HR9.out hj
                exact h) (HF2.out.later HB3.out))
            have y0 := fun j v h => (Cells.below HB3.out) _ _ (HYC.out j v h)
            have Y0 := y0 0 _ rfl
            have Y1 := y0 1 _ rfl
            have Y2 := y0 2 _ rfl
            have Y3 := y0 3 _ rfl
            have Y4 := y0 4 _ rfl
            have Y5 := y0 5 _ rfl
            have Y6 := y0 6 _ rfl
            have Y7 := y0 7 _ rfl
            have Y8 := y0 8 _ rfl
            have Y9 := y0 9 _ rfl
            have Y10 := y0 10 _ rfl
            have z2 := hK3.out.cells _ _ hC2.out
            clear hb3 hstc hkl2 hfl hkl y0 p1 p2 q0 q9 e0 e1 e2 e3 e4 e5 e6 e7 e8 e9 e10
            go_wp2_with fail
            refine IY.out.mono ?_
            rintro e w5 ⟨⟨v, rfl⟩, ⟨F5, hF5, hm5, hl5⟩, hK5⟩
            have HX := As.mk (And.intro (hK3.out.trans hK5) (And.intro hF5 (And.intro (show ∀ s, (s ∈ F ∨ s ∈ Lo.fv x bd) ↔ (s ∈ F5 ∨ s ∈ Lo.fvs x (x.l.drop (k + 1)) (k + 1) bd) from fun s => by rw [HM2.out s, hm5 s, List.mem_append, or_assoc]) (show F5.length + ((x.l.drop (k + 1)).map Lo.wt).sum ≤ F.length + x.wt by have := HL2.out; omega))))
            clear hF5 hm5 hl5 hK5
            go_wp2_with fail
            go_roundw
            case rel => exact ⟨k + 1, F5, by go_num, by omega, ⟨HX.out.1⟩, ⟨HX.out.2.1⟩, ⟨HX.out.2.2.1⟩, ⟨HX.out.2.2.2⟩⟩
            case measure => simp [intOf]; omega
      · obtain rfl : k = x.l.length := by omega
        have HE := As.mk (show ∀ s, s ∈ Fk ↔ s ∈ F ∨ s ∈ Lo.fv x bd from fun s => by rw [hM.out s, List.drop_length, Lo.fvs]; simp)
        have HL3 := As.mk (show Fk.length ≤ F.length + x.wt by have := hL.out; omega)
        clear hM hL
        go_wp2_with fail
        go_end0
        exact ⟨⟨_, rfl⟩, ⟨Fk, hF.out, HE.out, HL3.out⟩, HK0.out.trans hK.out⟩
end Go.Proofs.YtainigjbjfpoaaaGreatDoor

namespace Go.Proofs.YtainigjbjfpoaaaGreatDoor
open Go.RowKit Go.Shelf Go.Maps

set_option maxRecDepth 100000 in
set_option maxHeartbeats 4000000 in
theorem lgFreeAll_calls (P : Pers) (x : Lo) (cs : List Value) (w : World) (hx : Lo.Rep P x cs) (hs : Sat P w) (hw : x.wt ≤ 1073741824) :
    Calls Tryz.prog 10 #[.agg cs.toArray] w fun e w' => (∃ A c, e = .returned (.slice A (freeOf (Lo.fv x [])).length c) ∧ (freeOf (Lo.fv x [])).length ≤ c ∧ StrsAt w'.heap.size w' A (freeOf (Lo.fv x []))) ∧ Below w.heap.size w w' := by
  have hmm := @run_makeMap Tryz.prog
  obtain ⟨i0, hi, hz0, hz1, hz2⟩ := info_parts infoStr
  have HX := As.mk hx
  obtain ⟨A3, c3, A4, c4, A6, c6, A7, c7, A8, c8, A9, c9, A10, c10, rfl, l3, r3, l4, r4, l6, r6, l7, r7, l8, r8, l9, r9, l10, r10, z2, z5, zk, zk2⟩ := hx.open
  have HF := As.mk (fun (W : World) hs hf => lgFree_calls P (w.heap.size + 1) x.sz x _ none 0 [] [] W (Nat.le_refl _) (by simp; omega) (by simp; omega) HX.out hs (StrsAt.nil _ _ _) (Nat.le_refl _) (fun s h => by simp at h) hf)
  have hS0 := As.mk (hs.alloc (.cells #[.int .i64 x.k, .int .i64 x.e.k, .string x.e.s, .slice A3 x.e.ns.length c3, .slice A4 x.e.l.length c4, .string x.pol, .slice A6 x.inp.length c6, .slice A7 x.out.length c7, .slice A8 x.ru.length c8, .slice A9 x.ns.length c9, .slice A10 x.l.length c10] 29))
  have HB0 := As.mk ((Below.refl _ w).alloc (Nat.le_refl _) (.cells #[.int .i64 x.k, .int .i64 x.e.k, .string x.e.s, .slice A3 x.e.ns.length c3, .slice A4 x.e.l.length c4, .string x.pol, .slice A6 x.inp.length c6, .slice A7 x.out.length c7, .slice A8 x.ru.length c8, .slice A9 x.ns.length c9, .slice A10 x.l.length c10] 29))
  have HB1 := As.mk (HB0.out.alloc (by simp) (.map #[] 0))
  have HSS := As.mk (hS0.out.alloc (.map #[] 0))
  have HS2 := As.mk (FdMap.made (w.alloc (.cells #[.int .i64 x.k, .int .i64 x.e.k, .string x.e.s, .slice A3 x.e.ns.length c3, .slice A4 x.e.l.length c4, .string x.pol, .slice A6 x.inp.length c6, .slice A7 x.out.length c7, .slice A8 x.ru.length c8, .slice A9 x.ns.length c9, .slice A10 x.l.length c10] 29)) (w.heap.size + 1) (by simp))
  clear hx r3 r4 r6 r7 r8 r9 r10 zk zk2 z2 z5 hs
  go_enter Tryz.func10, Tryz.ntmps10
  go_wp2_with (first
    | (go_at_call 28
       refine (HF.out _ HSS.out HS2.out).mono ?_
       rintro e w2 ⟨⟨v, rfl⟩, ⟨F', hF2, hm, hle⟩, hK2⟩
       have hB2 : As (Below w.heap.size w w2) := ⟨HB1.out.trans (hK2.below _ (by omega) (by omega) (by simp; omega))⟩
       obtain ⟨D, hown, hD⟩ := FdMap.data hF2
       have hDs := hown.size_le
       have HD := As.mk hD
       have HM := As.mk (fun s => (hm s).trans (show (s ∈ [] ∨ s ∈ Lo.fv x []) ↔ s ∈ Lo.fv x [] by simp))
       have HLE := As.mk hle
       clear hD hF2 hK2 hm hle)
    | (at_range; refine wpList_range_own _ rfl _ 55 rfl 9 4 strKeyed Tryz.underlying55 (plainElem Tryz.prog 4) (w.heap.size + 1) _ D rfl hown ?_; intro w3 hrg3 hg3 hs3
       have hB3 := As.mk (hB2.out.grown hg3 hB2.out.size (fun j hj => by cases hj))
       clear hs3))
  obtain ⟨n, hn⟩ : ∃ n, As (F'.length = n) := ⟨_, ⟨rfl⟩⟩
  rw [hn.out] at hrg3 hDs
  have hbl : w.heap.size + 1 < w2.heap.size := hown.lt
  have hle2 : As (n ≤ 1099511627776) := ⟨by rw [← hn.out]; have := HLE.out; simp at this; omega⟩
  clear hown
  have HOWN3 := As.mk hrg3
  go_frame
  go_loopw [4] (fun v wr => ∃ (left : Lit → Bool) (cnt : Nat) (ss : List (List UInt8)), As (wr.ranges Tryz.prog 9 (plainElem Tryz.prog 4) (w.heap.size + 1) w2.heap.size n D left cnt) ∧ As (ss.length + cnt ≤ Maps.size D) ∧ As (wr.ownsRow w2.heap.size 9 1 v ss.length (ss.map encStr)) ∧ As (Collected D left ss) ∧ As (Below w.heap.size w wr))
    (fun _ wr => wr.rangeLeft (w.heap.size + 1) w2.heap.size)
  case atStart => exact ⟨_, _, [], HOWN3, ⟨by simp⟩, ⟨World.ownsRow_nil _ _ _ _⟩, ⟨Collected.start D⟩, hB3⟩
  case round =>
    obtain ⟨left, cnt, ss, hrg, hcs, hrow, hC, hnx⟩ := hrel
    clear hrg3 hg3
    go_wp2_with (at_next; refine wpList_next_ranges _ rfl _ rfl 9 strKeyed (plainElem Tryz.prog 4) encStr (fun c : BoolV => Value.bool c.b) (fun key kl hk => by obtain ⟨x, hx, _⟩ := Maps.keyOf_str Tryz.underlying9 hk; exact ⟨x, hx⟩) (fun v y hv => by obtain ⟨c, rfl, _⟩ := plainElem_bool_inv Tryz.underlying4 hv; exact ⟨⟨c⟩, rfl⟩) (w.heap.size + 1) w2.heap.size n _ _ _ rfl hrg.out ?_ ?_)
    · intro _ hl0
      have hHD := HD.out
      have hfin : texts (ss.mergeSort leB) = freeOf (Lo.fv x []) := sort_of_mem hC.out.1 (fun y => by
        rw [hC.out.2 y, hl0, hHD y, HM.out]
        simp)
      have hlenF : (freeOf (Lo.fv x [])).length = ss.length := by rw [← hfin]; simp
      have hcells : (freeOf (Lo.fv x [])).map Value.string = (ss.mergeSort leB).map encStr := by rw [← hfin, texts_enc]
      have HFin := As.mk (And.intro hlenF hcells)
      clear hHD hfin hlenF hcells
      rcases hrow.out.2 with ⟨rfl, hz⟩ | ⟨g, cap, cur, rfl, hbase, hb, h1, h2, h3, h4⟩
      · have hss : ss = [] := List.eq_nil_of_length_eq_zero hz
        subst hss
        have hz2 := hrow.out
        have HZ2 := As.mk hz2
        clear hz2
        go_wp2_with (go_at_call 29; refine (Tryz.slices_Sort_string_none none 0 _).mono ?_; rintro e w' ⟨rfl, rfl⟩)
        go_ret
        have := StrsAt.of_row (zs := freeOf (Lo.fv x [])) (by rw [HFin.out.1, HFin.out.2]; simpa using HZ2.out)
        rw [HFin.out.1] at this
        obtain ⟨A, c, e, hc, hst⟩ := this
        exact ⟨⟨A, c, by rw [HFin.out.1, ← e]; rfl, by rw [HFin.out.1]; exact hc, hst⟩, hnx.out⟩
      · have hH : Go.Sort.Holds encStr wr g 0 ss.toArray := holds_of_block hb (by simpa using h4)
        have hgl : g < wr.heap.size := (Array.getElem?_eq_some_iff.1 hb).1
        have cS := Tryz.slices_Sort_string g 0 cap ss wr hH hgl (by have := hcs.out; have := hle2.out; omega)
        have HB9 := As.mk (And.intro hbase (And.intro hb (And.intro h1 (And.intro h2 h3))))
        clear hbase hb h1 h2 h3 h4 hH hgl
        go_wp2_with (go_at_call 29; refine cS.mono ?_; rintro e w' ⟨rfl, nn, os, rfl⟩)
        go_ret
        obtain ⟨hbase, hb, h1, h2, h3⟩ := HB9.out
        have ho := ownsRow_sorted (w := wr) (n := nn) (os := os) (cap := cap) (ss := ss) (ts := ss.mergeSort leB) (by simp) hbase hb h1 h2 h3
        have := StrsAt.of_row (zs := freeOf (Lo.fv x [])) (by rw [HFin.out.1, HFin.out.2]; exact ho)
        rw [HFin.out.1] at this
        obtain ⟨A, c, e, hc, hst⟩ := this
        exact ⟨⟨A, c, by rw [HFin.out.1, ← e]; rfl, by rw [HFin.out.1]; exact hc, hst⟩, hnx.out.grown (grownBy_sorted _) hnx.out.size (fun j hj => by cases hj; omega)⟩
    · intro x1 c1 kl yd yp w4 cnt2 hkey hlk hv hat hrg2 hlt hg2 hs2 hen
      obtain ⟨x', ex, rfl, _⟩ := Maps.keyOf_str Tryz.underlying9 hkey
      obtain rfl : x1 = x' := encStr_inj ex
      have hrow2 := hrow.out.kept hg2 (Or.inr (row_ne_iter hrow.out hrg.out).symm)
      have HB2 := As.mk (hnx.out.grown hg2 hnx.out.size (fun j hj => by cases hj; omega))
      have hbl4 : w2.heap.size ≤ w4.heap.size := by have := hg2.size; have := hrg.out.lt; omega
      have HST := As.mk (hC.out.step hlk hat)
      have HLT := As.mk (And.intro hlt (hrg.out.left_eq))
      have HRG2 := As.mk hrg2
      have HCS := hcs.out
      have HLE := hle2.out
      clear hs2 hkey hlk hv hat hlt hg2 hrg2 hrow hrg hnx hC hcs
      go_wp2_with (at_builtin; refine wpList_append_own _ rfl _ _ 22 rfl w2.heap.size 9 i0 (.string ⟨#[]⟩) 1 16 Tryz.underlying22 hi hz0 hz1 hz2 rfl (by decide) _ _ _ rfl (hrow2.alloc _) ⟨w4.heap.size, 0, none⟩ 1 1 [encStr x1] rfl rfl (cell_one_new _ _ _) (by simp [Value.oneCell', encStr]) (by unfold maxLen; omega) (by omega) (by simp; omega) ?_; intro v' w5 hown' hg5 _)
      have hrg5 := (HRG2.out.alloc _).kept hg5 (row_ne_low hrow2 hbl) (row_ne_iter hrow2 HRG2.out)
      go_roundw
      case rel =>
        refine ⟨_, cnt2, ss ++ [x1], ⟨hrg5⟩, ⟨by simp; have := HLT.out.1; omega⟩, ⟨by simpa using hown'⟩, HST, ⟨?_⟩⟩
        exact (HB2.out.alloc HB2.out.size _).grown hg5 (by have := HB2.out.size; simp; omega) (fun j hj => by have := (hrow2.lt j hj).1; omega)
      case measure => rw [hrg5.left_eq, HLT.out.2]; exact HLT.out.1
end Go.Proofs.YtainigjbjfpoaaaGreatDoor
