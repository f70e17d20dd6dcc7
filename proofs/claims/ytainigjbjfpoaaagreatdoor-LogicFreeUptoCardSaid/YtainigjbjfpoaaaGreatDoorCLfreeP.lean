/- With just the names that it needs a right logic's are in scope: the pure law; an append of texts in a region that draws its order. -/
/- tipstavelaw15.LogicFree: the walk. -/
import Derived.Test.YtainigjbjfpoaaaGreatDoorCLoSc
import Derived.Test.YtainigjbjfpoaaaGreatDoorCAlive
import Derived.Test.YtainigjbjfpoaaaGreatDoorCRSame3
namespace Go.Proofs.YtainigjbjfpoaaaGreatDoor
open Go.RowKit Go.Shelf Go.Maps

theorem step_append_strs {ops : Array Oper} {o : Oper} {a : Act} {w : World} {K : Act → World → Prop} {Q : Exit → Act → World → Prop} {E : Prop} (hg : o.guard = none) (s x : Operand)
    (hop : o.op = Op.call { callee := Callee.builtin Builtin.append, args := #[s, x], argTypes := #[22, 22] }) (base : Nat) (v : Value) (zs ys : List ByteArray) (A : Option Addr) (c n : Nat)
    (hs : a.eval s = v) (hx : a.eval x = .slice A n c) (hn : ys.length = n) (hrow : w.ownsRow base 9 1 v zs.length (zs.map Value.string)) (hy : StrsAt w.heap.size w A ys) (hz : zs.length + ys.length ≤ 4294967296) (hb : base ≤ w.heap.size)
    (hK : ∀ v' w', w'.ownsRow base 9 1 v' (zs ++ ys).length ((zs ++ ys).map Value.string) → w.grownBy w' v.ownBlock → K (a.put o.dst v') w') :
    if Region.wanted o (yielded ops a.tmps) = true then Oper.wp Tryz.prog o a w K Q else E := by
  have hw : Region.wanted o (yielded ops a.tmps) = true := by simp [Region.wanted, hg]
  rw [if_pos hw]
  subst hn
  obtain ⟨v', w', hrun, h1, h2⟩ := append_run base v zs ys A c w hrow hy hz hb o.type
  unfold Oper.wp
  simp [execOp, hop, resolve, invoke, builtin, hs, hx, hrun, Result.andThen]
  exact hK v' w' h1 h2

theorem step_append_first {ops : Array Oper} {o : Oper} {a : Act} {w : World} {K : Act → World → Prop} {Q : Exit → Act → World → Prop} {E : Prop} (hg : o.guard = none) (s x : Operand)
    (hop : o.op = Op.call { callee := Callee.builtin Builtin.append, args := #[s, x], argTypes := #[22, 22] }) (base : Nat) (v : Value) (ys : List ByteArray) (A : Option Addr) (c n : Nat)
    (hs : a.eval s = v) (hx : a.eval x = .slice A n c) (hn : ys.length = n) (hrow : w.ownsRow base 9 1 v 0 []) (hy : StrsAt w.heap.size w A ys) (hz : ys.length ≤ 4294967296) (hb : base ≤ w.heap.size)
    (hK : ∀ v' w', w'.ownsRow base 9 1 v' ys.length (ys.map Value.string) → w.grownBy w' v.ownBlock → K (a.put o.dst v') w') :
    if Region.wanted o (yielded ops a.tmps) = true then Oper.wp Tryz.prog o a w K Q else E :=
  step_append_strs hg s x hop base v [] ys A c n hs hx hn hrow hy (by simpa using hz) hb (by simpa using hK)

theorem occ_right {x : Lo} (h : loErr x = 0) : ∀ s ∈ x.occ, right s = true := Lo.err_names _ x (Nat.le_refl _) (loErr_zero h).2
theorem Lo.fv_occ : ∀ (n : Nat) (x : Lo) (s : ByteArray), x.sz ≤ n → s ∈ Lo.fv x [] → s ∈ x.occ
  | 0, x, s, h, _ => by cases x; simp [Lo.sz] at h
  | n + 1, x, s, h, hs => by
    have h2 : ∀ (ys : List Lo) (i : Nat), (∀ y ∈ ys, y ∈ x.l) → s ∈ Lo.fvs x ys i [] → s ∈ Lo.occs ys := by
      intro ys
      induction ys with
      | nil => intro i _ h; simp [Lo.fvs] at h
      | cons y ys ih =>
        intro i hy hs
        rw [Lo.fvs, List.mem_append] at hs
        rw [Lo.occs, List.mem_append]
        rcases hs with hs | hs
        · exact .inl (Lo.fv_occ n y s (by have := Lo.lt_of_mem (hy y (by simp)); omega) ((Lo.fv_bd' y _ s).1 hs).1)
        · exact .inr (ih (i + 1) (fun z hz => hy z (by simp [hz])) hs)
    rw [Lo.fv_eq, List.mem_append] at hs
    rw [Lo.occ_eq, List.mem_append, List.mem_append]
    rcases hs with hs | hs
    · obtain ⟨y, hy, hs⟩ := List.mem_flatMap.1 hs
      exact .inl (.inl (List.mem_flatMap.2 ⟨y, hy, Ex.fv_occ _ y s (Nat.le_refl _) (need_mem.1 hs).1⟩))
    · exact .inr (h2 x.l 0 (fun _ h => h) hs)
theorem freeOf_occ {x : Lo} {s : ByteArray} (h : s ∈ freeOf (Lo.fv x [])) : s ∈ x.occ := Lo.fv_occ _ x s (Nat.le_refl _) (freeOf_mem.1 h)
theorem nub_occ_few (x : Lo) (hw : x.wt ≤ 5000) : (nub x.occ).length ≤ 2500 := by
  have h1 := Lo.occ_strsW _ x (Nat.le_refl _)
  have h2 := strsW_sub (nub_sub x.occ)
  have h3 := strsW_nodup (nub_nodup x.occ)
  omega
/-- all names that come up, where some more are given -/
def allN (x : Lo) (more : List ByteArray) : List ByteArray := itemName :: (more ++ nub x.occ)
theorem allN_few {x : Lo} {more : List ByteArray} (hw : x.wt ≤ 5000) (hm : more.length ≤ 100) : (allN x more).length ≤ 4096 := by
  have := nub_occ_few x hw
  unfold allN
  simp
  omega
theorem allN_occ {x : Lo} {more : List ByteArray} {s : ByteArray} (h : s ∈ x.occ) : s ∈ allN x more := by
  unfold allN
  simp [nub_mem, h]
theorem allN_more {x : Lo} {more : List ByteArray} {s : ByteArray} (h : s ∈ more) : s ∈ allN x more := by
  unfold allN
  simp [h]
theorem allN_item {x : Lo} {more : List ByteArray} : itemName ∈ allN x more := by simp [allN]
/-- the names without one -/
def without (l : List ByteArray) (i : Nat) : List ByteArray := l.take i ++ l.drop (i + 1)
theorem without_mem {l : List ByteArray} {i : Nat} {s : ByteArray} (h : s ∈ without l i) : s ∈ l := (List.mem_append.1 h).elim List.mem_of_mem_take List.mem_of_mem_drop
theorem without_not {l : List ByteArray} (h : l.Nodup) {i : Nat} {s : ByteArray} (hi : l[i]? = some s) : s ∉ without l i := by
  obtain ⟨hl, e⟩ := List.getElem?_eq_some_iff.1 hi
  have h1 : l = l.take i ++ s :: l.drop (i + 1) := by rw [← e, ← List.drop_eq_getElem_cons hl, List.take_append_drop]
  rw [h1] at h
  obtain ⟨_, h2, h3⟩ := List.nodup_append.1 h
  obtain ⟨h4, _⟩ := List.nodup_cons.1 h2
  unfold without
  rw [List.mem_append]
  rintro (h5 | h5)
  · exact h3 s h5 s (by simp) rfl
  · exact h4 h5
theorem addAll_self {F : List ByteArray} (h : Rising F) : addAll [] F = F :=
  (addAll_rising List.Pairwise.nil).ext h fun s => by rw [addAll_mem]; simp
theorem in_free (x : Lo) : x.in_ (freeOf (Lo.fv x [])) = true := Lo.in_iff.2 fun _ hs => freeOf_mem.2 hs
theorem in_more {x : Lo} {N : List ByteArray} (h : ∀ s ∈ freeOf (Lo.fv x []), s ∈ N) : x.in_ N = true := Lo.in_iff.2 fun s hs => h s (freeOf_mem.2 hs)
theorem not_in_without {x : Lo} {i : Nat} {s : ByteArray} (hi : (freeOf (Lo.fv x []))[i]? = some s) {N : List ByteArray} (hN : ∀ t, t ∈ N ↔ t ∈ without (freeOf (Lo.fv x [])) i) : ¬ x.in_ N = true := fun h =>
  without_not (freeOf_nodup _) hi ((hN s).1 (Lo.in_iff.1 h s (freeOf_mem.1 (List.mem_of_getElem? hi))))
theorem StrsAt.drop {n : Nat} {W : World} {b o : Nat} {zs : List ByteArray} (h : StrsAt n W (some ⟨b, o, none⟩) zs) (k : Nat) : StrsAt n W (some ⟨b, o + k, none⟩) (zs.drop k) := fun j x hj => by
  rw [List.getElem?_drop] at hj
  obtain ⟨b', o', e, hb, hc⟩ := h (k + j) x hj
  cases e
  exact ⟨b, o + k, rfl, hb, by rw [Nat.add_assoc]; exact hc⟩
theorem StrsAt.grown {n base : Nat} {W W' : World} {A : Option Addr} {zs : List ByteArray} {v : Value} {e sz m : Nat} {xs : List Value} (h : StrsAt n W A zs) (hrow : W.ownsRow base e sz v m xs) (hn : n ≤ base) (hg : W.grownBy W' v.ownBlock) : StrsAt n W' A zs := fun j x hj => by
  obtain ⟨b, o, e, hb, hc⟩ := h j x hj
  exact ⟨b, o, e, hb, hg.cell hc (fun e => by have := (hrow.lt b e.symm).1; omega)⟩
end Go.Proofs.YtainigjbjfpoaaaGreatDoor

namespace Go.Proofs.YtainigjbjfpoaaaGreatDoor
open Go.RowKit Go.Shelf Go.Maps

/-- what is kept while the names are gone through -/
structure FreeKeep (P : Pers) (w w5 : World) (W : World) : Prop where
  below : Below w.heap.size w W
  sat : Sat (P.snap w5) W
  size : w5.heap.size ≤ W.heap.size
theorem FreeKeep.later {P : Pers} {w w5 W W' : World} (h : FreeKeep P w w5 W) (hb : Below W.heap.size W W') : FreeKeep P w w5 W' := ⟨h.below.trans (hb.mono h.below.size), h.sat.below hb, Nat.le_trans h.size hb.size⟩
theorem FreeKeep.alloc {P : Pers} {w w5 W : World} (h : FreeKeep P w w5 W) (o : Obj) : FreeKeep P w w5 (W.alloc o) := h.later ((Below.refl _ _).alloc (Nat.le_refl _) o)
theorem FreeKeep.grown {P : Pers} {w w5 W W' : World} {base : Nat} {v : Value} {n : Nat} {e sz : Nat} {xs : List Value} (h : FreeKeep P w w5 W) (hrow : W.ownsRow base e sz v n xs) (hbase : w5.heap.size ≤ base) (hs5 : Sat (P.snap w5) w5) (hw : w.heap.size ≤ w5.heap.size) (hg : W.grownBy W' v.ownBlock) : FreeKeep P w w5 W' :=
  ⟨h.below.grown hg h.below.size (fun j hj => by have := (hrow.lt j hj).1; omega), h.sat.grown hg (fun b hb => hs5.fresh (by have := (hrow.lt b hb).1; omega)), Nat.le_trans h.size hg.size⟩

set_option maxRecDepth 100000 in
set_option maxHeartbeats 8000000 in
theorem lfree_calls (P : Pers) (G : Glob P) (x : Lo) (ca : List Value) (Am : Option Addr) (cm : Nat) (more : List ByteArray) (w : World) (hx : Lo.Rep P x ca) (hm : Strs P Am more) (hs : Sat P w) (hw : x.wt ≤ 549755813888) :
    Calls Tryz.prog 6 #[.agg ca.toArray, .slice Am more.length cm] w fun e w' => e = .returned (.bool true) ∧ Below w.heap.size w w' := by
  have HX := As.mk hx
  have HG := As.mk G
  have HM := As.mk hm
  have HAL := As.mk (fun w hs => alive_calls P G w hs)
  obtain ⟨A3, c3, A4, c4, A6, c6, A7, c7, A8, c8, A9, c9, A10, c10, rfl, l3, r3, l4, r4, l6, r6, l7, r7, l8, r8, l9, r9, l10, r10, z2, z5, zk, zk2⟩ := hx.open
  have HS := As.mk hs
  have HW := As.mk hw
  clear hx hs hw r3 r4 r6 r7 r8 r9 r10 zk zk2 z2 z5 G hm
  go_enter Tryz.func6, Tryz.ntmps6
  go_wp2_with fail
  refine calls_abs ?_
  intro w0 hw0
  have HK0 : As (RowAt w0 w.heap.size _) := As.mk (row_at hw0 rfl)
  have HB0 := As.mk (show Below w.heap.size w w0 by rw [hw0]; exact (Below.refl _ _).alloc (Nat.le_refl _) _)
  have HS0 := As.mk (HS.out.below HB0.out)
  clear hw0
  refine (HAL.out _ HS0.out).mono ?_
  rintro e w1 ⟨rfl, hb1⟩
  have HB1 := As.mk (HB0.out.trans (hb1.mono HB0.out.size))
  have HS1 := As.mk (HS0.out.below hb1)
  have HK1 := As.mk (HK0.out.below hb1)
  obtain ⟨p0, p1, p2, p3, p4, p5, p6, p7, p8, p9, p10⟩ := cells11 HK1.out
  clear hb1
  go_wp2_with fail
  refine calls_abs ?_
  intro V1 hV1
  have hr := row_at hV1 rfl
  have hbv := show Below w1.heap.size w1 V1 by rw [hV1]; exact (Below.refl _ _).alloc (Nat.le_refl _) _
  have HBV := As.mk (HB1.out.trans (hbv.mono HB1.out.size))
  have HGR := As.mk (great_calls (P.snap V1) (some ⟨w1.heap.size, 0, none⟩) 1 [x] V1 (Row.one (HX.out.mono (Pers.le_snap _ _)) (fun j v h => .inr (hr j v h))) (Sat.snap (HS1.out.below hbv)) (fun y hy => by simp at hy; subst hy; exact HW.out))
  have HSV := As.mk (HS1.out.below hbv)
  have HKV := As.mk (HK1.out.below hbv)
  clear hV1 hr hbv p0 p1 p2 p3 p4 p5 p6 p7 p8 p9 p10
  refine HGR.out.mono ?_
  rintro e w2 ⟨h, hb2⟩
  have HB2 := As.mk (HBV.out.trans (hb2.mono HBV.out.size))
  have HS2 := As.mk (HSV.out.below hb2)
  have HK2 := As.mk (HKV.out.below hb2)
  clear hb2
  rcases h with rfl | ⟨rfl, hwt⟩
  · go_wp2_with fail
    refine (HAL.out _ HS2.out).mono ?_
    rintro e w3 ⟨rfl, hb3⟩
    have HF := As.mk (HB2.out.trans (hb3.mono HB2.out.size))
    clear hb3
    go_wp2_with fail
    go_ret
    exact ⟨rfl, HF.out⟩
  · have HWT := As.mk (hwt x (by simp))
    clear hwt
    by_cases hml : 50 < more.length
    · have hq : decide (50 < (more.length : Int)) = true := decide_eq_true (by omega)
      have hq2 : decide (50 < more.length) = true := decide_eq_true hml
      clear hml
      go_wp2_with fail
      refine (HAL.out _ HS2.out).mono ?_
      rintro e w3 ⟨rfl, hb3⟩
      have HF := As.mk (HB2.out.trans (hb3.mono HB2.out.size))
      clear hb3
      go_wp2_with fail
      go_ret
      exact ⟨rfl, HF.out⟩
    have hq : decide (50 < (more.length : Int)) = false := decide_eq_false (by omega)
    have hq2 : decide (50 < more.length) = false := decide_eq_false hml
    have HML := As.mk (show more.length ≤ 50 by omega)
    clear hml
    have HC := As.mk (logicCheck_calls P HG.out x _ w2 HX.out HS2.out)
    obtain ⟨p0, p1, p2, p3, p4, p5, p6, p7, p8, p9, p10⟩ := cells11 HK2.out
    obtain ⟨n, hn⟩ : ∃ n, As (loErr x = n) := ⟨_, ⟨rfl⟩⟩
    rw [hn.out] at HC
    rcases Nat.eq_zero_or_pos n with h0 | h0
    · have HN := As.mk (hn.out.trans h0)
      rw [h0] at HC
      clear h0 hn
      go_wp2_with fail
      refine HC.out.mono ?_
      rintro e w3 ⟨rfl, hb3⟩
      have HB3 := As.mk (HB2.out.trans (hb3.mono HB2.out.size))
      have HS3 := As.mk (HS2.out.below hb3)
      have HK3 := As.mk (HK2.out.below hb3)
      clear hb3 p0 p1 p2 p3 p4 p5 p6 p7 p8 p9 p10 hq hq2
      have HFEW := As.mk (freeOf_few x HWT.out)
      have HFR := As.mk (fun W hs => lgFreeAll_calls P x _ W HX.out hs (by have := HWT.out; omega))
      have HOC := As.mk (fun s (h : s ∈ freeOf (Lo.fv x [])) => freeOf_occ (x := x) h)
      have HIN := As.mk (in_free x)
      have HINM := As.mk (fun N => in_more (x := x) (N := N))
      have HNIN := As.mk (fun i s (hi : (freeOf (Lo.fv x []))[i]? = some s) N => not_in_without (x := x) hi (N := N))
      have HRI := As.mk (freeOf_rising (Lo.fv x []))
      obtain ⟨F, hF⟩ : ∃ F, As (freeOf (Lo.fv x []) = F) := ⟨_, ⟨rfl⟩⟩
      rw [hF.out] at HFR HFEW HOC HIN HINM HNIN HRI
      clear hF
      have HSC := As.mk (fun (Q : Pers) (g : Glob Q) (hp : PLe P Q) (b : Nat) (ls : List (List ByteArray)) (W : World) (hok : ScOk Q (some ⟨b, 0, none⟩) ls) (hs : Sat Q W) (hN : ∀ s ∈ scN ls, s ∈ F ∨ s ∈ more) =>
        loScoped_calls (allN x more) (allN_few HWT.out (by have := HML.out; omega)) allN_item x.sz Q g x _ (some ⟨b, 0, none⟩) ls W (Nat.le_refl _) (HX.out.mono hp) (loErr_zero HN.out).2 hok hs (fun s h => (hN s h).elim (fun h => allN_occ (HOC.out s h)) allN_more) (fun s h => allN_occ h))
      obtain ⟨p0, p1, p2, p3, p4, p5, p6, p7, p8, p9, p10⟩ := cells11 HK3.out
      go_wp2_with fail
      refine (HFR.out _ HS3.out).mono ?_
      rintro e w4 ⟨⟨AF, cF, rfl, hcF, hst⟩, hb4⟩
      have HB4 := As.mk (HB3.out.trans (hb4.mono HB3.out.size))
      have HS4 := As.mk (HS3.out.below hb4)
      have HK4 := As.mk (HK3.out.below hb4)
      have hfl := HFEW.out.1
      have HSF := As.mk (strs_snap (P := P) hst (by unfold maxRow; omega) (fun s hs => Nat.le_trans (HFEW.out.2 s hs) (by decide)))
      have HBF := As.mk (show bad F = false from bad_of fun s h => occ_right HN.out s (HOC.out s h))
      clear hst hb4 p0 p1 p2 p3 p4 p5 p6 p7 p8 p9 p10
      have HNW := As.mk (scNew_calls (P.snap w4) (HG.out.mono (Pers.le_snap _ _)) AF cF F w4 HSF.out (Sat.snap HS4.out))
      go_wp2_with fail
      refine HNW.out.mono ?_
      rintro e w5 ⟨hnew, hb5⟩
      have hselfl : addAll (scN []) F = F := by rw [scN_nil]; exact addAll_self HRI.out
      obtain ⟨b5, ls5, rfl, hok5, hN5⟩ : ∃ b ls', e = .returned (.tuple #[.pointer (some ⟨b, 0, none⟩), .int .i64 0]) ∧ ScOk ((P.snap w4).snap w5) (some ⟨b, 0, none⟩) ls' ∧ scN ls' = F := by
        rcases hnew.scN with ⟨h, _⟩ | ⟨_, h, _⟩ | ⟨_, _, b, ls', h1, h2, h3⟩
        · rw [HBF.out] at h; cases h
        · rw [hselfl] at h; omega
        · exact ⟨b, ls', h1, h2, by rw [h3, hselfl]⟩
      have HB5 := As.mk (HB4.out.trans (hb5.mono HB4.out.size))
      have HS5 := As.mk (HS4.out.below hb5)
      have HK5 := As.mk (HK4.out.below hb5)
      have HSQ5 := As.mk ((Sat.snap HS4.out).below hb5)
      have hPQ : PLe (P.snap w4) (P.snap w5) := fun p v h => h.elim .inl (fun h => .inr (Cells.below hb5 p v h))
      have hQQ : PLe ((P.snap w4).snap w5) (P.snap w5) := fun p v h => h.elim (hPQ p v) .inr
      have HOK5 := As.mk (hok5.mono hQQ)
      have HN5 := As.mk hN5
      have HSF5 := As.mk (HSF.out.mono hPQ (fun _ _ _ h => h))
      clear hnew hb5 hselfl hok5 hN5 hPQ hQQ HNW HSQ5
      obtain ⟨p0, p1, p2, p3, p4, p5, p6, p7, p8, p9, p10⟩ := cells11 HK5.out
      have HL5 := As.mk (HSC.out (P.snap w5) (HG.out.mono (Pers.le_snap _ _)) (Pers.le_snap _ _) b5 ls5 w5 HOK5.out (Sat.snap HS5.out) (by rw [HN5.out]; exact fun s h => .inl h))
      rw [HN5.out, Lo.sc_zero HIN.out] at HL5
      go_wp2_with fail
      refine HL5.out.mono ?_
      rintro e w6 ⟨rfl, hb6⟩
      have HB6 := As.mk (HB5.out.trans (hb6.mono HB5.out.size))
      have HSQ6 := As.mk ((Sat.snap HS5.out).below hb6)
      have HZ6 := As.mk hb6.size
      clear hb6 p0 p1 p2 p3 p4 p5 p6 p7 p8 p9 p10
      have HWM := As.mk (scWith_calls (P.snap w5) (HG.out.mono (Pers.le_snap _ _)) (some ⟨b5, 0, none⟩) Am cm ls5 more w6 HOK5.out (HM.out.mono (Pers.le_snap _ _) (fun _ _ _ h => h)) HSQ6.out (by rw [HN5.out]; omega))
      go_wp2_with fail
      refine HWM.out.mono ?_
      rintro e w7 ⟨hnew, hb7⟩
      have HB7 := As.mk (HB6.out.trans (hb7.mono HB6.out.size))
      have HSQ7 := As.mk (HSQ6.out.below hb7)
      have hnew2 := hnew.scN
      clear hnew
      -- the names with more, if they may be: then all are in scope, too
      have hcase : (∃ m : Nat, m ≠ 0 ∧ e = .returned (.tuple #[.pointer none, .int .i64 m])) ∨ (∃ b ls', e = .returned (.tuple #[.pointer (some ⟨b, 0, none⟩), .int .i64 0]) ∧ ScOk ((P.snap w5).snap w7) (some ⟨b, 0, none⟩) ls' ∧ scN ls' = addAll F more) := by
        rcases hnew2 with ⟨_, h⟩ | ⟨_, _, h⟩ | ⟨_, _, b, ls', h1, h2, h3⟩
        · exact .inl ⟨6, by decide, h⟩
        · exact .inl ⟨19, by decide, h⟩
        · exact .inr ⟨b, ls', h1, h2, by rw [h3, HN5.out]⟩
      clear hnew2
      rcases hcase with ⟨m, hm0, rfl⟩ | ⟨b7, ls7, rfl, hok7, hN7⟩
      · have hqm : ((m : Int) == 0) = false := beq_eq_false_iff_ne.2 (by omega)
        have hz57 := Nat.le_trans HZ6.out hb7.size
        clear hm0 hb7
        go_upto_region 10 with fail
        have HFK := As.mk (show FreeKeep P w w5 w7 from ⟨HB7.out, HSQ7.out, hz57⟩)
        go_wp2
        go_loopw [63] (fun i wr => ∃ k : Nat, i = .int .i64 k ∧ k ≤ F.length ∧ As (FreeKeep P w w5 wr)) (fun i _ => F.length - (intOf i).toNat)
        case atStart => exact ⟨0, rfl, Nat.zero_le _, HFK⟩
        case round =>
          obtain ⟨k, rfl, hk, hkeep⟩ := hrel
          by_cases hlt : k < F.length
          · obtain ⟨s, hs⟩ : ∃ s, As (F[k]? = some s) := ⟨_, ⟨List.getElem?_eq_getElem hlt⟩⟩
            obtain ⟨bF, oF, rfl, _, _⟩ := Row.str HSF5.out hs.out
            have hstF := StrsAt.of HSF5.out hkeep.out.sat
            have HTK := As.mk (hstF.take k)
            have HDR := As.mk (hstF.drop (k + 1))
            have htl : (F.take k).length = k := by rw [List.length_take]; omega
            have hdl : (F.drop (k + 1)).length = F.length - (k + 1) := List.length_drop
            have hwl : (without F k).length = F.length - 1 := by unfold without; rw [List.length_append, htl, hdl]; omega
            have HTL := As.mk htl
            have HDL := As.mk hdl
            have HSU := As.mk (show ∀ t ∈ without F k, t.size ≤ maxStr from fun t ht => Nat.le_trans (HFEW.out.2 t (without_mem ht)) (by decide))
            have HBU := As.mk (show bad (without F k) = false from bad_of fun t h => occ_right HN.out t (HOC.out t (without_mem h)))
            have HAU := As.mk (show (addAll (scN []) (without F k)).length ≤ 4096 by
              rw [scN_nil]
              have := addAll_length (without F k) []
              simp at this
              omega)
            have HNWU : As (∀ (A : Option Addr) (c : Nat) (W : World), Sat P W → StrsAt W.heap.size W A (without F k) → Calls Tryz.prog 17 #[.slice A (without F k).length c] W fun e w' => (∃ b ls', e = .returned (.tuple #[.pointer (some ⟨b, 0, none⟩), .int .i64 0]) ∧ ScOk (P.snap w') (some ⟨b, 0, none⟩) ls' ∧ scN ls' = addAll (scN []) (without F k)) ∧ Below W.heap.size W w') := ⟨fun A c W hs hst => (scNew_calls (P.snap W) (HG.out.mono (Pers.le_snap _ _)) A c (without F k) W (strs_snap hst (by unfold maxRow; omega) HSU.out) (Sat.snap hs)).mono fun e w' ⟨hnew, hb⟩ => by
              refine ⟨?_, hb⟩
              rcases hnew.scN with ⟨h, _⟩ | ⟨_, h, _⟩ | ⟨_, _, b, ls', h1, h2, h3⟩
              · rw [HBU.out] at h; cases h
              · have := HAU.out; omega
              · exact ⟨b, ls', h1, h2.mono (fun p v h => h.elim (fun h => h.elim .inl (fun h => .inr (Cells.below hb p v h))) .inr), h3⟩⟩
            have hkI : (k : Int) ≤ (F.length : Int) := by omega
            have hkc : (k : Int) ≤ (cF : Int) := by omega
            have hrow0 : (wr.alloc (.cells #[] 9)).drew.ownsRow wr.heap.size 9 1 (.slice (some ⟨wr.heap.size, 0, none⟩) 0 0) 0 [] := World.ownsRow_lit wr #[] 0 (Nat.le_refl _) (by decide) rfl
            have HSS := As.mk (Sat.snap HS5.out)
            clear htl hdl hstF
            have HWL := As.mk hwl
            clear hwl
            have hb0 : Below wr.heap.size wr (wr.alloc (.cells #[] 9)) := (Below.refl _ _).alloc (Nat.le_refl _) _
            have hbW : Below wr.heap.size wr (wr.alloc (.cells #[] 9)).drew := hb0.drew
            have hszW : wr.heap.size ≤ (wr.alloc (.cells #[] 9)).drew.heap.size := hbW.size
            have kd : FreeKeep P w w5 wr.drew := ⟨hkeep.out.below.drew, hkeep.out.sat.drew, hkeep.out.size⟩
            have kW : FreeKeep P w w5 (wr.alloc (.cells #[] 9)).drew := hkeep.out.later hbW
            have e1 : IntKind.i64.wrap ((k : Int) + 1) = (k : Int) + 1 := IntWalk.i64_in _ (by omega)
            have e2 : (0 : Int) ≤ (k : Int) + 1 := by omega
            have e3 : (k : Int) + 1 ≤ (F.length : Int) := by omega
            have e4 : ((k : Int) + 1).toNat = k + 1 := by omega
            have e5 : (k : Int) + 1 ≤ (cF : Int) := by omega
            have e6 : (k : Int) ≤ (k : Int) + 1 := by omega
            clear hb0
            rcases Decidable.em (cF = k + 1) with rfl | hck
            · have HDR := As.mk (show StrsAt wr.heap.size wr (some ⟨bF, oF, none⟩) (F.drop (k + 1)) by rw [List.drop_eq_nil_of_le (by omega)]; exact StrsAt.nil _ _ _)
              have HDL := As.mk (show (F.drop (k + 1)).length = 0 by rw [List.drop_eq_nil_of_le (by omega)]; rfl)
              go_upto_region 13 with fail
              go_region_held3 (fun W => FreeKeep P w w5 W)
                (first
                  | exact kd
                  | exact kW
                  | exact k1
                  | exact k2
                  | exact FreeKeep.later (by assumption) hb')
                (first
                  | (refine step_append_first rfl (.tmp 67) (.tmp 70) rfl wr.heap.size (.slice (some ⟨wr.heap.size, 0, none⟩) 0 0) (F.take k) (some ⟨bF, oF, none⟩) (k + 1) k (by simp [Act.eval]) (by simp [Act.eval]) HTL.out hrow0 ((HTK.out.below hbW).mono hszW) ?_ ?_ ?_; (have := HTL.out; omega); exact hszW; intro v1 w1 hrow1 hg1; have k1 := FreeKeep.grown kW hrow0 hkeep.out.size HSS.out HB5.out.size hg1; have z1 := Nat.le_trans hszW hg1.size; have d1 := ((HDR.out.below hbW).grown hrow0 (Nat.le_refl _) hg1).mono z1)
                  | (refine step_append_strs rfl (.tmp 71) (.tmp 75) rfl wr.heap.size v1 (F.take k) (F.drop (k + 1)) (some ⟨bF, oF, none⟩) 0 0 (by simp [Act.eval]) (by simp [Act.eval]) HDL.out hrow1 d1 ?_ ?_ ?_; (have := HTL.out; have := HDL.out; omega); exact z1; intro v2 w2 hrow2 hg2; have k2 := FreeKeep.grown k1 hrow1 hkeep.out.size HSS.out HB5.out.size hg2; obtain ⟨A2, c2, e2, _, hst2⟩ := StrsAt.of_row (zs := without F k) hrow2; subst e2)
                  | (go_at_call 17; refine (HNWU.out _ _ _ (k2.sat.le (Pers.le_snap _ _)) hst2).mono ?_; rintro e w9 ⟨⟨b9, ls9, rfl, hok9, hN9⟩, hb'⟩; have HOK9 := As.mk hok9; have HN9 := As.mk hN9; clear hok9 hN9))
              rename_i hh
              have HK9 := As.mk (show FreeKeep P w w5 w9 from hh)
              have hN9m : ∀ t, t ∈ scN ls9 ↔ t ∈ without F k := fun t => by rw [HN9.out, scN_nil, addAll_mem]; simp
              have HI := As.mk (HSC.out (P.snap w9) (HG.out.mono (Pers.le_snap _ _)) (Pers.le_snap _ _) b9 ls9 w9 HOK9.out (Sat.snap (HK9.out.sat.le (Pers.le_snap _ _))) (fun t ht => .inl (without_mem ((hN9m t).1 ht))))
              rw [Lo.sc_thirteen (HNIN.out k s hs.out (scN ls9) hN9m)] at HI
              obtain ⟨p0, p1, p2, p3, p4, p5, p6, p7, p8, p9, p10⟩ := cells11 (HK5.out.sat HK9.out.sat)
              clear hh hN9m kd kW hbW hszW hrow0 hb' e1 e2 e3 e4 e5 e6 k1 k2 z1 d1 hrow1 hg1 hrow2 hg2 hst2
              go_wp2_with fail
              refine HI.out.mono ?_
              rintro e wz ⟨rfl, hbz⟩
              have HKZ := As.mk (HK9.out.later hbz)
              clear hbz p0 p1 p2 p3 p4 p5 p6 p7 p8 p9 p10
              go_wp2_with fail
              go_roundw
              case rel => exact ⟨k + 1, by go_num, by omega, HKZ⟩
              case measure => simp [intOf]; omega
            · have hck2 : ¬ k + 1 = cF := fun e => hck e.symm
              go_upto_region 13 with fail
              go_region_held3 (fun W => FreeKeep P w w5 W)
                (first
                  | exact kd
                  | exact kW
                  | exact k1
                  | exact k2
                  | exact FreeKeep.later (by assumption) hb')
                (first
                  | (refine step_append_first rfl (.tmp 67) (.tmp 70) rfl wr.heap.size (.slice (some ⟨wr.heap.size, 0, none⟩) 0 0) (F.take k) (some ⟨bF, oF, none⟩) cF k (by simp [Act.eval]) (by simp [Act.eval]) HTL.out hrow0 ((HTK.out.below hbW).mono hszW) ?_ ?_ ?_; (have := HTL.out; omega); exact hszW; intro v1 w1 hrow1 hg1; have k1 := FreeKeep.grown kW hrow0 hkeep.out.size HSS.out HB5.out.size hg1; have z1 := Nat.le_trans hszW hg1.size; have d1 := ((HDR.out.below hbW).grown hrow0 (Nat.le_refl _) hg1).mono z1)
                  | (refine step_append_strs rfl (.tmp 71) (.tmp 75) rfl wr.heap.size v1 (F.take k) (F.drop (k + 1)) (some ⟨bF, oF + (k + 1), none⟩) (cF - (k + 1)) (F.length - (k + 1)) (by simp [Act.eval]) (by simp [Act.eval]) HDL.out hrow1 d1 ?_ ?_ ?_; (have := HTL.out; have := HDL.out; omega); exact z1; intro v2 w2 hrow2 hg2; have k2 := FreeKeep.grown k1 hrow1 hkeep.out.size HSS.out HB5.out.size hg2; obtain ⟨A2, c2, e2, _, hst2⟩ := StrsAt.of_row (zs := without F k) hrow2; subst e2)
                  | (go_at_call 17; refine (HNWU.out _ _ _ (k2.sat.le (Pers.le_snap _ _)) hst2).mono ?_; rintro e w9 ⟨⟨b9, ls9, rfl, hok9, hN9⟩, hb'⟩; have HOK9 := As.mk hok9; have HN9 := As.mk hN9; clear hok9 hN9))
              rename_i hh
              have HK9 := As.mk (show FreeKeep P w w5 w9 from hh)
              have hN9m : ∀ t, t ∈ scN ls9 ↔ t ∈ without F k := fun t => by rw [HN9.out, scN_nil, addAll_mem]; simp
              have HI := As.mk (HSC.out (P.snap w9) (HG.out.mono (Pers.le_snap _ _)) (Pers.le_snap _ _) b9 ls9 w9 HOK9.out (Sat.snap (HK9.out.sat.le (Pers.le_snap _ _))) (fun t ht => .inl (without_mem ((hN9m t).1 ht))))
              rw [Lo.sc_thirteen (HNIN.out k s hs.out (scN ls9) hN9m)] at HI
              obtain ⟨p0, p1, p2, p3, p4, p5, p6, p7, p8, p9, p10⟩ := cells11 (HK5.out.sat HK9.out.sat)
              clear hh hN9m kd kW hbW hszW hrow0 hb' e1 e2 e3 e4 e5 e6 k1 k2 z1 d1 hrow1 hg1 hrow2 hg2 hst2
              go_wp2_with fail
              refine HI.out.mono ?_
              rintro e wz ⟨rfl, hbz⟩
              have HKZ := As.mk (HK9.out.later hbz)
              clear hbz p0 p1 p2 p3 p4 p5 p6 p7 p8 p9 p10
              go_wp2_with fail
              go_roundw
              case rel => exact ⟨k + 1, by go_num, by omega, HKZ⟩
              case measure => simp [intOf]; omega
          · obtain rfl : k = F.length := by omega
            go_wp2
            go_ret
            exact ⟨rfl, hkeep.out.below⟩
      · have hQ7 := hok7
        have HN7 := As.mk hN7
        have HL7 := As.mk (HSC.out ((P.snap w5).snap w7) ((HG.out.mono (Pers.le_snap _ _)).mono (Pers.le_snap _ _)) ((Pers.le_snap _ _).trans (Pers.le_snap _ _)) b7 ls7 w7 hok7 (Sat.snap HSQ7.out) (by rw [hN7]; exact fun s h => addAll_mem.1 h))
        rw [hN7, Lo.sc_zero (HINM.out _ (fun s h => addAll_mem.2 (.inl h)))] at HL7
        have HZ7 := As.mk (Nat.le_trans HZ6.out hb7.size)
        clear hb7 hok7 hN7 hQ7
        obtain ⟨p0, p1, p2, p3, p4, p5, p6, p7, p8, p9, p10⟩ := cells11 (HK5.out.sat HSQ7.out)
        go_wp2_with fail
        refine HL7.out.mono ?_
        rintro e w8 ⟨rfl, hb8⟩
        have HB8 := As.mk (HB7.out.trans (hb8.mono HB7.out.size))
        have HSQ8 := As.mk (HSQ7.out.below hb8)
        have hz58 := Nat.le_trans HZ7.out hb8.size
        clear hb8 p0 p1 p2 p3 p4 p5 p6 p7 p8 p9 p10
        go_upto_region 10 with fail
        have HFK := As.mk (show FreeKeep P w w5 w8 from ⟨HB8.out, HSQ8.out, hz58⟩)
        go_wp2
        go_loopw [63] (fun i wr => ∃ k : Nat, i = .int .i64 k ∧ k ≤ F.length ∧ As (FreeKeep P w w5 wr)) (fun i _ => F.length - (intOf i).toNat)
        case atStart => exact ⟨0, rfl, Nat.zero_le _, HFK⟩
        case round =>
          obtain ⟨k, rfl, hk, hkeep⟩ := hrel
          by_cases hlt : k < F.length
          · obtain ⟨s, hs⟩ : ∃ s, As (F[k]? = some s) := ⟨_, ⟨List.getElem?_eq_getElem hlt⟩⟩
            obtain ⟨bF, oF, rfl, _, _⟩ := Row.str HSF5.out hs.out
            have hstF := StrsAt.of HSF5.out hkeep.out.sat
            have HTK := As.mk (hstF.take k)
            have HDR := As.mk (hstF.drop (k + 1))
            have htl : (F.take k).length = k := by rw [List.length_take]; omega
            have hdl : (F.drop (k + 1)).length = F.length - (k + 1) := List.length_drop
            have hwl : (without F k).length = F.length - 1 := by unfold without; rw [List.length_append, htl, hdl]; omega
            have HTL := As.mk htl
            have HDL := As.mk hdl
            have HSU := As.mk (show ∀ t ∈ without F k, t.size ≤ maxStr from fun t ht => Nat.le_trans (HFEW.out.2 t (without_mem ht)) (by decide))
            have HBU := As.mk (show bad (without F k) = false from bad_of fun t h => occ_right HN.out t (HOC.out t (without_mem h)))
            have HAU := As.mk (show (addAll (scN []) (without F k)).length ≤ 4096 by
              rw [scN_nil]
              have := addAll_length (without F k) []
              simp at this
              omega)
            have HNWU : As (∀ (A : Option Addr) (c : Nat) (W : World), Sat P W → StrsAt W.heap.size W A (without F k) → Calls Tryz.prog 17 #[.slice A (without F k).length c] W fun e w' => (∃ b ls', e = .returned (.tuple #[.pointer (some ⟨b, 0, none⟩), .int .i64 0]) ∧ ScOk (P.snap w') (some ⟨b, 0, none⟩) ls' ∧ scN ls' = addAll (scN []) (without F k)) ∧ Below W.heap.size W w') := ⟨fun A c W hs hst => (scNew_calls (P.snap W) (HG.out.mono (Pers.le_snap _ _)) A c (without F k) W (strs_snap hst (by unfold maxRow; omega) HSU.out) (Sat.snap hs)).mono fun e w' ⟨hnew, hb⟩ => by
              refine ⟨?_, hb⟩
              rcases hnew.scN with ⟨h, _⟩ | ⟨_, h, _⟩ | ⟨_, _, b, ls', h1, h2, h3⟩
              · rw [HBU.out] at h; cases h
              · have := HAU.out; omega
              · exact ⟨b, ls', h1, h2.mono (fun p v h => h.elim (fun h => h.elim .inl (fun h => .inr (Cells.below hb p v h))) .inr), h3⟩⟩
            have hkI : (k : Int) ≤ (F.length : Int) := by omega
            have hkc : (k : Int) ≤ (cF : Int) := by omega
            have hrow0 : (wr.alloc (.cells #[] 9)).drew.ownsRow wr.heap.size 9 1 (.slice (some ⟨wr.heap.size, 0, none⟩) 0 0) 0 [] := World.ownsRow_lit wr #[] 0 (Nat.le_refl _) (by decide) rfl
            have HSS := As.mk (Sat.snap HS5.out)
            clear htl hdl hstF
            have HWL := As.mk hwl
            clear hwl
            have hb0 : Below wr.heap.size wr (wr.alloc (.cells #[] 9)) := (Below.refl _ _).alloc (Nat.le_refl _) _
            have hbW : Below wr.heap.size wr (wr.alloc (.cells #[] 9)).drew := hb0.drew
            have hszW : wr.heap.size ≤ (wr.alloc (.cells #[] 9)).drew.heap.size := hbW.size
            have kd : FreeKeep P w w5 wr.drew := ⟨hkeep.out.below.drew, hkeep.out.sat.drew, hkeep.out.size⟩
            have kW : FreeKeep P w w5 (wr.alloc (.cells #[] 9)).drew := hkeep.out.later hbW
            have e1 : IntKind.i64.wrap ((k : Int) + 1) = (k : Int) + 1 := IntWalk.i64_in _ (by omega)
            have e2 : (0 : Int) ≤ (k : Int) + 1 := by omega
            have e3 : (k : Int) + 1 ≤ (F.length : Int) := by omega
            have e4 : ((k : Int) + 1).toNat = k + 1 := by omega
            have e5 : (k : Int) + 1 ≤ (cF : Int) := by omega
            have e6 : (k : Int) ≤ (k : Int) + 1 := by omega
            clear hb0
            rcases Decidable.em (cF = k + 1) with rfl | hck
            · have HDR := As.mk (show StrsAt wr.heap.size wr (some ⟨bF, oF, none⟩) (F.drop (k + 1)) by rw [List.drop_eq_nil_of_le (by omega)]; exact StrsAt.nil _ _ _)
              have HDL := As.mk (show (F.drop (k + 1)).length = 0 by rw [List.drop_eq_nil_of_le (by omega)]; rfl)
              go_upto_region 13 with fail
              go_region_held3 (fun W => FreeKeep P w w5 W)
                (first
                  | exact kd
                  | exact kW
                  | exact k1
                  | exact k2
                  | exact FreeKeep.later (by assumption) hb')
                (first
                  | (refine step_append_first rfl (.tmp 67) (.tmp 70) rfl wr.heap.size (.slice (some ⟨wr.heap.size, 0, none⟩) 0 0) (F.take k) (some ⟨bF, oF, none⟩) (k + 1) k (by simp [Act.eval]) (by simp [Act.eval]) HTL.out hrow0 ((HTK.out.below hbW).mono hszW) ?_ ?_ ?_; (have := HTL.out; omega); exact hszW; intro v1 w1 hrow1 hg1; have k1 := FreeKeep.grown kW hrow0 hkeep.out.size HSS.out HB5.out.size hg1; have z1 := Nat.le_trans hszW hg1.size; have d1 := ((HDR.out.below hbW).grown hrow0 (Nat.le_refl _) hg1).mono z1)
                  | (refine step_append_strs rfl (.tmp 71) (.tmp 75) rfl wr.heap.size v1 (F.take k) (F.drop (k + 1)) (some ⟨bF, oF, none⟩) 0 0 (by simp [Act.eval]) (by simp [Act.eval]) HDL.out hrow1 d1 ?_ ?_ ?_; (have := HTL.out; have := HDL.out; omega); exact z1; intro v2 w2 hrow2 hg2; have k2 := FreeKeep.grown k1 hrow1 hkeep.out.size HSS.out HB5.out.size hg2; obtain ⟨A2, c2, e2, _, hst2⟩ := StrsAt.of_row (zs := without F k) hrow2; subst e2)
                  | (go_at_call 17; refine (HNWU.out _ _ _ (k2.sat.le (Pers.le_snap _ _)) hst2).mono ?_; rintro e w9 ⟨⟨b9, ls9, rfl, hok9, hN9⟩, hb'⟩; have HOK9 := As.mk hok9; have HN9 := As.mk hN9; clear hok9 hN9))
              rename_i hh
              have HK9 := As.mk (show FreeKeep P w w5 w9 from hh)
              have hN9m : ∀ t, t ∈ scN ls9 ↔ t ∈ without F k := fun t => by rw [HN9.out, scN_nil, addAll_mem]; simp
              have HI := As.mk (HSC.out (P.snap w9) (HG.out.mono (Pers.le_snap _ _)) (Pers.le_snap _ _) b9 ls9 w9 HOK9.out (Sat.snap (HK9.out.sat.le (Pers.le_snap _ _))) (fun t ht => .inl (without_mem ((hN9m t).1 ht))))
              rw [Lo.sc_thirteen (HNIN.out k s hs.out (scN ls9) hN9m)] at HI
              obtain ⟨p0, p1, p2, p3, p4, p5, p6, p7, p8, p9, p10⟩ := cells11 (HK5.out.sat HK9.out.sat)
              clear hh hN9m kd kW hbW hszW hrow0 hb' e1 e2 e3 e4 e5 e6 k1 k2 z1 d1 hrow1 hg1 hrow2 hg2 hst2
              go_wp2_with fail
              refine HI.out.mono ?_
              rintro e wz ⟨rfl, hbz⟩
              have HKZ := As.mk (HK9.out.later hbz)
              clear hbz p0 p1 p2 p3 p4 p5 p6 p7 p8 p9 p10
              go_wp2_with fail
              go_roundw
              case rel => exact ⟨k + 1, by go_num, by omega, HKZ⟩
              case measure => simp [intOf]; omega
            · have hck2 : ¬ k + 1 = cF := fun e => hck e.symm
              go_upto_region 13 with fail
              go_region_held3 (fun W => FreeKeep P w w5 W)
                (first
                  | exact kd
                  | exact kW
                  | exact k1
                  | exact k2
                  | exact FreeKeep.later (by assumption) hb')
                (first
                  | (refine step_append_first rfl (.tmp 67) (.tmp 70) rfl wr.heap.size (.slice (some ⟨wr.heap.size, 0, none⟩) 0 0) (F.take k) (some ⟨bF, oF, none⟩) cF k (by simp [Act.eval]) (by simp [Act.eval]) HTL.out hrow0 ((HTK.out.below hbW).mono hszW) ?_ ?_ ?_; (have := HTL.out; omega); exact hszW; intro v1 w1 hrow1 hg1; have k1 := FreeKeep.grown kW hrow0 hkeep.out.size HSS.out HB5.out.size hg1; have z1 := Nat.le_trans hszW hg1.size; have d1 := ((HDR.out.below hbW).grown hrow0 (Nat.le_refl _) hg1).mono z1)
                  | (refine step_append_strs rfl (.tmp 71) (.tmp 75) rfl wr.heap.size v1 (F.take k) (F.drop (k + 1)) (some ⟨bF, oF + (k + 1), none⟩) (cF - (k + 1)) (F.length - (k + 1)) (by simp [Act.eval]) (by simp [Act.eval]) HDL.out hrow1 d1 ?_ ?_ ?_; (have := HTL.out; have := HDL.out; omega); exact z1; intro v2 w2 hrow2 hg2; have k2 := FreeKeep.grown k1 hrow1 hkeep.out.size HSS.out HB5.out.size hg2; obtain ⟨A2, c2, e2, _, hst2⟩ := StrsAt.of_row (zs := without F k) hrow2; subst e2)
                  | (go_at_call 17; refine (HNWU.out _ _ _ (k2.sat.le (Pers.le_snap _ _)) hst2).mono ?_; rintro e w9 ⟨⟨b9, ls9, rfl, hok9, hN9⟩, hb'⟩; have HOK9 := As.mk hok9; have HN9 := As.mk hN9; clear hok9 hN9))
              rename_i hh
              have HK9 := As.mk (show FreeKeep P w w5 w9 from hh)
              have hN9m : ∀ t, t ∈ scN ls9 ↔ t ∈ without F k := fun t => by rw [HN9.out, scN_nil, addAll_mem]; simp
              have HI := As.mk (HSC.out (P.snap w9) (HG.out.mono (Pers.le_snap _ _)) (Pers.le_snap _ _) b9 ls9 w9 HOK9.out (Sat.snap (HK9.out.sat.le (Pers.le_snap _ _))) (fun t ht => .inl (without_mem ((hN9m t).1 ht))))
              rw [Lo.sc_thirteen (HNIN.out k s hs.out (scN ls9) hN9m)] at HI
              obtain ⟨p0, p1, p2, p3, p4, p5, p6, p7, p8, p9, p10⟩ := cells11 (HK5.out.sat HK9.out.sat)
              clear hh hN9m kd kW hbW hszW hrow0 hb' e1 e2 e3 e4 e5 e6 k1 k2 z1 d1 hrow1 hg1 hrow2 hg2 hst2
              go_wp2_with fail
              refine HI.out.mono ?_
              rintro e wz ⟨rfl, hbz⟩
              have HKZ := As.mk (HK9.out.later hbz)
              clear hbz p0 p1 p2 p3 p4 p5 p6 p7 p8 p9 p10
              go_wp2_with fail
              go_roundw
              case rel => exact ⟨k + 1, by go_num, by omega, HKZ⟩
              case measure => simp [intOf]; omega
          · obtain rfl : k = F.length := by omega
            go_wp2
            go_ret
            exact ⟨rfl, hkeep.out.below⟩
    · have hq : ((n : Int) != 0) = true := by rw [bne_iff_ne]; omega
      clear h0
      go_wp2_with fail
      refine HC.out.mono ?_
      rintro e w3 ⟨rfl, hb3⟩
      have HB3 := As.mk (HB2.out.trans (hb3.mono HB2.out.size))
      have HS3 := As.mk (HS2.out.below hb3)
      clear hb3 p0 p1 p2 p3 p4 p5 p6 p7 p8 p9 p10
      go_wp2_with fail
      refine (HAL.out _ HS3.out).mono ?_
      rintro e w4 ⟨rfl, hb4⟩
      have HF := As.mk (HB3.out.trans (hb4.mono HB3.out.size))
      clear hb4
      go_wp2_with fail
      go_ret
      exact ⟨rfl, HF.out⟩
end Go.Proofs.YtainigjbjfpoaaaGreatDoor
