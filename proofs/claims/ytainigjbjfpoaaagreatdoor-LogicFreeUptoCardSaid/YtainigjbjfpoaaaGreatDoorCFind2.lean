/- (*expr.finder).find: the walk. Printed by wip/tools/gen_find.py (own tool). -/
import Derived.Test.YtainigjbjfpoaaaGreatDoorCFind
import Derived.Test.YtainigjbjfpoaaaGreatDoorCRowm
namespace Go.Proofs.YtainigjbjfpoaaaGreatDoor
open Go.RowKit Go.Shelf Go.Maps

set_option maxRecDepth 100000 in
set_option maxHeartbeats 8000000 in
theorem find_calls (P : Pers) (fb bb bf : Nat) (hbf : bb ≠ bf) : ∀ (m : Nat) (x : Ex) (cs : List Value) (bd F : List ByteArray) (w : World), x.sz ≤ m → bd.length + x.wt ≤ 4611686018427387904 → F.length + x.wt ≤ 4611686018427387904 → Ex.Rep P x cs → Sat P w →
    w.cell? ⟨fb, 0, none⟩ = some (.map (some bb)) → w.cell? ⟨fb, 1, none⟩ = some (.map (some bf)) → BdMap w bb bd → FdMap w bf F →
    Calls Tryz.prog 99 #[.pointer (some ⟨fb, 0, none⟩), .agg cs.toArray] w fun e w' => (∃ v, e = .returned v) ∧ BdMap w' bb bd ∧ FdMap w' bf (F ++ Ex.fv x bd) ∧ Kept2 bb bf w w' := by
  intro m
  induction m with
  | zero => intro x cs bd F w h; cases x; simp [Ex.sz] at h
  | succ m ih =>
    intro x cs bd F w hn hwb hwf hx hs cf0 cf1 hb hf
    have HX := As.mk hx
    have IH := As.mk (fun (y : Ex) (hy : y ∈ x.l) cs bd F w => ih y cs bd F w (by have := Ex.lt_of_mem hy; omega))
    have HWB := As.mk hwb
    have HWF := As.mk hwf
    obtain ⟨A2, c2, A3, c3, rfl, l2, r2, l3, r3, z1, zk⟩ := hx.open
    have hB0 : Below w.heap.size w (w.alloc (.cells #[.int .i64 x.k, .string x.s, .slice A2 x.ns.length c2, .slice A3 x.l.length c3] 25)) := (Below.refl _ _).alloc (Nat.le_refl _) _
    have HK0 := As.mk (Kept2.of (b := bb) (c := bf) hB0)
    have hb0 := As.mk (hb.later hB0)
    have hf0 := As.mk (hf.later hB0)
    have HS0 := As.mk (hs.below hB0)
    have HR := As.mk r3
    have HLN := As.mk r3.len
    have P0 : As ((w.alloc (.cells #[.int .i64 x.k, .string x.s, .slice A2 x.ns.length c2, .slice A3 x.l.length c3] 25)).cell? ⟨w.heap.size, 0, none⟩ = some (.int .i64 x.k)) := ⟨World.cell?_alloc_mark ..⟩
    have P1 : As ((w.alloc (.cells #[.int .i64 x.k, .string x.s, .slice A2 x.ns.length c2, .slice A3 x.l.length c3] 25)).cell? ⟨w.heap.size, 1, none⟩ = some (.string x.s)) := ⟨World.cell?_alloc_mark ..⟩
    have P2 : As ((w.alloc (.cells #[.int .i64 x.k, .string x.s, .slice A2 x.ns.length c2, .slice A3 x.l.length c3] 25)).cell? ⟨w.heap.size, 2, none⟩ = some (.slice A2 x.ns.length c2)) := ⟨World.cell?_alloc_mark ..⟩
    have P3 : As ((w.alloc (.cells #[.int .i64 x.k, .string x.s, .slice A2 x.ns.length c2, .slice A3 x.l.length c3] 25)).cell? ⟨w.heap.size, 3, none⟩ = some (.slice A3 x.l.length c3)) := ⟨World.cell?_alloc_mark ..⟩
    have hzs := short_of z1
    have hlen3 := r3.len
    have HQ := As.mk (Ex.fv_eq x bd)
    have HWT := As.mk (Ex.wt_eq x)
    have d0 := HK0.out.cells _ _ cf0
    have d1 := HK0.out.cells _ _ cf1
    have p0 := P0.out
    have p1 := P1.out
    have p3 := P3.out
    clear hx ih hs r2 r3 hB0 hb hf hwb hwf z1 zk
    cases hk3 : (x.k == 3)
    · rw [hk3] at HQ
      replace HQ := As.mk (show Ex.fv x bd = Ex.fvs x x.l 0 bd from HQ.out)
      go_enter Tryz.func99, Tryz.ntmps99
      go_wp2
      go_quiet (fail)
      go_wp2
      obtain ⟨F1, hF1⟩ : ∃ F1, As (F1 = F) := ⟨_, ⟨rfl⟩⟩
      have HK1 := As.mk (Kept2.drew (b := bb) (c := bf) (w.alloc (.cells #[.int .i64 x.k, .string x.s, .slice A2 x.ns.length c2, .slice A3 x.l.length c3] 25)) nq)
      have HB1 := As.mk (hb0.out.later (W' := World.drewN (w.alloc (.cells #[.int .i64 x.k, .string x.s, .slice A2 x.ns.length c2, .slice A3 x.l.length c3] 25)) nq) (pw_below_drewN' (Below.refl _ _) _))
      have HF1 := As.mk (show FdMap (World.drewN (w.alloc (.cells #[.int .i64 x.k, .string x.s, .slice A2 x.ns.length c2, .slice A3 x.l.length c3] 25)) nq) bf F1 by rw [hF1.out]; exact hf0.out.later (pw_below_drewN' (Below.refl _ _) _))
      have HQ1 := As.mk (show F ++ Ex.fv x bd = F1 ++ Ex.fvs x (x.l.drop 0) 0 bd by rw [hF1.out, HQ.out]; rfl)
      have HL1 := As.mk (show F1.length + ((x.l.drop 0).map Ex.wt).sum ≤ F.length + x.wt by rw [hF1.out, HWT.out, List.drop_zero]; omega)
      clear hF1 d0 d1 p0 p1 p3
      go_loopw [33] (fun i wr => ∃ (k : Nat) (F' : List ByteArray), i = .int .i64 k ∧ k ≤ x.l.length ∧ As (Kept2 bb bf (w.alloc (.cells #[.int .i64 x.k, .string x.s, .slice A2 x.ns.length c2, .slice A3 x.l.length c3] 25)) wr) ∧ As (BdMap wr bb bd) ∧ As (FdMap wr bf F') ∧ As (F ++ Ex.fv x bd = F' ++ Ex.fvs x (x.l.drop k) k bd) ∧ As (F'.length + ((x.l.drop k).map Ex.wt).sum ≤ F.length + x.wt)) (fun i _ => x.l.length - (intOf i).toNat)
      case atStart => exact ⟨0, F1, rfl, Nat.zero_le _, HK1, HB1, HF1, HQ1, HL1⟩
      case round =>
        obtain ⟨k, F', rfl, hk, hKr, hBr, hFr, hQ, hL⟩ := hrel
        clear HK1 HB1 HF1 HQ1 HL1
        by_cases hlt : k < x.l.length
        · have hd : x.l.drop k = x.l[k] :: x.l.drop (k + 1) := List.drop_eq_getElem_cons hlt
          obtain ⟨y, hy⟩ : ∃ y, As (x.l[k] = y) := ⟨_, ⟨rfl⟩⟩
          obtain ⟨l, hl⟩ : ∃ l, As (gv x k = l) := ⟨_, ⟨rfl⟩⟩
          have hQ2 := hQ.out
          have hL2 := hL.out
          rw [hd, hy.out, Ex.fvs, hl.out] at hQ2
          rw [hd, hy.out, List.map_cons, List.sum_cons] at hL2
          have HQ2 := As.mk hQ2
          have hym : y ∈ x.l := hy.out ▸ List.getElem_mem hlt
          have hgw := gv_wt k hym
          rw [hl.out] at hgw
          have HL2 := As.mk hL2
          have HGw := As.mk hgw
          have hll : As (l.length ≤ 4611686018427387904) := ⟨by have := HGw.out; have := HWB.out; omega⟩
          have hlll := hll.out
          have hlz := As.mk (fun s (h : s ∈ l) => gv_size HX.out k s (by rw [hl.out]; exact h))
          have hsr := As.mk (HS0.out.cells hKr.out.cells)
          obtain ⟨be, oe, B2, d2, B3, d3, rfl, hbe, hry, e0, e1, e2, e3⟩ := HR.out.at hsr.out (i := k) (x := y) (by rw [List.getElem?_eq_getElem hlt, hy.out])
          have HY := As.mk hry
          have q0 := hKr.out.cells _ _ P0.out
          have hzr := cell_block q0
          have q1 := hKr.out.cells _ _ P1.out
          have q2 := hKr.out.cells _ _ P2.out
          have q3 := hKr.out.cells _ _ P3.out
          have HGv := As.mk (fun W hs => given_calls P x _ k W (by have := HLN.out; omega) HX.out hs)
          rw [hl.out] at HGv
          have hbA : Below wr.heap.size wr (wr.alloc (.cells #[.int .i64 y.k, .string y.s, .slice B2 y.ns.length d2, .slice B3 y.l.length d3] 25)) := (Below.refl _ wr).alloc (Nat.le_refl _) _
          have HBA := As.mk hbA
          have HSA := As.mk (hsr.out.below hbA)
          have HY0 := As.mk (show (wr.alloc (.cells #[.int .i64 y.k, .string y.s, .slice B2 y.ns.length d2, .slice B3 y.l.length d3] 25)).cell? ⟨wr.heap.size, 0, none⟩ = some (.int .i64 y.k) from World.cell?_alloc_mark ..)
          have HY1 := As.mk (show (wr.alloc (.cells #[.int .i64 y.k, .string y.s, .slice B2 y.ns.length d2, .slice B3 y.l.length d3] 25)).cell? ⟨wr.heap.size, 1, none⟩ = some (.string y.s) from World.cell?_alloc_mark ..)
          have HY2 := As.mk (show (wr.alloc (.cells #[.int .i64 y.k, .string y.s, .slice B2 y.ns.length d2, .slice B3 y.l.length d3] 25)).cell? ⟨wr.heap.size, 2, none⟩ = some (.slice B2 y.ns.length d2) from World.cell?_alloc_mark ..)
          have HY3 := As.mk (show (wr.alloc (.cells #[.int .i64 y.k, .string y.s, .slice B2 y.ns.length d2, .slice B3 y.l.length d3] 25)).cell? ⟨wr.heap.size, 3, none⟩ = some (.slice B3 y.l.length d3) from World.cell?_alloc_mark ..)
          clear hd hQ2 hL2 hgw hQ hL hbA hry
          go_wp2_with (go_at_call 84; refine (HGv.out _ HSA.out).mono ?_; rintro e w2 ⟨⟨Ag, cg, rfl, hcg, hAg⟩, hb2⟩)
          have hKA := As.mk (Kept2.of (b := bb) (c := bf) (Below.then HBA.out hb2))
          have hB2 := As.mk (hBr.out.later (Below.then HBA.out hb2))
          have hF2 := As.mk (hFr.out.later (Below.then HBA.out hb2))
          have hC2 := As.mk (Cells.below hb2)
          have HAg := As.mk hAg
          clear hb2 hAg HGv e0 e1 e2 e3 q0 q1 q2 q3 hzr
          go_loopw [43] (fun i wq => ∃ j : Nat, i = .int .i64 j ∧ j ≤ l.length ∧ As (Kept2 bb bf w2 wq) ∧ As (BdMap wq bb ((l.take j).reverse ++ bd)) ∧ As (FdMap wq bf F')) (fun i _ => l.length - (intOf i).toNat)
          case atStart => exact ⟨0, rfl, Nat.zero_le _, ⟨Kept2.refl _ _ _⟩, hB2, hF2⟩
          case round =>
            obtain ⟨j, rfl, hj, hKq, hBq, hFq⟩ := hrel
            have hKw := As.mk ((HK0.out.trans hKr.out).trans (hKA.out.trans hKq.out))
            have f0 := hKw.out.cells _ _ cf0
            by_cases hlj : j < l.length
            · obtain ⟨s, hsj⟩ : ∃ s, As (l[j]? = some s) := ⟨l[j], ⟨List.getElem?_eq_getElem hlj⟩⟩
              have hsz := short_of (hlz.out s (List.mem_of_getElem? hsj.out))
              obtain ⟨bs', os', rfl, _, hcs⟩ := (HAg.out.cells hKq.out.cells hKq.out.size) j s hsj.out
              have hbl2 : ((l.take j).reverse ++ bd).length ≤ 4611686018427387904 := by
                have := HGw.out; have := HWB.out; have : (l.take j).length ≤ l.length := List.length_take_le' _ _
                rw [List.length_append, List.length_reverse]; omega
              have hlk := BdMap.look hBq.out s hsz
              obtain ⟨w4, hrun, hB4, hg4⟩ := BdMap.up hBq.out s hsz hbl2
              have hwr : IntKind.i64.wrap ((cnt ((l.take j).reverse ++ bd) s : Int) + 1) = (cnt ((l.take j).reverse ++ bd) s : Int) + 1 := by
                have := cnt_le ((l.take j).reverse ++ bd) s
                exact IntWalk.i64_in _ (by omega)
              have HX4 := As.mk (And.intro (hKq.out.trans (Kept2.left (c := bf) hBq.out hg4)) (And.intro (hB4.cast (n' := ((l.take (j + 1)).reverse ++ bd).length) (f' := cntf ((l.take (j + 1)).reverse ++ bd)) (by rw [take_one hsj.out]; simp) (by rw [take_one hsj.out, List.reverse_append]; rfl)) (hFq.out.kept hg4 (fun e => hbf (by cases e; rfl)))))
              clear hB4 hg4 hsz hbl2
              go_wp2
              go_roundw
              case rel => exact ⟨j + 1, by go_num, by omega, ⟨HX4.out.1⟩, ⟨HX4.out.2.1⟩, ⟨HX4.out.2.2⟩⟩
              case measure => simp [intOf]; omega
            · obtain rfl : j = l.length := by omega
              have hB3 : BdMap wr bb (l ++ bd) := hBq.out.cast (by simp) (by rw [List.take_length]; exact cntf_perm ((List.reverse_perm l).append (List.Perm.refl bd)))
              have f1 := hKw.out.cells _ _ cf1
              have y0 := hKq.out.cells _ _ (hC2.out _ _ HY0.out)
              have y1 := hKq.out.cells _ _ (hC2.out _ _ HY1.out)
              have y2 := hKq.out.cells _ _ (hC2.out _ _ HY2.out)
              have y3 := hKq.out.cells _ _ (hC2.out _ _ HY3.out)
              have hs3 := hsr.out.cells (hKA.out.cells.trans hKq.out.cells)
              have IY := As.mk (IH.out y hym _ (l ++ bd) F' wr (by have := HGw.out; have := HWB.out; rw [List.length_append]; omega) (by have := HL2.out; have := HWF.out; omega) HY.out hs3 f0 f1 hB3 hFq.out)
              clear hs3 f1 hB3
              go_wp2_with (go_at_call 99; refine (IY.out).mono ?_; rintro e w5 ⟨⟨v, rfl⟩, hB5, hF5, hK5⟩)
              have hKw5 := As.mk (hKw.out.trans hK5)
              have hK25 := As.mk (hKq.out.trans hK5)
              have hB5' := As.mk hB5
              have hF5' := As.mk hF5
              clear hKw hKq hK5 hB5 hF5 f0 y0 y1 y2 y3 IY
              go_loopw [60] (fun i wp => ∃ j : Nat, i = .int .i64 j ∧ j ≤ l.length ∧ As (Kept2 bb bf w5 wp) ∧ As (BdMap wp bb (l.drop j ++ bd)) ∧ As (FdMap wp bf (F' ++ Ex.fv y (l ++ bd)))) (fun i _ => l.length - (intOf i).toNat)
              case atStart => exact ⟨0, rfl, Nat.zero_le _, ⟨Kept2.refl _ _ _⟩, hB5', hF5'⟩
              case round =>
                obtain ⟨j, rfl, hj, hKp, hBp, hFp⟩ := hrel
                by_cases hlj : j < l.length
                · obtain ⟨s, hsj⟩ : ∃ s, As (l[j]? = some s) := ⟨l[j], ⟨List.getElem?_eq_getElem hlj⟩⟩
                  have hsz := short_of (hlz.out s (List.mem_of_getElem? hsj.out))
                  obtain ⟨bs', os', rfl, _, hcs⟩ := (HAg.out.cells (hK25.out.trans hKp.out).cells (hK25.out.trans hKp.out).size) j s hsj.out
                  have f0 := (hKw5.out.trans hKp.out).cells _ _ cf0
                  obtain ⟨bd', hbd'⟩ : ∃ bd', As (l.drop (j + 1) ++ bd = bd') := ⟨_, ⟨rfl⟩⟩
                  have hdj : l.drop j ++ bd = s :: bd' := by
                    rw [← hbd'.out, List.drop_eq_getElem_cons hlj, List.cons_append]
                    have : l[j] = s := by have := hsj.out; rw [List.getElem?_eq_getElem hlj] at this; simpa using this
                    rw [this]
                  have hBs : BdMap wr bb (s :: bd') := hBp.out.cast (by rw [hdj]) (by rw [hdj])
                  have hbl2 : bd'.length ≤ 4611686018427387904 := by
                    have := HGw.out; have := HWB.out; have : (l.drop (j + 1)).length ≤ l.length := by rw [List.length_drop]; omega
                    rw [← hbd'.out, List.length_append]; omega
                  have hlk := BdMap.look hBs s hsz
                  obtain ⟨w6, hrun6, hM6, hg6⟩ := BdMap.down s hBs hsz hbl2
                  have hlk6 : (Instr.lookup 113 (.map (some bb)) (.string s) false).run Tryz.prog w6 = .ok (.int .i64 (cnt bd' s)) w6 := by
                    exact MapOf.lookI hM6 s hsz _ (less_at bd' s)
                  have hwr : IntKind.i64.wrap ((cnt (s :: bd') s : Int) - 1) = (cnt bd' s : Int) := by
                    rw [cnt_self]
                    have := cnt_le bd' s
                    rw [show (((cnt bd' s + 1 : Nat) : Int) - 1) = (cnt bd' s : Int) by omega]
                    exact IntWalk.i64_in _ (by omega)
                  have hK6 := Kept2.left (c := bf) hBs hg6
                  have g0 := hK6.cells _ _ f0
                  have hF6 := hFp.out.kept hg6 (fun e => hbf (by cases e; rfl))
                  have hcz := count_zero (bd := bd') (s := s)
                  cases hh : has bd' s
                  · rw [hh, Bool.not_false] at hcz
                    obtain ⟨w7, hrun7, hM7, hg7⟩ := MapOf.dropI hM6 hsz
                    have hB7 : BdMap w7 bb bd' := (hM7.cast rfl (cntf_down' bd' s hh)).trim _ (fun t ht => cntf_mem ht)
                    have HX7 := As.mk (And.intro (hKp.out.trans (hK6.trans (Kept2.left (c := bf) hM6 hg7))) (And.intro (show BdMap w7 bb (l.drop (j + 1) ++ bd) by rw [hbd'.out]; exact hB7) (hF6.kept hg7 (fun e => hbf (by cases e; rfl)))))
                    clear hB7 hM7 hg7 hg6 hM6 hBs hbl2 hK6 hF6 hdj hh hsz
                    go_wp2
                    go_roundw
                    case rel => exact ⟨j + 1, by go_num, by omega, ⟨HX7.out.1⟩, ⟨HX7.out.2.1⟩, ⟨HX7.out.2.2⟩⟩
                    case measure => simp [intOf]; omega
                  · rw [hh, Bool.not_true] at hcz
                    have hB6 : BdMap w6 bb bd' := (hM6.cast rfl (cntf_less' bd' s hh)).trim _ (fun t ht => cntf_mem ht)
                    have HX7 := As.mk (And.intro (hKp.out.trans hK6) (And.intro (show BdMap w6 bb (l.drop (j + 1) ++ bd) by rw [hbd'.out]; exact hB6) hF6))
                    clear hB6 hg6 hM6 hBs hbl2 hK6 hF6 hdj hh hsz
                    go_wp2
                    go_roundw
                    case rel => exact ⟨j + 1, by go_num, by omega, ⟨HX7.out.1⟩, ⟨HX7.out.2.1⟩, ⟨HX7.out.2.2⟩⟩
                    case measure => simp [intOf]; omega
                · obtain rfl : j = l.length := by omega
                  have HX8 := As.mk (And.intro (hKr.out.trans (hKA.out.trans (hK25.out.trans hKp.out))) (And.intro (hBp.out.cast (n' := bd.length) (f' := cntf bd) (by simp) (by rw [List.drop_length]; rfl)) (And.intro hFp.out (And.intro (show F ++ Ex.fv x bd = (F' ++ Ex.fv y (l ++ bd)) ++ Ex.fvs x (x.l.drop (k + 1)) (k + 1) bd by rw [HQ2.out, List.append_assoc]) (show (F' ++ Ex.fv y (l ++ bd)).length + ((x.l.drop (k + 1)).map Ex.wt).sum ≤ F.length + x.wt by
                    have := HL2.out
                    have := Ex.fv_wt _ y (l ++ bd) (Nat.le_refl _)
                    rw [List.length_append]
                    omega)))))
                  clear hKp hBp hFp
                  go_wp2
                  go_roundw
                  case rel => exact ⟨k + 1, _, by go_num, by omega, ⟨HX8.out.1⟩, ⟨HX8.out.2.1⟩, ⟨HX8.out.2.2.1⟩, ⟨HX8.out.2.2.2.1⟩, ⟨HX8.out.2.2.2.2⟩⟩
                  case measure => simp [intOf]; omega
        · obtain rfl : k = x.l.length := by omega
          have HE := As.mk (show F ++ Ex.fv x bd = F' by rw [hQ.out, List.drop_length, Ex.fvs, List.append_nil])
          go_wp2
          go_end0
          exact ⟨⟨_, rfl⟩, hBr.out, by rw [HE.out]; exact hFr.out, HK0.out.trans hKr.out⟩
    · cases hhb : has bd x.s
      · rw [hk3, hhb] at HQ
        replace HQ := As.mk (show Ex.fv x bd = [x.s] ++ Ex.fvs x x.l 0 bd from HQ.out)
        have hlk := fun n => BdMap.look (hb0.out.later (W' := World.drewN (w.alloc (.cells #[.int .i64 x.k, .string x.s, .slice A2 x.ns.length c2, .slice A3 x.l.length c3] 25)) n) (pw_below_drewN' (Below.refl _ _) _)) x.s hzs
        have hcz := count_zero (bd := bd) (s := x.s)
        rw [hhb, Bool.not_false] at hcz
        go_enter Tryz.func99, Tryz.ntmps99
        go_wp2
        go_quiet (fail)
        go_wp2
        clear hlk hcz
        obtain ⟨w9, hrun9, hF9, hg9⟩ := FdMap.add (hf0.out.later (W' := World.drewN (w.alloc (.cells #[.int .i64 x.k, .string x.s, .slice A2 x.ns.length c2, .slice A3 x.l.length c3] 25)) (nq + 1)) (pw_below_drewN' (Below.refl _ _) (nq + 1))) x.s hzs (by have := HWF.out; omega)
        have HK1 := As.mk ((Kept2.drew (b := bb) (c := bf) (w.alloc (.cells #[.int .i64 x.k, .string x.s, .slice A2 x.ns.length c2, .slice A3 x.l.length c3] 25)) (nq + 1)).trans (Kept2.right (hf0.out.later (W' := World.drewN (w.alloc (.cells #[.int .i64 x.k, .string x.s, .slice A2 x.ns.length c2, .slice A3 x.l.length c3] 25)) (nq + 1)) (pw_below_drewN' (Below.refl _ _) (nq + 1))) hg9))
        have HB1 := As.mk ((hb0.out.later (W' := World.drewN (w.alloc (.cells #[.int .i64 x.k, .string x.s, .slice A2 x.ns.length c2, .slice A3 x.l.length c3] 25)) (nq + 1)) (pw_below_drewN' (Below.refl _ _) (nq + 1))).kept hg9 (fun e => hbf (by cases e; rfl)))
        obtain ⟨F1, hF1⟩ : ∃ F1, As (F1 = F ++ [x.s]) := ⟨_, ⟨rfl⟩⟩
        have HF1 := As.mk (show FdMap w9 bf F1 by rw [hF1.out]; exact hF9)
        have HQ1 := As.mk (show F ++ Ex.fv x bd = F1 ++ Ex.fvs x (x.l.drop 0) 0 bd by rw [hF1.out, HQ.out, List.append_assoc]; rfl)
        have HL1 := As.mk (show F1.length + ((x.l.drop 0).map Ex.wt).sum ≤ F.length + x.wt by rw [hF1.out, HWT.out, List.drop_zero, List.length_append, List.length_singleton]; omega)
        clear hF1 hF9 hg9
        refine wp_region_still_tail 6 (by kernel_rfl) (by kernel_rfl) ?_
        change wpStill _ _ (World.drew _) (fun a' => wpList _ _ _ _ a' (World.drew _)) _ _
        simp only [List.take_succ_cons, List.take_zero, List.drop_succ_cons, List.drop_zero]
        repeat still_step
        refine wpStill_nil ?_
        clear d0 d1 p0 p1
        have p3 := HK1.out.cells _ _ P3.out
        go_wp2
        clear p3
        go_loopw [33] (fun i wr => ∃ (k : Nat) (F' : List ByteArray), i = .int .i64 k ∧ k ≤ x.l.length ∧ As (Kept2 bb bf (w.alloc (.cells #[.int .i64 x.k, .string x.s, .slice A2 x.ns.length c2, .slice A3 x.l.length c3] 25)) wr) ∧ As (BdMap wr bb bd) ∧ As (FdMap wr bf F') ∧ As (F ++ Ex.fv x bd = F' ++ Ex.fvs x (x.l.drop k) k bd) ∧ As (F'.length + ((x.l.drop k).map Ex.wt).sum ≤ F.length + x.wt)) (fun i _ => x.l.length - (intOf i).toNat)
        case atStart => exact ⟨0, F1, rfl, Nat.zero_le _, HK1, HB1, HF1, HQ1, HL1⟩
        case round =>
          obtain ⟨k, F', rfl, hk, hKr, hBr, hFr, hQ, hL⟩ := hrel
          clear HK1 HB1 HF1 HQ1 HL1
          by_cases hlt : k < x.l.length
          · have hd : x.l.drop k = x.l[k] :: x.l.drop (k + 1) := List.drop_eq_getElem_cons hlt
            obtain ⟨y, hy⟩ : ∃ y, As (x.l[k] = y) := ⟨_, ⟨rfl⟩⟩
            obtain ⟨l, hl⟩ : ∃ l, As (gv x k = l) := ⟨_, ⟨rfl⟩⟩
            have hQ2 := hQ.out
            have hL2 := hL.out
            rw [hd, hy.out, Ex.fvs, hl.out] at hQ2
            rw [hd, hy.out, List.map_cons, List.sum_cons] at hL2
            have HQ2 := As.mk hQ2
            have hym : y ∈ x.l := hy.out ▸ List.getElem_mem hlt
            have hgw := gv_wt k hym
            rw [hl.out] at hgw
            have HL2 := As.mk hL2
            have HGw := As.mk hgw
            have hll : As (l.length ≤ 4611686018427387904) := ⟨by have := HGw.out; have := HWB.out; omega⟩
            have hlll := hll.out
            have hlz := As.mk (fun s (h : s ∈ l) => gv_size HX.out k s (by rw [hl.out]; exact h))
            have hsr := As.mk (HS0.out.cells hKr.out.cells)
            obtain ⟨be, oe, B2, d2, B3, d3, rfl, hbe, hry, e0, e1, e2, e3⟩ := HR.out.at hsr.out (i := k) (x := y) (by rw [List.getElem?_eq_getElem hlt, hy.out])
            have HY := As.mk hry
            have q0 := hKr.out.cells _ _ P0.out
            have hzr := cell_block q0
            have q1 := hKr.out.cells _ _ P1.out
            have q2 := hKr.out.cells _ _ P2.out
            have q3 := hKr.out.cells _ _ P3.out
            have HGv := As.mk (fun W hs => given_calls P x _ k W (by have := HLN.out; omega) HX.out hs)
            rw [hl.out] at HGv
            have hbA : Below wr.heap.size wr (wr.alloc (.cells #[.int .i64 y.k, .string y.s, .slice B2 y.ns.length d2, .slice B3 y.l.length d3] 25)) := (Below.refl _ wr).alloc (Nat.le_refl _) _
            have HBA := As.mk hbA
            have HSA := As.mk (hsr.out.below hbA)
            have HY0 := As.mk (show (wr.alloc (.cells #[.int .i64 y.k, .string y.s, .slice B2 y.ns.length d2, .slice B3 y.l.length d3] 25)).cell? ⟨wr.heap.size, 0, none⟩ = some (.int .i64 y.k) from World.cell?_alloc_mark ..)
            have HY1 := As.mk (show (wr.alloc (.cells #[.int .i64 y.k, .string y.s, .slice B2 y.ns.length d2, .slice B3 y.l.length d3] 25)).cell? ⟨wr.heap.size, 1, none⟩ = some (.string y.s) from World.cell?_alloc_mark ..)
            have HY2 := As.mk (show (wr.alloc (.cells #[.int .i64 y.k, .string y.s, .slice B2 y.ns.length d2, .slice B3 y.l.length d3] 25)).cell? ⟨wr.heap.size, 2, none⟩ = some (.slice B2 y.ns.length d2) from World.cell?_alloc_mark ..)
            have HY3 := As.mk (show (wr.alloc (.cells #[.int .i64 y.k, .string y.s, .slice B2 y.ns.length d2, .slice B3 y.l.length d3] 25)).cell? ⟨wr.heap.size, 3, none⟩ = some (.slice B3 y.l.length d3) from World.cell?_alloc_mark ..)
            clear hd hQ2 hL2 hgw hQ hL hbA hry
            go_wp2_with (go_at_call 84; refine (HGv.out _ HSA.out).mono ?_; rintro e w2 ⟨⟨Ag, cg, rfl, hcg, hAg⟩, hb2⟩)
            have hKA := As.mk (Kept2.of (b := bb) (c := bf) (Below.then HBA.out hb2))
            have hB2 := As.mk (hBr.out.later (Below.then HBA.out hb2))
            have hF2 := As.mk (hFr.out.later (Below.then HBA.out hb2))
            have hC2 := As.mk (Cells.below hb2)
            have HAg := As.mk hAg
            clear hb2 hAg HGv e0 e1 e2 e3 q0 q1 q2 q3 hzr
            go_loopw [43] (fun i wq => ∃ j : Nat, i = .int .i64 j ∧ j ≤ l.length ∧ As (Kept2 bb bf w2 wq) ∧ As (BdMap wq bb ((l.take j).reverse ++ bd)) ∧ As (FdMap wq bf F')) (fun i _ => l.length - (intOf i).toNat)
            case atStart => exact ⟨0, rfl, Nat.zero_le _, ⟨Kept2.refl _ _ _⟩, hB2, hF2⟩
            case round =>
              obtain ⟨j, rfl, hj, hKq, hBq, hFq⟩ := hrel
              have hKw := As.mk ((HK0.out.trans hKr.out).trans (hKA.out.trans hKq.out))
              have f0 := hKw.out.cells _ _ cf0
              by_cases hlj : j < l.length
              · obtain ⟨s, hsj⟩ : ∃ s, As (l[j]? = some s) := ⟨l[j], ⟨List.getElem?_eq_getElem hlj⟩⟩
                have hsz := short_of (hlz.out s (List.mem_of_getElem? hsj.out))
                obtain ⟨bs', os', rfl, _, hcs⟩ := (HAg.out.cells hKq.out.cells hKq.out.size) j s hsj.out
                have hbl2 : ((l.take j).reverse ++ bd).length ≤ 4611686018427387904 := by
                  have := HGw.out; have := HWB.out; have : (l.take j).length ≤ l.length := List.length_take_le' _ _
                  rw [List.length_append, List.length_reverse]; omega
                have hlk := BdMap.look hBq.out s hsz
                obtain ⟨w4, hrun, hB4, hg4⟩ := BdMap.up hBq.out s hsz hbl2
                have hwr : IntKind.i64.wrap ((cnt ((l.take j).reverse ++ bd) s : Int) + 1) = (cnt ((l.take j).reverse ++ bd) s : Int) + 1 := by
                  have := cnt_le ((l.take j).reverse ++ bd) s
                  exact IntWalk.i64_in _ (by omega)
                have HX4 := As.mk (And.intro (hKq.out.trans (Kept2.left (c := bf) hBq.out hg4)) (And.intro (hB4.cast (n' := ((l.take (j + 1)).reverse ++ bd).length) (f' := cntf ((l.take (j + 1)).reverse ++ bd)) (by rw [take_one hsj.out]; simp) (by rw [take_one hsj.out, List.reverse_append]; rfl)) (hFq.out.kept hg4 (fun e => hbf (by cases e; rfl)))))
                clear hB4 hg4 hsz hbl2
                go_wp2
                go_roundw
                case rel => exact ⟨j + 1, by go_num, by omega, ⟨HX4.out.1⟩, ⟨HX4.out.2.1⟩, ⟨HX4.out.2.2⟩⟩
                case measure => simp [intOf]; omega
              · obtain rfl : j = l.length := by omega
                have hB3 : BdMap wr bb (l ++ bd) := hBq.out.cast (by simp) (by rw [List.take_length]; exact cntf_perm ((List.reverse_perm l).append (List.Perm.refl bd)))
                have f1 := hKw.out.cells _ _ cf1
                have y0 := hKq.out.cells _ _ (hC2.out _ _ HY0.out)
                have y1 := hKq.out.cells _ _ (hC2.out _ _ HY1.out)
                have y2 := hKq.out.cells _ _ (hC2.out _ _ HY2.out)
                have y3 := hKq.out.cells _ _ (hC2.out _ _ HY3.out)
                have hs3 := hsr.out.cells (hKA.out.cells.trans hKq.out.cells)
                have IY := As.mk (IH.out y hym _ (l ++ bd) F' wr (by have := HGw.out; have := HWB.out; rw [List.length_append]; omega) (by have := HL2.out; have := HWF.out; omega) HY.out hs3 f0 f1 hB3 hFq.out)
                clear hs3 f1 hB3
                go_wp2_with (go_at_call 99; refine (IY.out).mono ?_; rintro e w5 ⟨⟨v, rfl⟩, hB5, hF5, hK5⟩)
                have hKw5 := As.mk (hKw.out.trans hK5)
                have hK25 := As.mk (hKq.out.trans hK5)
                have hB5' := As.mk hB5
                have hF5' := As.mk hF5
                clear hKw hKq hK5 hB5 hF5 f0 y0 y1 y2 y3 IY
                go_loopw [60] (fun i wp => ∃ j : Nat, i = .int .i64 j ∧ j ≤ l.length ∧ As (Kept2 bb bf w5 wp) ∧ As (BdMap wp bb (l.drop j ++ bd)) ∧ As (FdMap wp bf (F' ++ Ex.fv y (l ++ bd)))) (fun i _ => l.length - (intOf i).toNat)
                case atStart => exact ⟨0, rfl, Nat.zero_le _, ⟨Kept2.refl _ _ _⟩, hB5', hF5'⟩
                case round =>
                  obtain ⟨j, rfl, hj, hKp, hBp, hFp⟩ := hrel
                  by_cases hlj : j < l.length
                  · obtain ⟨s, hsj⟩ : ∃ s, As (l[j]? = some s) := ⟨l[j], ⟨List.getElem?_eq_getElem hlj⟩⟩
                    have hsz := short_of (hlz.out s (List.mem_of_getElem? hsj.out))
                    obtain ⟨bs', os', rfl, _, hcs⟩ := (HAg.out.cells (hK25.out.trans hKp.out).cells (hK25.out.trans hKp.out).size) j s hsj.out
                    have f0 := (hKw5.out.trans hKp.out).cells _ _ cf0
                    obtain ⟨bd', hbd'⟩ : ∃ bd', As (l.drop (j + 1) ++ bd = bd') := ⟨_, ⟨rfl⟩⟩
                    have hdj : l.drop j ++ bd = s :: bd' := by
                      rw [← hbd'.out, List.drop_eq_getElem_cons hlj, List.cons_append]
                      have : l[j] = s := by have := hsj.out; rw [List.getElem?_eq_getElem hlj] at this; simpa using this
                      rw [this]
                    have hBs : BdMap wr bb (s :: bd') := hBp.out.cast (by rw [hdj]) (by rw [hdj])
                    have hbl2 : bd'.length ≤ 4611686018427387904 := by
                      have := HGw.out; have := HWB.out; have : (l.drop (j + 1)).length ≤ l.length := by rw [List.length_drop]; omega
                      rw [← hbd'.out, List.length_append]; omega
                    have hlk := BdMap.look hBs s hsz
                    obtain ⟨w6, hrun6, hM6, hg6⟩ := BdMap.down s hBs hsz hbl2
                    have hlk6 : (Instr.lookup 113 (.map (some bb)) (.string s) false).run Tryz.prog w6 = .ok (.int .i64 (cnt bd' s)) w6 := by
                      exact MapOf.lookI hM6 s hsz _ (less_at bd' s)
                    have hwr : IntKind.i64.wrap ((cnt (s :: bd') s : Int) - 1) = (cnt bd' s : Int) := by
                      rw [cnt_self]
                      have := cnt_le bd' s
                      rw [show (((cnt bd' s + 1 : Nat) : Int) - 1) = (cnt bd' s : Int) by omega]
                      exact IntWalk.i64_in _ (by omega)
                    have hK6 := Kept2.left (c := bf) hBs hg6
                    have g0 := hK6.cells _ _ f0
                    have hF6 := hFp.out.kept hg6 (fun e => hbf (by cases e; rfl))
                    have hcz := count_zero (bd := bd') (s := s)
                    cases hh : has bd' s
                    · rw [hh, Bool.not_false] at hcz
                      obtain ⟨w7, hrun7, hM7, hg7⟩ := MapOf.dropI hM6 hsz
                      have hB7 : BdMap w7 bb bd' := (hM7.cast rfl (cntf_down' bd' s hh)).trim _ (fun t ht => cntf_mem ht)
                      have HX7 := As.mk (And.intro (hKp.out.trans (hK6.trans (Kept2.left (c := bf) hM6 hg7))) (And.intro (show BdMap w7 bb (l.drop (j + 1) ++ bd) by rw [hbd'.out]; exact hB7) (hF6.kept hg7 (fun e => hbf (by cases e; rfl)))))
                      clear hB7 hM7 hg7 hg6 hM6 hBs hbl2 hK6 hF6 hdj hh hsz
                      go_wp2
                      go_roundw
                      case rel => exact ⟨j + 1, by go_num, by omega, ⟨HX7.out.1⟩, ⟨HX7.out.2.1⟩, ⟨HX7.out.2.2⟩⟩
                      case measure => simp [intOf]; omega
                    · rw [hh, Bool.not_true] at hcz
                      have hB6 : BdMap w6 bb bd' := (hM6.cast rfl (cntf_less' bd' s hh)).trim _ (fun t ht => cntf_mem ht)
                      have HX7 := As.mk (And.intro (hKp.out.trans hK6) (And.intro (show BdMap w6 bb (l.drop (j + 1) ++ bd) by rw [hbd'.out]; exact hB6) hF6))
                      clear hB6 hg6 hM6 hBs hbl2 hK6 hF6 hdj hh hsz
                      go_wp2
                      go_roundw
                      case rel => exact ⟨j + 1, by go_num, by omega, ⟨HX7.out.1⟩, ⟨HX7.out.2.1⟩, ⟨HX7.out.2.2⟩⟩
                      case measure => simp [intOf]; omega
                  · obtain rfl : j = l.length := by omega
                    have HX8 := As.mk (And.intro (hKr.out.trans (hKA.out.trans (hK25.out.trans hKp.out))) (And.intro (hBp.out.cast (n' := bd.length) (f' := cntf bd) (by simp) (by rw [List.drop_length]; rfl)) (And.intro hFp.out (And.intro (show F ++ Ex.fv x bd = (F' ++ Ex.fv y (l ++ bd)) ++ Ex.fvs x (x.l.drop (k + 1)) (k + 1) bd by rw [HQ2.out, List.append_assoc]) (show (F' ++ Ex.fv y (l ++ bd)).length + ((x.l.drop (k + 1)).map Ex.wt).sum ≤ F.length + x.wt by
                      have := HL2.out
                      have := Ex.fv_wt _ y (l ++ bd) (Nat.le_refl _)
                      rw [List.length_append]
                      omega)))))
                    clear hKp hBp hFp
                    go_wp2
                    go_roundw
                    case rel => exact ⟨k + 1, _, by go_num, by omega, ⟨HX8.out.1⟩, ⟨HX8.out.2.1⟩, ⟨HX8.out.2.2.1⟩, ⟨HX8.out.2.2.2.1⟩, ⟨HX8.out.2.2.2.2⟩⟩
                    case measure => simp [intOf]; omega
          · obtain rfl : k = x.l.length := by omega
            have HE := As.mk (show F ++ Ex.fv x bd = F' by rw [hQ.out, List.drop_length, Ex.fvs, List.append_nil])
            go_wp2
            go_end0
            exact ⟨⟨_, rfl⟩, hBr.out, by rw [HE.out]; exact hFr.out, HK0.out.trans hKr.out⟩
      · rw [hk3, hhb] at HQ
        replace HQ := As.mk (show Ex.fv x bd = Ex.fvs x x.l 0 bd from HQ.out)
        have hlk := fun n => BdMap.look (hb0.out.later (W' := World.drewN (w.alloc (.cells #[.int .i64 x.k, .string x.s, .slice A2 x.ns.length c2, .slice A3 x.l.length c3] 25)) n) (pw_below_drewN' (Below.refl _ _) _)) x.s hzs
        have hcz := count_zero (bd := bd) (s := x.s)
        rw [hhb, Bool.not_true] at hcz
        go_enter Tryz.func99, Tryz.ntmps99
        go_wp2
        go_quiet (fail)
        go_wp2
        clear hlk hcz
        obtain ⟨F1, hF1⟩ : ∃ F1, As (F1 = F) := ⟨_, ⟨rfl⟩⟩
        have HK1 := As.mk (Kept2.drew (b := bb) (c := bf) (w.alloc (.cells #[.int .i64 x.k, .string x.s, .slice A2 x.ns.length c2, .slice A3 x.l.length c3] 25)) nq)
        have HB1 := As.mk (hb0.out.later (W' := World.drewN (w.alloc (.cells #[.int .i64 x.k, .string x.s, .slice A2 x.ns.length c2, .slice A3 x.l.length c3] 25)) nq) (pw_below_drewN' (Below.refl _ _) _))
        have HF1 := As.mk (show FdMap (World.drewN (w.alloc (.cells #[.int .i64 x.k, .string x.s, .slice A2 x.ns.length c2, .slice A3 x.l.length c3] 25)) nq) bf F1 by rw [hF1.out]; exact hf0.out.later (pw_below_drewN' (Below.refl _ _) _))
        have HQ1 := As.mk (show F ++ Ex.fv x bd = F1 ++ Ex.fvs x (x.l.drop 0) 0 bd by rw [hF1.out, HQ.out]; rfl)
        have HL1 := As.mk (show F1.length + ((x.l.drop 0).map Ex.wt).sum ≤ F.length + x.wt by rw [hF1.out, HWT.out, List.drop_zero]; omega)
        clear hF1 d0 d1 p0 p1 p3
        go_loopw [33] (fun i wr => ∃ (k : Nat) (F' : List ByteArray), i = .int .i64 k ∧ k ≤ x.l.length ∧ As (Kept2 bb bf (w.alloc (.cells #[.int .i64 x.k, .string x.s, .slice A2 x.ns.length c2, .slice A3 x.l.length c3] 25)) wr) ∧ As (BdMap wr bb bd) ∧ As (FdMap wr bf F') ∧ As (F ++ Ex.fv x bd = F' ++ Ex.fvs x (x.l.drop k) k bd) ∧ As (F'.length + ((x.l.drop k).map Ex.wt).sum ≤ F.length + x.wt)) (fun i _ => x.l.length - (intOf i).toNat)
        case atStart => exact ⟨0, F1, rfl, Nat.zero_le _, HK1, HB1, HF1, HQ1, HL1⟩
        case round =>
          obtain ⟨k, F', rfl, hk, hKr, hBr, hFr, hQ, hL⟩ := hrel
          clear HK1 HB1 HF1 HQ1 HL1
          by_cases hlt : k < x.l.length
          · have hd : x.l.drop k = x.l[k] :: x.l.drop (k + 1) := List.drop_eq_getElem_cons hlt
            obtain ⟨y, hy⟩ : ∃ y, As (x.l[k] = y) := ⟨_, ⟨rfl⟩⟩
            obtain ⟨l, hl⟩ : ∃ l, As (gv x k = l) := ⟨_, ⟨rfl⟩⟩
            have hQ2 := hQ.out
            have hL2 := hL.out
            rw [hd, hy.out, Ex.fvs, hl.out] at hQ2
            rw [hd, hy.out, List.map_cons, List.sum_cons] at hL2
            have HQ2 := As.mk hQ2
            have hym : y ∈ x.l := hy.out ▸ List.getElem_mem hlt
            have hgw := gv_wt k hym
            rw [hl.out] at hgw
            have HL2 := As.mk hL2
            have HGw := As.mk hgw
            have hll : As (l.length ≤ 4611686018427387904) := ⟨by have := HGw.out; have := HWB.out; omega⟩
            have hlll := hll.out
            have hlz := As.mk (fun s (h : s ∈ l) => gv_size HX.out k s (by rw [hl.out]; exact h))
            have hsr := As.mk (HS0.out.cells hKr.out.cells)
            obtain ⟨be, oe, B2, d2, B3, d3, rfl, hbe, hry, e0, e1, e2, e3⟩ := HR.out.at hsr.out (i := k) (x := y) (by rw [List.getElem?_eq_getElem hlt, hy.out])
            have HY := As.mk hry
            have q0 := hKr.out.cells _ _ P0.out
            have hzr := cell_block q0
            have q1 := hKr.out.cells _ _ P1.out
            have q2 := hKr.out.cells _ _ P2.out
            have q3 := hKr.out.cells _ _ P3.out
            have HGv := As.mk (fun W hs => given_calls P x _ k W (by have := HLN.out; omega) HX.out hs)
            rw [hl.out] at HGv
            have hbA : Below wr.heap.size wr (wr.alloc (.cells #[.int .i64 y.k, .string y.s, .slice B2 y.ns.length d2, .slice B3 y.l.length d3] 25)) := (Below.refl _ wr).alloc (Nat.le_refl _) _
            have HBA := As.mk hbA
            have HSA := As.mk (hsr.out.below hbA)
            have HY0 := As.mk (show (wr.alloc (.cells #[.int .i64 y.k, .string y.s, .slice B2 y.ns.length d2, .slice B3 y.l.length d3] 25)).cell? ⟨wr.heap.size, 0, none⟩ = some (.int .i64 y.k) from World.cell?_alloc_mark ..)
            have HY1 := As.mk (show (wr.alloc (.cells #[.int .i64 y.k, .string y.s, .slice B2 y.ns.length d2, .slice B3 y.l.length d3] 25)).cell? ⟨wr.heap.size, 1, none⟩ = some (.string y.s) from World.cell?_alloc_mark ..)
            have HY2 := As.mk (show (wr.alloc (.cells #[.int .i64 y.k, .string y.s, .slice B2 y.ns.length d2, .slice B3 y.l.length d3] 25)).cell? ⟨wr.heap.size, 2, none⟩ = some (.slice B2 y.ns.length d2) from World.cell?_alloc_mark ..)
            have HY3 := As.mk (show (wr.alloc (.cells #[.int .i64 y.k, .string y.s, .slice B2 y.ns.length d2, .slice B3 y.l.length d3] 25)).cell? ⟨wr.heap.size, 3, none⟩ = some (.slice B3 y.l.length d3) from World.cell?_alloc_mark ..)
            clear hd hQ2 hL2 hgw hQ hL hbA hry
            go_wp2_with (go_at_call 84; refine (HGv.out _ HSA.out).mono ?_; rintro e w2 ⟨⟨Ag, cg, rfl, hcg, hAg⟩, hb2⟩)
            have hKA := As.mk (Kept2.of (b := bb) (c := bf) (Below.then HBA.out hb2))
            have hB2 := As.mk (hBr.out.later (Below.then HBA.out hb2))
            have hF2 := As.mk (hFr.out.later (Below.then HBA.out hb2))
            have hC2 := As.mk (Cells.below hb2)
            have HAg := As.mk hAg
            clear hb2 hAg HGv e0 e1 e2 e3 q0 q1 q2 q3 hzr
            go_loopw [43] (fun i wq => ∃ j : Nat, i = .int .i64 j ∧ j ≤ l.length ∧ As (Kept2 bb bf w2 wq) ∧ As (BdMap wq bb ((l.take j).reverse ++ bd)) ∧ As (FdMap wq bf F')) (fun i _ => l.length - (intOf i).toNat)
            case atStart => exact ⟨0, rfl, Nat.zero_le _, ⟨Kept2.refl _ _ _⟩, hB2, hF2⟩
            case round =>
              obtain ⟨j, rfl, hj, hKq, hBq, hFq⟩ := hrel
              have hKw := As.mk ((HK0.out.trans hKr.out).trans (hKA.out.trans hKq.out))
              have f0 := hKw.out.cells _ _ cf0
              by_cases hlj : j < l.length
              · obtain ⟨s, hsj⟩ : ∃ s, As (l[j]? = some s) := ⟨l[j], ⟨List.getElem?_eq_getElem hlj⟩⟩
                have hsz := short_of (hlz.out s (List.mem_of_getElem? hsj.out))
                obtain ⟨bs', os', rfl, _, hcs⟩ := (HAg.out.cells hKq.out.cells hKq.out.size) j s hsj.out
                have hbl2 : ((l.take j).reverse ++ bd).length ≤ 4611686018427387904 := by
                  have := HGw.out; have := HWB.out; have : (l.take j).length ≤ l.length := List.length_take_le' _ _
                  rw [List.length_append, List.length_reverse]; omega
                have hlk := BdMap.look hBq.out s hsz
                obtain ⟨w4, hrun, hB4, hg4⟩ := BdMap.up hBq.out s hsz hbl2
                have hwr : IntKind.i64.wrap ((cnt ((l.take j).reverse ++ bd) s : Int) + 1) = (cnt ((l.take j).reverse ++ bd) s : Int) + 1 := by
                  have := cnt_le ((l.take j).reverse ++ bd) s
                  exact IntWalk.i64_in _ (by omega)
                have HX4 := As.mk (And.intro (hKq.out.trans (Kept2.left (c := bf) hBq.out hg4)) (And.intro (hB4.cast (n' := ((l.take (j + 1)).reverse ++ bd).length) (f' := cntf ((l.take (j + 1)).reverse ++ bd)) (by rw [take_one hsj.out]; simp) (by rw [take_one hsj.out, List.reverse_append]; rfl)) (hFq.out.kept hg4 (fun e => hbf (by cases e; rfl)))))
                clear hB4 hg4 hsz hbl2
                go_wp2
                go_roundw
                case rel => exact ⟨j + 1, by go_num, by omega, ⟨HX4.out.1⟩, ⟨HX4.out.2.1⟩, ⟨HX4.out.2.2⟩⟩
                case measure => simp [intOf]; omega
              · obtain rfl : j = l.length := by omega
                have hB3 : BdMap wr bb (l ++ bd) := hBq.out.cast (by simp) (by rw [List.take_length]; exact cntf_perm ((List.reverse_perm l).append (List.Perm.refl bd)))
                have f1 := hKw.out.cells _ _ cf1
                have y0 := hKq.out.cells _ _ (hC2.out _ _ HY0.out)
                have y1 := hKq.out.cells _ _ (hC2.out _ _ HY1.out)
                have y2 := hKq.out.cells _ _ (hC2.out _ _ HY2.out)
                have y3 := hKq.out.cells _ _ (hC2.out _ _ HY3.out)
                have hs3 := hsr.out.cells (hKA.out.cells.trans hKq.out.cells)
                have IY := As.mk (IH.out y hym _ (l ++ bd) F' wr (by have := HGw.out; have := HWB.out; rw [List.length_append]; omega) (by have := HL2.out; have := HWF.out; omega) HY.out hs3 f0 f1 hB3 hFq.out)
                clear hs3 f1 hB3
                go_wp2_with (go_at_call 99; refine (IY.out).mono ?_; rintro e w5 ⟨⟨v, rfl⟩, hB5, hF5, hK5⟩)
                have hKw5 := As.mk (hKw.out.trans hK5)
                have hK25 := As.mk (hKq.out.trans hK5)
                have hB5' := As.mk hB5
                have hF5' := As.mk hF5
                clear hKw hKq hK5 hB5 hF5 f0 y0 y1 y2 y3 IY
                go_loopw [60] (fun i wp => ∃ j : Nat, i = .int .i64 j ∧ j ≤ l.length ∧ As (Kept2 bb bf w5 wp) ∧ As (BdMap wp bb (l.drop j ++ bd)) ∧ As (FdMap wp bf (F' ++ Ex.fv y (l ++ bd)))) (fun i _ => l.length - (intOf i).toNat)
                case atStart => exact ⟨0, rfl, Nat.zero_le _, ⟨Kept2.refl _ _ _⟩, hB5', hF5'⟩
                case round =>
                  obtain ⟨j, rfl, hj, hKp, hBp, hFp⟩ := hrel
                  by_cases hlj : j < l.length
                  · obtain ⟨s, hsj⟩ : ∃ s, As (l[j]? = some s) := ⟨l[j], ⟨List.getElem?_eq_getElem hlj⟩⟩
                    have hsz := short_of (hlz.out s (List.mem_of_getElem? hsj.out))
                    obtain ⟨bs', os', rfl, _, hcs⟩ := (HAg.out.cells (hK25.out.trans hKp.out).cells (hK25.out.trans hKp.out).size) j s hsj.out
                    have f0 := (hKw5.out.trans hKp.out).cells _ _ cf0
                    obtain ⟨bd', hbd'⟩ : ∃ bd', As (l.drop (j + 1) ++ bd = bd') := ⟨_, ⟨rfl⟩⟩
                    have hdj : l.drop j ++ bd = s :: bd' := by
                      rw [← hbd'.out, List.drop_eq_getElem_cons hlj, List.cons_append]
                      have : l[j] = s := by have := hsj.out; rw [List.getElem?_eq_getElem hlj] at this; simpa using this
                      rw [this]
                    have hBs : BdMap wr bb (s :: bd') := hBp.out.cast (by rw [hdj]) (by rw [hdj])
                    have hbl2 : bd'.length ≤ 4611686018427387904 := by
                      have := HGw.out; have := HWB.out; have : (l.drop (j + 1)).length ≤ l.length := by rw [List.length_drop]; omega
                      rw [← hbd'.out, List.length_append]; omega
                    have hlk := BdMap.look hBs s hsz
                    obtain ⟨w6, hrun6, hM6, hg6⟩ := BdMap.down s hBs hsz hbl2
                    have hlk6 : (Instr.lookup 113 (.map (some bb)) (.string s) false).run Tryz.prog w6 = .ok (.int .i64 (cnt bd' s)) w6 := by
                      exact MapOf.lookI hM6 s hsz _ (less_at bd' s)
                    have hwr : IntKind.i64.wrap ((cnt (s :: bd') s : Int) - 1) = (cnt bd' s : Int) := by
                      rw [cnt_self]
                      have := cnt_le bd' s
                      rw [show (((cnt bd' s + 1 : Nat) : Int) - 1) = (cnt bd' s : Int) by omega]
                      exact IntWalk.i64_in _ (by omega)
                    have hK6 := Kept2.left (c := bf) hBs hg6
                    have g0 := hK6.cells _ _ f0
                    have hF6 := hFp.out.kept hg6 (fun e => hbf (by cases e; rfl))
                    have hcz := count_zero (bd := bd') (s := s)
                    cases hh : has bd' s
                    · rw [hh, Bool.not_false] at hcz
                      obtain ⟨w7, hrun7, hM7, hg7⟩ := MapOf.dropI hM6 hsz
                      have hB7 : BdMap w7 bb bd' := (hM7.cast rfl (cntf_down' bd' s hh)).trim _ (fun t ht => cntf_mem ht)
                      have HX7 := As.mk (And.intro (hKp.out.trans (hK6.trans (Kept2.left (c := bf) hM6 hg7))) (And.intro (show BdMap w7 bb (l.drop (j + 1) ++ bd) by rw [hbd'.out]; exact hB7) (hF6.kept hg7 (fun e => hbf (by cases e; rfl)))))
                      clear hB7 hM7 hg7 hg6 hM6 hBs hbl2 hK6 hF6 hdj hh hsz
                      go_wp2
                      go_roundw
                      case rel => exact ⟨j + 1, by go_num, by omega, ⟨HX7.out.1⟩, ⟨HX7.out.2.1⟩, ⟨HX7.out.2.2⟩⟩
                      case measure => simp [intOf]; omega
                    · rw [hh, Bool.not_true] at hcz
                      have hB6 : BdMap w6 bb bd' := (hM6.cast rfl (cntf_less' bd' s hh)).trim _ (fun t ht => cntf_mem ht)
                      have HX7 := As.mk (And.intro (hKp.out.trans hK6) (And.intro (show BdMap w6 bb (l.drop (j + 1) ++ bd) by rw [hbd'.out]; exact hB6) hF6))
                      clear hB6 hg6 hM6 hBs hbl2 hK6 hF6 hdj hh hsz
                      go_wp2
                      go_roundw
                      case rel => exact ⟨j + 1, by go_num, by omega, ⟨HX7.out.1⟩, ⟨HX7.out.2.1⟩, ⟨HX7.out.2.2⟩⟩
                      case measure => simp [intOf]; omega
                  · obtain rfl : j = l.length := by omega
                    have HX8 := As.mk (And.intro (hKr.out.trans (hKA.out.trans (hK25.out.trans hKp.out))) (And.intro (hBp.out.cast (n' := bd.length) (f' := cntf bd) (by simp) (by rw [List.drop_length]; rfl)) (And.intro hFp.out (And.intro (show F ++ Ex.fv x bd = (F' ++ Ex.fv y (l ++ bd)) ++ Ex.fvs x (x.l.drop (k + 1)) (k + 1) bd by rw [HQ2.out, List.append_assoc]) (show (F' ++ Ex.fv y (l ++ bd)).length + ((x.l.drop (k + 1)).map Ex.wt).sum ≤ F.length + x.wt by
                      have := HL2.out
                      have := Ex.fv_wt _ y (l ++ bd) (Nat.le_refl _)
                      rw [List.length_append]
                      omega)))))
                    clear hKp hBp hFp
                    go_wp2
                    go_roundw
                    case rel => exact ⟨k + 1, _, by go_num, by omega, ⟨HX8.out.1⟩, ⟨HX8.out.2.1⟩, ⟨HX8.out.2.2.1⟩, ⟨HX8.out.2.2.2.1⟩, ⟨HX8.out.2.2.2.2⟩⟩
                    case measure => simp [intOf]; omega
          · obtain rfl : k = x.l.length := by omega
            have HE := As.mk (show F ++ Ex.fv x bd = F' by rw [hQ.out, List.drop_length, Ex.fvs, List.append_nil])
            go_wp2
            go_end0
            exact ⟨⟨_, rfl⟩, hBr.out, by rw [HE.out]; exact hFr.out, HK0.out.trans hKr.out⟩
end Go.Proofs.YtainigjbjfpoaaaGreatDoor
