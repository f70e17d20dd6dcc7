/- expr.Scoped. -/
/- Whether names are in scope, of an expression and of a logic that are right and have few names: by those that it needs. No function is walked here. -/
import Derived.Test.YtainigjbjfpoaaaGreatDoorCScP
import Derived.Test.YtainigjbjfpoaaaGreatDoorCFv
import Derived.Test.YtainigjbjfpoaaaGreatDoorCLgFree2
import Derived.Test.YtainigjbjfpoaaaGreatDoorCLog8
namespace Go.Proofs.YtainigjbjfpoaaaGreatDoor
open Go.RowKit Go.Shelf Go.Maps

/-- why names can't be taken into a scope -/
def withErr (N l : List ByteArray) : Nat := if bad l then 6 else if 4096 < (addAll N l).length then 19 else 0
mutual
/-- whether an expression's names are in scope, where the names N are; else why not -/
def Ex.sc : Ex → List ByteArray → Nat
  | ⟨k, s, ns, l⟩, N => if k == 3 && !(has N s) then 13 else Ex.scs ⟨k, s, ns, []⟩ l 0 N
def Ex.scs (x : Ex) : List Ex → Nat → List ByteArray → Nat
  | [], _, _ => 0
  | y :: ys, i, N => if withErr N (gv x i) ≠ 0 then withErr N (gv x i) else if Ex.sc y (addAll N (gv x i)) ≠ 0 then Ex.sc y (addAll N (gv x i)) else Ex.scs x ys (i + 1) N
end
theorem Ex.scs_l (x : Ex) (l : List Ex) : ∀ (ys : List Ex) (i : Nat) (N : List ByteArray), Ex.scs ⟨x.k, x.s, x.ns, l⟩ ys i N = Ex.scs x ys i N
  | [], i, N => by simp only [Ex.scs]
  | y :: ys, i, N => by simp only [Ex.scs, Ex.scs_l x l ys]; rfl
theorem Ex.sc_eq (x : Ex) (N : List ByteArray) : Ex.sc x N = if x.k == 3 && !(has N x.s) then 13 else Ex.scs x x.l 0 N := by
  obtain ⟨k, s, ns, l⟩ := x
  rw [Ex.sc]
  have := Ex.scs_l ⟨k, s, ns, l⟩ [] l 0 N
  rw [this]
theorem gv_length (x : Ex) (i : Nat) : (gv x i).length ≤ x.ns.length ∨ (gv x i).length ≤ 1 := by
  unfold gv
  split
  · omega
  · split
    · have : (x.ns.take i).length ≤ x.ns.length := List.length_take_le' _ _
      exact .inl this
    · split
      · split
        · simp
        · split <;> simp
      · simp
theorem gv_sizes (x : Ex) (i : Nat) (hs : x.s.size ≤ maxStr) (hn : ∀ s ∈ x.ns, s.size ≤ maxStr) : ∀ s ∈ gv x i, s.size ≤ maxStr := by
  intro s h
  unfold gv at h
  split at h
  · exact hn s h
  · split at h
    · exact hn s (List.mem_of_mem_take h)
    · split at h
      · split at h
        · simp at h; subst h; decide
        · split at h
          · simp at h; subst h; exact hs
          · simp at h
      · simp at h
theorem addAll_nil (N : List ByteArray) : addAll N [] = N := rfl
theorem withErr_nil {N : List ByteArray} (h : N.length ≤ 4096) : withErr N [] = 0 := by
  unfold withErr
  rw [addAll_nil, if_neg (by simp [bad]), if_neg (by omega)]
theorem withErr_bad {N l : List ByteArray} (h : bad l = true) : withErr N l = 6 := if_pos h
theorem withErr_big {N l : List ByteArray} (h : bad l = false) (hb : 4096 < (addAll N l).length) : withErr N l = 19 := by rw [withErr, if_neg (by rw [h]; simp), if_pos hb]
theorem withErr_ok {N l : List ByteArray} (h : bad l = false) (hb : (addAll N l).length ≤ 4096) : withErr N l = 0 := by rw [withErr, if_neg (by rw [h]; simp), if_neg (by omega)]
theorem drop_at {α : Type} {l : List α} {k : Nat} {y : α} (h : l[k]? = some y) : l.drop k = y :: l.drop (k + 1) := by
  obtain ⟨hk, e⟩ := List.getElem?_eq_some_iff.1 h
  rw [List.drop_eq_getElem_cons hk, e]
theorem strs_snap {W : World} {P : Pers} {A : Option Addr} {l : List ByteArray} (h : StrsAt W.heap.size W A l) (hl : l.length ≤ maxRow) (hz : ∀ s ∈ l, s.size ≤ maxStr) : Strs (P.snap W) A l :=
  (StrsAt.strs h hl hz).mono (fun _ _ h => h.elim (fun h => h.elim) .inr) (fun _ _ _ h => h)

theorem RowAt.drewN {W : World} {b : Nat} {cs : List Value} (h : RowAt W b cs) (n : Nat) : RowAt (W.drewN n) b cs := fun j v hj => h j v hj

set_option maxRecDepth 100000 in
set_option maxHeartbeats 8000000 in
theorem exScoped_calls : ∀ (m : Nat) (P : Pers) (_ : Glob P) (x : Ex) (cs : List Value) (a : Option Addr) (ls : List (List ByteArray)) (w : World), x.sz ≤ m → Ex.Rep P x cs → ScOk P a ls → Sat P w → (scN ls).length ≤ 4096 →
    Calls Tryz.prog 47 #[.agg cs.toArray, .pointer a] w fun e w' => e = .returned (.int .i64 (Ex.sc x (scN ls))) ∧ Below w.heap.size w w' := by
  intro m
  induction m with
  | zero => intro P _ x cs a ls w h; cases x; simp [Ex.sz] at h
  | succ m ih =>
    intro P G x cs a ls w hm hx hsc hs hn
    have HG := As.mk G
    have HSC := As.mk hsc
    have HX := As.mk hx
    have IH := As.mk (fun (Q : Pers) (g : Glob Q) (y : Ex) (hy : y ∈ x.l) cy b ls w hr h1 h2 h3 => ih Q g y cy b ls w (by have := Ex.lt_of_mem hy; omega) hr h1 h2 h3)
    obtain ⟨A2, c2, A3, c3, rfl, l2, r2, l3, r3, z1, zk⟩ := hx.open
    have HS := As.mk hs
    have HR := As.mk r3
    have HSZ := As.mk (fun i => gv_sizes x i z1 (Row.sizes r2))
    have hln := r2.len
    have hlen := r3.len
    have HN := As.mk hn
    have HH := As.mk (fun W hs => scopeHas_calls P a ls x.s W hsc.rep hs)
    rw [hasIn_eq hsc] at HH
    have hhn : has ls.flatten x.s = has (scN ls) x.s := by rw [Bool.eq_iff_iff, has_iff, has_iff, scN_mem]
    rw [hhn] at HH
    have HQ := As.mk (Ex.sc_eq x (scN ls))
    obtain ⟨N, hN⟩ : ∃ N, As (scN ls = N) := ⟨_, ⟨rfl⟩⟩
    rw [hN.out] at HH HQ HN ⊢
    clear ih hx hs hm r2 r3 zk hsc G hhn hn
    by_cases h13 : (x.k == 3 && !(has N x.s)) = true
    · rw [if_pos h13] at HQ
      rw [Bool.and_eq_true] at h13
      obtain ⟨hk3, hh⟩ := h13
      have hh2 : has N x.s = false := by simpa using hh
      rw [hh2] at HH
      clear hh hh2
      go_enter Tryz.func47, Tryz.ntmps47
      go_wp2_with (go_at_call 57; refine (HH.out _ (HS.out.alloc _)).mono ?_; rintro e w1 ⟨rfl, q, rfl⟩)
      go_ret
      exact ⟨by rw [HQ.out]; rfl, pw_below_drewN' ((Below.refl _ _).alloc (Nat.le_refl _) _) _⟩
    · rw [if_neg h13] at HQ
      have hcase : (x.k == 3) = false ∨ ((x.k == 3) = true ∧ has N x.s = true) := by
        cases h1 : (x.k == 3)
        · exact .inl rfl
        · refine .inr ⟨rfl, ?_⟩
          rw [h1] at h13
          simpa using h13
      clear h13
      rcases hcase with hk3 | ⟨hk3, hh⟩
      all_goals
        go_enter Tryz.func47, Tryz.ntmps47
        first
          | rw [hh] at HH
          | skip
        try clear hh
        go_upto_region 3 with (go_at_call 57; refine (HH.out _ (HS.out.alloc _)).mono ?_; rintro e w1 ⟨rfl, q, rfl⟩)
        refine wp_abs ?_
        intro w2 hw2
        have HB2 := As.mk (show Below w.heap.size w w2 by rw [hw2]; first | exact (Below.refl _ _).alloc (Nat.le_refl _) _ | exact pw_below_drewN' ((Below.refl _ _).alloc (Nat.le_refl _) _) _)
        have HK2 := As.mk (show RowAt w2 w.heap.size [.int .i64 x.k, .string x.s, .slice A2 x.ns.length c2, .slice A3 x.l.length c3] by
          rw [hw2]
          first
            | exact row_at rfl rfl
            | exact RowAt.drewN (row_at (V := w) (W := w.alloc (.cells [.int .i64 x.k, .string x.s, .slice A2 x.ns.length c2, .slice A3 x.l.length c3].toArray 25)) rfl rfl) _)
        have HS2 := As.mk (HS.out.below HB2.out)
        have q3 := HK2.out 3 _ rfl
        clear hw2
        go_wp2
        go_loopw [25] (fun i wr => ∃ k : Nat, i = .int .i64 k ∧ k ≤ x.l.length ∧ As (Below w.heap.size w wr) ∧ As (Sat P wr) ∧ As (RowAt wr w.heap.size [.int .i64 x.k, .string x.s, .slice A2 x.ns.length c2, .slice A3 x.l.length c3]) ∧ As (Ex.sc x N = Ex.scs x (x.l.drop k) k N)) (fun i _ => x.l.length - (intOf i).toNat)
        case atStart => exact ⟨0, rfl, Nat.zero_le _, HB2, HS2, HK2, HQ⟩
        case round =>
          obtain ⟨k, rfl, hk, hB, hS, hK, hQ⟩ := hrel
          by_cases hlt : k < x.l.length
          · obtain ⟨y, hy⟩ : ∃ y, As (x.l[k]? = some y) := ⟨_, ⟨List.getElem?_eq_getElem hlt⟩⟩
            obtain ⟨be, oe, E2, f2, E3, f3, rfl, hbe, hry, e0, e1, e2, e3⟩ := HR.out.at hS.out (i := k) (x := y) hy.out
            have HRY := As.mk hry
            have hd := drop_at hy.out
            have hQ1 := hQ.out
            rw [hd, Ex.scs] at hQ1
            have HQ1 := As.mk hQ1
            have HKL := As.mk hlt
            have HGV := As.mk (gv_length x k)
            clear hry hd hQ1 hQ
            go_upto_region 7 with fail
            refine wp_abs ?_
            intro w3 hw3
            have hb3 := show Below wr.heap.size wr w3 by rw [hw3]; exact (Below.refl _ _).alloc (Nat.le_refl _) _
            have HY3 := As.mk (show RowAt w3 wr.heap.size _ from row_at hw3 rfl)
            have HK3 := As.mk (hK.out.below hb3)
            have HB3 := As.mk (hB.out.trans (hb3.mono hB.out.size))
            have HS3 := As.mk (hS.out.below hb3)
            clear hw3 hb3 e0 e1 e2 e3
            obtain ⟨k0, k1, k2, k3⟩ := cells4 HK3.out
            obtain ⟨j0, j1, j2, j3⟩ := cells4 HY3.out
            have HGC := As.mk (given_calls P x _ k w3 (by omega) HX.out HS3.out)
            obtain ⟨gl, hgl⟩ : ∃ gl, As (gv x k = gl) := ⟨_, ⟨rfl⟩⟩
            rw [hgl.out] at HQ1 HGC HGV
            have HSZK := As.mk (HSZ.out k)
            rw [hgl.out] at HSZK
            go_wp2_with fail
            refine HGC.out.mono ?_
            rintro e w4 ⟨⟨Ag, cg, rfl, hcg, hstg⟩, hb4⟩
            have HY4 := As.mk (HY3.out.below hb4)
            have HK4 := As.mk (HK3.out.below hb4)
            have HB4 := As.mk (HB3.out.trans (hb4.mono HB3.out.size))
            have HS4 := As.mk (HS3.out.below hb4)
            have HSTR := As.mk (strs_snap (P := P) hstg (by have := HGV.out; unfold maxRow; omega) HSZK.out)
            have hgll := HGV.out
            clear hstg hb4 k0 k1 k2 k3 j0 j1 j2 j3 HGV HSZK
            obtain ⟨j0, j1, j2, j3⟩ := cells4 HY4.out
            by_cases hg0 : gl.length = 0
            · have hgn : gl = [] := List.eq_nil_of_length_eq_zero hg0
              have HI := As.mk (IH.out P HG.out y (List.mem_of_getElem? hy.out) _ a ls w4 HRY.out HSC.out HS4.out (by rw [hN.out]; exact HN.out))
              rw [hN.out] at HI
              rw [hgn, withErr_nil HN.out, addAll_nil, if_neg (by decide)] at HQ1
              have hq : decide (0 < (gl.length : Int)) = false := decide_eq_false (by omega)
              have hq2 : decide (0 < gl.length) = false := decide_eq_false (by omega)
              clear hg0 hgn
              obtain ⟨n, hn⟩ : ∃ n, As (Ex.sc y N = n) := ⟨_, ⟨rfl⟩⟩
              rw [hn.out] at HI HQ1
              clear hn
              go_wp2_with fail
              refine HI.out.mono ?_
              rintro e w5 ⟨rfl, hb5⟩
              have HB5 := As.mk (HB4.out.trans (hb5.mono HB4.out.size))
              have HK5 := As.mk (HK4.out.below hb5)
              have HS5 := As.mk (HS4.out.below hb5)
              clear hb5 j0 j1 j2 j3
              by_cases hn0 : n = 0
              · have HQ2 := As.mk (show Ex.sc x N = Ex.scs x (x.l.drop (k + 1)) (k + 1) N by rw [HQ1.out, if_neg (by omega)])
                have hqn : ((n : Int) != 0) = false := by rw [hn0]; rfl
                clear hn0
                go_wp2_with fail
                go_roundw
                case rel => exact ⟨k + 1, by go_num, by omega, HB5, HS5, HK5, HQ2⟩
                case measure => simp [intOf]; omega
              · have HQ2 := As.mk (show Ex.sc x N = n by rw [HQ1.out, if_pos hn0])
                have hqn : ((n : Int) != 0) = true := by rw [bne_iff_ne]; omega
                clear hn0
                go_wp2_with fail
                go_ret
                exact ⟨by rw [HQ2.out]; rfl, HB5.out⟩
            · have hq : decide (0 < (gl.length : Int)) = true := decide_eq_true (by omega)
              have hq2 : decide (0 < gl.length) = true := decide_eq_true (by omega)
              clear hg0
              have HW := As.mk (scWith_calls (P.snap w4) (HG.out.mono (Pers.le_snap _ _)) a Ag cg ls gl w4 (HSC.out.mono (Pers.le_snap _ _)) HSTR.out (Sat.snap HS4.out) (by rw [hN.out]; exact Nat.le_trans HN.out (by decide)))
              go_wp2_with fail
              refine HW.out.mono ?_
              rintro e w6 ⟨hnew, hb6⟩
              have hnew2 := hnew.scN
              rw [hN.out] at hnew2
              have HY6 := As.mk (HY4.out.below hb6)
              have HK6 := As.mk (HK4.out.below hb6)
              have HB6 := As.mk (HB4.out.trans (hb6.mono HB4.out.size))
              have HS6 := As.mk (HS4.out.below hb6)
              have HSQ6 := As.mk ((Sat.snap HS4.out).below hb6)
              clear hnew hb6 j0 j1 j2 j3
              obtain ⟨j0, j1, j2, j3⟩ := cells4 HY6.out
              rcases hnew2 with ⟨hbad, rfl⟩ | ⟨hbad, hbig, rfl⟩ | ⟨hbad, hbig, b, ls', rfl, hok, hN'⟩
              · have HQ2 := As.mk (show Ex.sc x N = 6 by rw [HQ1.out, withErr_bad hbad, if_pos (by decide)])
                clear hbad
                go_wp2_with fail
                go_ret
                exact ⟨by rw [HQ2.out]; rfl, HB6.out⟩
              · have HQ2 := As.mk (show Ex.sc x N = 19 by rw [HQ1.out, withErr_big hbad hbig, if_pos (by decide)])
                clear hbad hbig
                go_wp2_with fail
                go_ret
                exact ⟨by rw [HQ2.out]; rfl, HB6.out⟩
              · rw [withErr_ok hbad hbig, if_neg (by decide)] at HQ1
                have HI := As.mk (IH.out ((P.snap w4).snap w6) ((HG.out.mono (Pers.le_snap _ _)).mono (Pers.le_snap _ _)) y (List.mem_of_getElem? hy.out) _ (some ⟨b, 0, none⟩) ls' w6 ((HRY.out.mono (Pers.le_snap _ _)).mono (Pers.le_snap _ _)) hok (Sat.snap HSQ6.out) (by rw [hN']; exact hbig))
                rw [hN'] at HI
                clear hok hN' hbad hbig
                obtain ⟨n, hn⟩ : ∃ n, As (Ex.sc y (addAll N gl) = n) := ⟨_, ⟨rfl⟩⟩
                rw [hn.out] at HI HQ1
                clear hn
                go_wp2_with fail
                refine HI.out.mono ?_
                rintro e w5 ⟨rfl, hb5⟩
                have HB5 := As.mk (HB6.out.trans (hb5.mono HB6.out.size))
                have HK5 := As.mk (HK6.out.below hb5)
                have HS5 := As.mk (HS6.out.below hb5)
                clear hb5 j0 j1 j2 j3
                by_cases hn0 : n = 0
                · have HQ2 := As.mk (show Ex.sc x N = Ex.scs x (x.l.drop (k + 1)) (k + 1) N by rw [HQ1.out, if_neg (by omega)])
                  have hqn : ((n : Int) != 0) = false := by rw [hn0]; rfl
                  clear hn0
                  go_wp2_with fail
                  go_roundw
                  case rel => exact ⟨k + 1, by go_num, by omega, HB5, HS5, HK5, HQ2⟩
                  case measure => simp [intOf]; omega
                · have HQ2 := As.mk (show Ex.sc x N = n by rw [HQ1.out, if_pos hn0])
                  have hqn : ((n : Int) != 0) = true := by rw [bne_iff_ne]; omega
                  clear hn0
                  go_wp2_with fail
                  go_ret
                  exact ⟨by rw [HQ2.out]; rfl, HB5.out⟩
          · obtain rfl : k = x.l.length := by omega
            have HQ2 := As.mk (show Ex.sc x N = 0 by rw [hQ.out, List.drop_eq_nil_of_le (Nat.le_refl _), Ex.scs])
            clear hQ
            go_wp2_with fail
            go_ret
            exact ⟨by rw [HQ2.out]; rfl, hB.out⟩
end Go.Proofs.YtainigjbjfpoaaaGreatDoor

namespace Go.Proofs.YtainigjbjfpoaaaGreatDoor
open Go.RowKit Go.Shelf Go.Maps

/-- the names that stand in an expression itself -/
def Ex.own (x : Ex) : List ByteArray := if x.k == 15 || x.k == 17 then x.ns else if x.k == 12 || x.k == 13 || x.k == 14 || x.k == 3 then [x.s] else []
mutual
/-- all names of an expression -/
def Ex.occ : Ex → List ByteArray
  | ⟨k, s, ns, l⟩ => Ex.own ⟨k, s, ns, []⟩ ++ Ex.occs l
def Ex.occs : List Ex → List ByteArray
  | [] => []
  | x :: xs => Ex.occ x ++ Ex.occs xs
end
theorem Ex.occ_eq (x : Ex) : x.occ = x.own ++ Ex.occs x.l := by cases x; rw [Ex.occ]; rfl
theorem Ex.occs_mem {y : Ex} {s : ByteArray} : ∀ {l : List Ex}, y ∈ l → s ∈ y.occ → s ∈ Ex.occs l
  | z :: l, h, hs => by
    rw [Ex.occs, List.mem_append]
    rcases List.mem_cons.1 h with rfl | h
    · exact .inl hs
    · exact .inr (Ex.occs_mem h hs)
theorem gv_own {x : Ex} {i : Nat} {s : ByteArray} (h : s ∈ gv x i) : s = itemName ∨ s ∈ x.own := by
  unfold gv at h
  unfold Ex.own
  cases h15 : (x.k == 15)
  · rw [h15] at h
    cases h17 : (x.k == 17)
    · rw [h17] at h
      simp only [Bool.false_eq_true, if_false] at h
      split at h
      · split at h
        · exact .inl (by simpa using h)
        · split at h
          · rename_i h12
            refine .inr ?_
            have : (x.k == 12 || x.k == 13 || x.k == 14 || x.k == 3) = true := by rw [h12]; rfl
            simp only [Bool.or_false, Bool.false_eq_true, if_false]
            rw [if_pos this]
            exact h
          · simp at h
      · simp at h
    · rw [h17] at h
      simp only [Bool.false_eq_true, if_false, if_true] at h
      exact .inr (by simp; exact List.mem_of_mem_take h)
  · rw [h15] at h
    simp only [if_true] at h
    exact .inr (by simpa using h)
theorem Ex.own_strsW (x : Ex) : strsW x.own ≤ 1 + x.s.size + strsW x.ns := by
  unfold Ex.own
  split
  · omega
  · split
    · rw [strsW_cons]; have : strsW [] = 0 := rfl; omega
    · have : strsW [] = 0 := rfl; omega
theorem Ex.occ_strsW : ∀ (n : Nat) (x : Ex), x.sz ≤ n → strsW x.occ ≤ x.wt
  | 0, x, h => by cases x; simp [Ex.sz] at h
  | n + 1, x, h => by
    have h1 := Ex.own_strsW x
    have h2 : ∀ l : List Ex, (∀ y ∈ l, y ∈ x.l) → strsW (Ex.occs l) ≤ (l.map Ex.wt).sum := by
      intro l
      induction l with
      | nil => intro _; exact Nat.le_refl _
      | cons y l ih =>
        intro hl
        have h3 := Ex.occ_strsW n y (by have := Ex.lt_of_mem (hl y (by simp)); omega)
        have h4 := ih (fun z hz => hl z (by simp [hz]))
        rw [Ex.occs, strsW_append, List.map_cons, List.sum_cons]
        omega
    have h5 := h2 x.l (fun _ h => h)
    rw [Ex.occ_eq, strsW_append, Ex.wt_eq]
    omega
/-- with names bound, an expression needs the others -/
theorem Ex.fvs_bd (x : Ex) : ∀ (ys : List Ex), (∀ y ∈ ys, ∀ bd s, s ∈ Ex.fv y bd ↔ s ∈ Ex.fv y [] ∧ s ∉ bd) → ∀ (i : Nat) (bd : List ByteArray) (s : ByteArray), s ∈ Ex.fvs x ys i bd ↔ s ∈ Ex.fvs x ys i [] ∧ s ∉ bd
  | [], _, i, bd, s => by simp [Ex.fvs]
  | y :: ys, h, i, bd, s => by
    have h1 := h y (by simp)
    have h2 := Ex.fvs_bd x ys (fun z hz => h z (by simp [hz])) (i + 1) bd s
    rw [Ex.fvs, Ex.fvs, List.mem_append, List.mem_append, h1, h1 (gv x i ++ []), h2]
    simp only [List.mem_append, List.append_nil, not_or]
    constructor
    · rintro (⟨a, b, c⟩ | ⟨a, b⟩)
      · exact ⟨.inl ⟨a, b⟩, c⟩
      · exact ⟨.inr a, b⟩
    · rintro ⟨⟨a, b⟩ | a, c⟩
      · exact .inl ⟨a, b, c⟩
      · exact .inr ⟨a, c⟩
theorem Ex.fv_bd : ∀ (n : Nat) (x : Ex) (bd : List ByteArray) (s : ByteArray), x.sz ≤ n → (s ∈ Ex.fv x bd ↔ s ∈ Ex.fv x [] ∧ s ∉ bd)
  | 0, x, bd, s, h => by cases x; simp [Ex.sz] at h
  | n + 1, x, bd, s, h => by
    have h2 := Ex.fvs_bd x x.l (fun y hy bd s => Ex.fv_bd n y bd s (by have := Ex.lt_of_mem hy; omega)) 0 bd s
    rw [Ex.fv_eq, Ex.fv_eq x [], List.mem_append, List.mem_append, h2]
    have hn : has [] x.s = false := rfl
    cases hk : (x.k == 3)
    · simp
    · by_cases hb : s = x.s
      · subst hb
        cases hh : has bd x.s
        · have : x.s ∉ bd := fun h' => by rw [has_iff.2 h'] at hh; cases hh
          simp [hn, this]
        · have : x.s ∈ bd := has_iff.1 hh
          simp [hn, this]
      · cases hh : has bd x.s <;> simp [hn, hb]
theorem Ex.fv_bd' (x : Ex) (bd : List ByteArray) (s : ByteArray) : s ∈ Ex.fv x bd ↔ s ∈ Ex.fv x [] ∧ s ∉ bd := Ex.fv_bd _ x bd s (Nat.le_refl _)
theorem Ex.fv_occ : ∀ (n : Nat) (x : Ex) (s : ByteArray), x.sz ≤ n → s ∈ Ex.fv x [] → s ∈ x.occ
  | 0, x, s, h, _ => by cases x; simp [Ex.sz] at h
  | n + 1, x, s, h, hs => by
    have h2 : ∀ (ys : List Ex) (i : Nat), (∀ y ∈ ys, y ∈ x.l) → s ∈ Ex.fvs x ys i [] → s ∈ Ex.occs ys := by
      intro ys
      induction ys with
      | nil => intro i _ h; simp [Ex.fvs] at h
      | cons y ys ih =>
        intro i hy hs
        rw [Ex.fvs, List.mem_append] at hs
        rw [Ex.occs, List.mem_append]
        rcases hs with hs | hs
        · exact .inl (Ex.fv_occ n y s (by have := Ex.lt_of_mem (hy y (by simp)); omega) ((Ex.fv_bd' y _ s).1 hs).1)
        · exact .inr (ih (i + 1) (fun z hz => hy z (by simp [hz])) hs)
    rw [Ex.fv_eq, List.mem_append] at hs
    rw [Ex.occ_eq, List.mem_append]
    rcases hs with hs | hs
    · split at hs
      · rename_i h3
        rw [Bool.and_eq_true] at h3
        have hk : x.k = 3 := by simpa using h3.1
        refine .inl ?_
        unfold Ex.own
        rw [hk]
        simpa using hs
      · simp at hs
    · exact .inr (h2 x.l 0 (fun _ h => h) hs)

/-- are the names that it needs among those? -/
def Ex.in_ (x : Ex) (N : List ByteArray) : Bool := (Ex.fv x []).all fun s => has N s
theorem Ex.in_iff {x : Ex} {N : List ByteArray} : x.in_ N = true ↔ ∀ s ∈ Ex.fv x [], s ∈ N := by
  unfold Ex.in_
  rw [List.all_eq_true]
  exact ⟨fun h s hs => has_iff.1 (h s hs), fun h s hs => has_iff.2 (h s hs)⟩
theorem addAll_few {N l M : List ByteArray} (hN : Rising N) (h1 : ∀ s ∈ N, s ∈ M) (h2 : ∀ s ∈ l, s ∈ M) : (addAll N l).length ≤ M.length :=
  nodup_le _ _ (addAll_rising hN).nodup (fun s hs => (addAll_mem.1 hs).elim (h1 s) (h2 s))
theorem right_item : right itemName = true := by kernel_rfl
theorem bad_of {l : List ByteArray} (h : ∀ s ∈ l, right s = true) : bad l = false := by
  unfold bad
  rw [List.any_eq_false]
  intro s hs
  simp [h s hs]
theorem withErr_few {N l M : List ByteArray} (hN : Rising N) (h1 : ∀ s ∈ N, s ∈ M) (h2 : ∀ s ∈ l, s ∈ M) (hM : M.length ≤ 4096) (hr : ∀ s ∈ l, right s = true) : withErr N l = 0 :=
  withErr_ok (bad_of hr) (Nat.le_trans (addAll_few hN h1 h2) hM)
theorem Ex.sc_in {M : List ByteArray} (hM : M.length ≤ 4096) (hi : itemName ∈ M) : ∀ (n : Nat) (x : Ex) (N : List ByteArray), x.sz ≤ n → Rising N → (∀ s ∈ N, s ∈ M) → (∀ s ∈ x.occ, s ∈ M ∧ right s = true) →
    Ex.sc x N = if x.in_ N = true then 0 else 13
  | 0, x, N, h, _, _, _ => by cases x; simp [Ex.sz] at h
  | n + 1, x, N, h, hN, hNM, hocc => by
    have hown : ∀ s ∈ x.own, s ∈ M ∧ right s = true := fun s hs => hocc s (by rw [Ex.occ_eq, List.mem_append]; exact .inl hs)
    have h2 : ∀ (ys : List Ex) (i : Nat), (∀ y ∈ ys, y ∈ x.l) → Ex.scs x ys i N = if ((Ex.fvs x ys i []).all fun s => has N s) = true then 0 else 13 := by
      intro ys
      induction ys with
      | nil => intro i _; simp [Ex.scs, Ex.fvs]
      | cons y ys ih =>
        intro i hy
        have hyl := hy y (by simp)
        have hgM : ∀ s ∈ gv x i, s ∈ M := fun s hs => by
          rcases gv_own hs with rfl | h'
          · exact hi
          · exact (hown s h').1
        have hgr : ∀ s ∈ gv x i, right s = true := fun s hs => by
          rcases gv_own hs with rfl | h'
          · exact right_item
          · exact (hown s h').2
        have hy1 := Ex.sc_in hM hi n y (addAll N (gv x i)) (by have := Ex.lt_of_mem hyl; omega) (addAll_rising hN) (fun s hs => (addAll_mem.1 hs).elim (hNM s) (hgM s)) (fun s hs => hocc s (by rw [Ex.occ_eq, List.mem_append]; exact .inr (Ex.occs_mem hyl hs)))
        rw [Ex.scs, withErr_few hN hNM hgM hM hgr, if_neg (by decide), hy1, Ex.fvs, List.all_append, ih (i + 1) (fun z hz => hy z (by simp [hz]))]
        have he : y.in_ (addAll N (gv x i)) = (Ex.fv y (gv x i ++ [])).all fun s => has N s := by
          rw [Bool.eq_iff_iff, Ex.in_iff, List.all_eq_true]
          constructor
          · intro h1 s hs
            rw [Ex.fv_bd', List.append_nil] at hs
            rw [has_iff]
            exact (addAll_mem.1 (h1 s hs.1)).elim id (fun h' => absurd h' hs.2)
          · intro h1 s hs
            rw [addAll_mem]
            by_cases hg : s ∈ gv x i
            · exact .inr hg
            · exact .inl (has_iff.1 (h1 s ((Ex.fv_bd' y _ s).2 ⟨hs, by rw [List.append_nil]; exact hg⟩)))
        rw [he]
        cases (Ex.fv y (gv x i ++ [])).all fun s => has N s
        · rfl
        · simp
    rw [Ex.sc_eq, h2 x.l 0 (fun _ h => h)]
    unfold Ex.in_
    rw [Ex.fv_eq, List.all_append]
    have hn : has [] x.s = false := rfl
    cases hk : (x.k == 3)
    · simp
    · cases hh : has N x.s
      · simp [hn, hh]
      · simp [hn, hh]

/-! ### of right ones all names are right -/
theorem ownErr_names {x : Ex} {t : Bool} (h : ownErr x t = 0) : ∀ s ∈ x.own, right s = true := by
  unfold ownErr at h
  split at h
  · omega
  · split at h
    · omega
    · split at h
      · omega
      · split at h
        · omega
        · split at h
          · omega
          · rename_i h6
            have h7 : bad x.ns = false := by
              cases hb : bad x.ns
              · rfl
              · exact absurd (.inr hb) h6
            intro s hs
            unfold Ex.own at hs
            split at hs
            · unfold bad at h7
              rw [List.any_eq_false] at h7
              have := h7 s hs
              simpa using this
            · split at hs
              · rename_i hk
                have hnm : isName x.k = true := by
                  have hk' : x.k = 12 ∨ x.k = 13 ∨ x.k = 14 ∨ x.k = 3 := by simpa [or_assoc] using hk
                  rcases hk' with e | e | e | e <;> rw [e] <;> rfl
                obtain rfl : s = x.s := by simpa using hs
                cases hr : right x.s
                · exact absurd (.inl ⟨hnm, hr⟩) h6
                · rfl
              · simp at hs
theorem Ex.err_names : ∀ (n : Nat) (x : Ex) (t : Bool), x.sz ≤ n → Ex.err x t = 0 → ∀ s ∈ x.occ, right s = true
  | 0, x, t, h, _ => by cases x; simp [Ex.sz] at h
  | n + 1, x, t, h, he => by
    rw [Ex.err_eq] at he
    by_cases h0 : ownErr x t = 0
    · rw [if_pos h0] at he
      have h2 : ∀ (ys : List Ex) (i : Nat), (∀ y ∈ ys, y ∈ x.l) → Ex.errs x.k ys i = 0 → ∀ s ∈ Ex.occs ys, right s = true := by
        intro ys
        induction ys with
        | nil => intro i _ _ s hs; simp [Ex.occs] at hs
        | cons y ys ih =>
          intro i hy he s hs
          rw [Ex.errs] at he
          split at he
          · rename_i hy0
            rw [Ex.occs, List.mem_append] at hs
            rcases hs with hs | hs
            · exact Ex.err_names n y _ (by have := Ex.lt_of_mem (hy y (by simp)); omega) hy0 s hs
            · exact ih (i + 1) (fun z hz => hy z (by simp [hz])) he s hs
          · rename_i hy0
            exact absurd he hy0
      intro s hs
      rw [Ex.occ_eq, List.mem_append] at hs
      rcases hs with hs | hs
      · exact ownErr_names h0 s hs
      · exact h2 x.l 0 (fun _ h => h) he s hs
    · rw [if_neg h0] at he
      exact absurd he h0
theorem exErr_names {x : Ex} (h : exErr x = 0) : ∀ s ∈ x.occ, right s = true := by
  unfold exErr at h
  split at h
  · omega
  · exact Ex.err_names _ x true (Nat.le_refl _) h
theorem expErr_exErr {x : Ex} (h : expErr x = 0) : exErr x = 0 := by
  unfold expErr at h
  split at h
  · rename_i h0; exact h0
  · exact h
theorem firstErr_all {α : Type} {f : α → Nat} : ∀ {l : List α}, firstErr f l = 0 → ∀ x ∈ l, f x = 0
  | [], _, x, h => by simp at h
  | y :: l, he, x, h => by
    rw [firstErr] at he
    split at he
    · rename_i h0
      rcases List.mem_cons.1 h with rfl | h
      · exact h0
      · exact firstErr_all he x h
    · rename_i h0
      exact absurd he h0
theorem ite_zero {n m : Nat} {p : Prop} [Decidable p] (h : (if p then n else m) = 0) (hn : n ≠ 0) : ¬ p ∧ m = 0 := by
  by_cases hp : p
  · rw [if_pos hp] at h; exact absurd h hn
  · rw [if_neg hp] at h; exact ⟨hp, h⟩
/-- what a right logic itself is -/
theorem loOwn_zero {x : Lo} (h : loOwn x = 0) : form x = true ∧ bad (given x) = false ∧ ∀ y ∈ x.parts, exErr y = 0 := by
  unfold loOwn at h
  obtain ⟨h1, h⟩ := ite_zero h (by decide)
  obtain ⟨h2, h⟩ := ite_zero h (by decide)
  have hf : form x = true := by simpa using h2
  unfold fiveErr at h
  have ha := firstErr_all h
  have e1 : nameErr (given x) = 0 := ha (nameErr (given x)) (by simp)
  have e3 : headErr x.k x.e = 0 := ha (headErr x.k x.e) (by simp)
  have e4 : firstErr expErr x.inp = 0 := ha (firstErr expErr x.inp) (by simp)
  have e5 : firstErr (ruErr x) x.ru = 0 := ha (firstErr (ruErr x) x.ru) (by simp)
  refine ⟨hf, ?_, fun y hy => ?_⟩
  · unfold nameErr at e1
    have := (ite_zero e1 (by decide)).1
    simpa using this
  · unfold Lo.parts at hy
    rw [List.mem_append, List.mem_append] at hy
    rcases hy with (hy | hy) | hy
    · unfold Lo.hd at hy
      split at hy
      · rename_i hk
        obtain rfl : y = x.e := by simpa using hy
        unfold headErr at e3
        have hk' : x.k = 0 ∨ x.k = 3 := by simpa using hk
        rw [if_pos hk'] at e3
        exact expErr_exErr (firstErr_all e3 _ (by simp))
      · simp at hy
    · exact expErr_exErr (firstErr_all e4 y hy)
    · obtain ⟨r, hr, hy⟩ := List.mem_flatMap.1 hy
      have hr0 := firstErr_all e5 r hr
      unfold ruErr at hr0
      have hr1 := (ite_zero hr0 (by decide)).2
      unfold ruParts at hy
      by_cases hin : firstErr teErr r.ins = 0
      · rw [if_pos hin] at hr1
        rcases List.mem_append.1 hy with hy | hy
        · obtain ⟨t, ht, hy⟩ := List.mem_flatMap.1 hy
          have ht0 := firstErr_all hin t ht
          unfold teErr at ht0
          exact firstErr_all (ite_zero ht0 (by decide)).2 y hy
        · exact expErr_exErr (firstErr_all hr1 y hy)
      · rw [if_neg hin] at hr1
        exact absurd hr1 hin
theorem Lo.errs_all : ∀ {l : List Lo}, Lo.errs l = 0 → ∀ y ∈ l, Lo.err y = 0
  | [], _, y, h => by simp at h
  | z :: l, he, y, h => by
    rw [Lo.errs] at he
    split at he
    · rename_i h0
      rcases List.mem_cons.1 h with rfl | h
      · exact h0
      · exact Lo.errs_all he y h
    · rename_i h0
      exact absurd he h0
theorem Lo.err_zero {x : Lo} (h : Lo.err x = 0) : loOwn x = 0 ∧ ∀ y ∈ x.l, Lo.err y = 0 := by
  rw [Lo.err_eq] at h
  by_cases h0 : loOwn x = 0
  · rw [if_pos h0] at h
    exact ⟨h0, Lo.errs_all h⟩
  · rw [if_neg h0] at h
    exact absurd h h0

/-! ### logics -/
mutual
/-- all names of a logic -/
def Lo.occ : Lo → List ByteArray
  | ⟨k, e, pol, inp, out, ru, ns, l⟩ => (Lo.parts ⟨k, e, pol, inp, out, ru, ns, []⟩).flatMap Ex.occ ++ (if k == 2 then given ⟨k, e, pol, inp, out, ru, ns, []⟩ else []) ++ Lo.occs l
def Lo.occs : List Lo → List ByteArray
  | [] => []
  | x :: xs => Lo.occ x ++ Lo.occs xs
end
theorem Lo.occ_eq (x : Lo) : x.occ = x.parts.flatMap Ex.occ ++ (if x.k == 2 then given x else []) ++ Lo.occs x.l := by cases x; rw [Lo.occ]; rfl
theorem Lo.occs_mem {y : Lo} {s : ByteArray} : ∀ {l : List Lo}, y ∈ l → s ∈ y.occ → s ∈ Lo.occs l
  | z :: l, h, hs => by
    rw [Lo.occs, List.mem_append]
    rcases List.mem_cons.1 h with rfl | h
    · exact .inl hs
    · exact .inr (Lo.occs_mem h hs)
theorem Lo.occ_child {x y : Lo} {s : ByteArray} (hy : y ∈ x.l) (hs : s ∈ y.occ) : s ∈ x.occ := by
  rw [Lo.occ_eq, List.mem_append]
  exact .inr (Lo.occs_mem hy hs)
theorem Lo.occ_part {x : Lo} {y : Ex} {s : ByteArray} (hy : y ∈ x.parts) (hs : s ∈ y.occ) : s ∈ x.occ := by
  rw [Lo.occ_eq, List.mem_append, List.mem_append]
  exact .inl (.inl (List.mem_flatMap.2 ⟨y, hy, hs⟩))
/-- the names that a right context has bound for its part i -/
theorem ns_take_given {x : Lo} (h : loOwn x = 0) (hk : (x.k == 2) = true) {i : Nat} (hi : i < x.l.length) {s : ByteArray} (hs : s ∈ x.ns.take i) : s ∈ given x := by
  have hf := (loOwn_zero h).1
  have hk2 : x.k = 2 := by simpa using hk
  unfold form at hf
  rw [if_neg (by omega), if_neg (by omega), if_pos hk2] at hf
  have hl : x.ns.length = x.l.length := by
    rw [Bool.and_eq_true] at hf
    simpa using hf.2
  unfold given
  split
  · have : x.ns.take i = (x.ns.take (x.ns.length - 1)).take i := by rw [List.take_take, Nat.min_eq_left (by omega)]
    rw [this] at hs
    exact List.mem_of_mem_take hs
  · exact List.mem_of_mem_take hs
theorem ns_le {x : Lo} (h : loOwn x = 0) (hk : (x.k == 2) = true) : x.ns.length = x.l.length := by
  have hf := (loOwn_zero h).1
  have hk2 : x.k = 2 := by simpa using hk
  unfold form at hf
  rw [if_neg (by omega), if_neg (by omega), if_pos hk2, Bool.and_eq_true] at hf
  simpa using hf.2
theorem given_strsW (x : Lo) : strsW (given x) ≤ strsW x.ns := by
  unfold given
  split
  · exact strsW_sub (List.take_sublist _ _)
  · exact Nat.le_refl _
theorem strsW_flatMap {f : Ex → List ByteArray} {g : Ex → Nat} : ∀ {l : List Ex}, (∀ y ∈ l, strsW (f y) ≤ g y) → strsW (l.flatMap f) ≤ (l.map g).sum
  | [], _ => Nat.le_refl _
  | y :: l, h => by
    have h1 := h y (by simp)
    have h2 := strsW_flatMap (l := l) (fun z hz => h z (by simp [hz]))
    rw [List.flatMap_cons, strsW_append, List.map_cons, List.sum_cons]
    omega
theorem Lo.occ_strsW : ∀ (n : Nat) (x : Lo), x.sz ≤ n → strsW x.occ ≤ x.wt
  | 0, x, h => by cases x; simp [Lo.sz] at h
  | n + 1, x, h => by
    have h1 := strsW_flatMap (f := Ex.occ) (g := Ex.wt) (l := x.parts) (fun y _ => Ex.occ_strsW _ y (Nat.le_refl _))
    have h2 : ∀ l : List Lo, (∀ y ∈ l, y ∈ x.l) → strsW (Lo.occs l) ≤ (l.map Lo.wt).sum := by
      intro l
      induction l with
      | nil => intro _; exact Nat.le_refl _
      | cons y l ih =>
        intro hl
        have h3 := Lo.occ_strsW n y (by have := Lo.lt_of_mem (hl y (by simp)); omega)
        have h4 := ih (fun z hz => hl z (by simp [hz]))
        rw [Lo.occs, strsW_append, List.map_cons, List.sum_cons]
        omega
    have h5 := h2 x.l (fun _ h => h)
    have h6 := x.parts_wt
    have h7 := given_strsW x
    rw [Lo.occ_eq, strsW_append, strsW_append]
    split
    · omega
    · have : strsW [] = 0 := rfl
      omega
theorem Lo.err_names : ∀ (n : Nat) (x : Lo), x.sz ≤ n → Lo.err x = 0 → ∀ s ∈ x.occ, right s = true
  | 0, x, h, _ => by cases x; simp [Lo.sz] at h
  | n + 1, x, h, he => by
    obtain ⟨h0, hl⟩ := Lo.err_zero he
    obtain ⟨_, h2, h3⟩ := loOwn_zero h0
    intro s hs
    rw [Lo.occ_eq, List.mem_append, List.mem_append] at hs
    rcases hs with (hs | hs) | hs
    · obtain ⟨y, hy, hs⟩ := List.mem_flatMap.1 hs
      exact exErr_names (h3 y hy) s hs
    · split at hs
      · unfold bad at h2
        rw [List.any_eq_false] at h2
        have := h2 s hs
        simpa using this
      · simp at hs
    · have h4 : ∀ l : List Lo, (∀ y ∈ l, y ∈ x.l) → s ∈ Lo.occs l → right s = true := by
        intro l
        induction l with
        | nil => intro _ hs; simp [Lo.occs] at hs
        | cons y l ih =>
          intro hy hs
          rw [Lo.occs, List.mem_append] at hs
          rcases hs with hs | hs
          · exact Lo.err_names n y (by have := Lo.lt_of_mem (hy y (by simp)); omega) (hl y (hy y (by simp))) s hs
          · exact ih (fun z hz => hy z (by simp [hz])) hs
      exact h4 x.l (fun _ h => h) hs
theorem Lo.fvs_bd (x : Lo) : ∀ (ys : List Lo), (∀ y ∈ ys, ∀ bd s, s ∈ Lo.fv y bd ↔ s ∈ Lo.fv y [] ∧ s ∉ bd) → ∀ (i : Nat) (bd : List ByteArray) (s : ByteArray), s ∈ Lo.fvs x ys i bd ↔ s ∈ Lo.fvs x ys i [] ∧ s ∉ bd
  | [], _, i, bd, s => by simp [Lo.fvs]
  | y :: ys, h, i, bd, s => by
    have h1 := h y (by simp)
    have h2 := Lo.fvs_bd x ys (fun z hz => h z (by simp [hz])) (i + 1) bd s
    have h3 : ∀ bd, s ∈ bdAt x i bd ↔ s ∈ bd ∨ s ∈ bdAt x i [] := fun bd => by
      unfold bdAt
      split <;> simp
    rw [Lo.fvs, Lo.fvs, List.mem_append, List.mem_append, h1, h1 (bdAt x i []), h2, h3 bd, not_or]
    constructor
    · rintro (⟨a, b, c⟩ | ⟨a, b⟩)
      · exact ⟨.inl ⟨a, c⟩, b⟩
      · exact ⟨.inr a, b⟩
    · rintro ⟨⟨a, b⟩ | a, c⟩
      · exact .inl ⟨a, c, b⟩
      · exact .inr ⟨a, c⟩
theorem Lo.fv_bd : ∀ (n : Nat) (x : Lo) (bd : List ByteArray) (s : ByteArray), x.sz ≤ n → (s ∈ Lo.fv x bd ↔ s ∈ Lo.fv x [] ∧ s ∉ bd)
  | 0, x, bd, s, h => by cases x; simp [Lo.sz] at h
  | n + 1, x, bd, s, h => by
    have h2 := Lo.fvs_bd x x.l (fun y hy bd s => Lo.fv_bd n y bd s (by have := Lo.lt_of_mem hy; omega)) 0 bd s
    rw [Lo.fv_eq, Lo.fv_eq x [], List.mem_append, List.mem_append, h2]
    have h3 : s ∈ x.parts.flatMap (need bd) ↔ s ∈ x.parts.flatMap (need []) ∧ s ∉ bd := by
      rw [List.mem_flatMap, List.mem_flatMap]
      constructor
      · rintro ⟨y, hy, hs⟩
        rw [need_mem] at hs
        exact ⟨⟨y, hy, need_mem.2 ⟨hs.1, by simp⟩⟩, hs.2⟩
      · rintro ⟨⟨y, hy, hs⟩, hb⟩
        exact ⟨y, hy, need_mem.2 ⟨(need_mem.1 hs).1, hb⟩⟩
    rw [h3]
    constructor
    · rintro (⟨a, b⟩ | ⟨a, b⟩)
      · exact ⟨.inl a, b⟩
      · exact ⟨.inr a, b⟩
    · rintro ⟨a | a, b⟩
      · exact .inl ⟨a, b⟩
      · exact .inr ⟨a, b⟩
theorem Lo.fv_bd' (x : Lo) (bd : List ByteArray) (s : ByteArray) : s ∈ Lo.fv x bd ↔ s ∈ Lo.fv x [] ∧ s ∉ bd := Lo.fv_bd _ x bd s (Nat.le_refl _)
/-- are the names that a logic needs among those? -/
def Lo.in_ (x : Lo) (N : List ByteArray) : Bool := (Lo.fv x []).all fun s => has N s
theorem Lo.in_iff {x : Lo} {N : List ByteArray} : x.in_ N = true ↔ ∀ s ∈ Lo.fv x [], s ∈ N := by
  unfold Lo.in_
  rw [List.all_eq_true]
  exact ⟨fun h s hs => has_iff.1 (h s hs), fun h s hs => has_iff.2 (h s hs)⟩
/-- the names in scope of a part -/
def subN (x : Lo) (i : Nat) (N : List ByteArray) : List ByteArray := if x.k == 2 && decide (0 < i) then addAll N (x.ns.take i) else N
theorem subN_mem {x : Lo} {i : Nat} {N : List ByteArray} (hi : x.k == 2 → i < x.ns.length) (s : ByteArray) : s ∈ subN x i N ↔ s ∈ N ∨ s ∈ bdAt x i [] := by
  unfold subN bdAt
  cases hk : (x.k == 2)
  · simp
  · have h1 := hi hk
    by_cases h0 : 0 < i
    · simp [h0, h1, addAll_mem]
    · obtain rfl : i = 0 := by omega
      simp
theorem Lo.in_eq (x : Lo) (N : List ByteArray) (h : loOwn x = 0) : x.in_ N = true ↔ (∀ y ∈ x.parts, y.in_ N = true) ∧ ∀ (i : Nat) (y : Lo), x.l[i]? = some y → y.in_ (subN x i N) = true := by
  have hfvs : ∀ (ys : List Lo) (i : Nat) (s : ByteArray), s ∈ Lo.fvs x ys i [] ↔ ∃ (j : Nat) (y : Lo), ys[j]? = some y ∧ s ∈ Lo.fv y (bdAt x (i + j) []) := by
    intro ys
    induction ys with
    | nil => intro i s; simp [Lo.fvs]
    | cons y ys ih =>
      intro i s
      rw [Lo.fvs, List.mem_append, ih (i + 1) s]
      constructor
      · rintro (h | ⟨j, z, hz, hs⟩)
        · exact ⟨0, y, rfl, h⟩
        · exact ⟨j + 1, z, by simpa using hz, by rw [show i + (j + 1) = i + 1 + j by omega]; exact hs⟩
      · rintro ⟨j, z, hz, hs⟩
        cases j with
        | zero =>
          simp at hz
          subst hz
          exact .inl hs
        | succ j => exact .inr ⟨j, z, by simpa using hz, by rw [show i + 1 + j = i + (j + 1) by omega]; exact hs⟩
  rw [Lo.in_iff]
  constructor
  · intro hall
    refine ⟨fun y hy => Ex.in_iff.2 fun s hs => hall s ?_, fun i y hy => Lo.in_iff.2 fun s hs => ?_⟩
    · rw [Lo.fv_eq, List.mem_append]
      exact .inl (List.mem_flatMap.2 ⟨y, hy, need_mem.2 ⟨hs, by simp⟩⟩)
    · have hil := (List.getElem?_eq_some_iff.1 hy).1
      rw [subN_mem (fun hk => by rw [ns_le h hk]; exact hil)]
      by_cases hb : s ∈ bdAt x i []
      · exact .inr hb
      · refine .inl (hall s ?_)
        rw [Lo.fv_eq, List.mem_append, hfvs]
        exact .inr ⟨i, y, hy, by rw [Nat.zero_add]; exact (Lo.fv_bd' y _ s).2 ⟨hs, hb⟩⟩
  · rintro ⟨h1, h2⟩ s hs
    rw [Lo.fv_eq, List.mem_append, hfvs] at hs
    rcases hs with hs | ⟨i, y, hy, hs⟩
    · obtain ⟨y, hy, hs⟩ := List.mem_flatMap.1 hs
      exact Ex.in_iff.1 (h1 y hy) s (need_mem.1 hs).1
    · rw [Nat.zero_add] at hs
      obtain ⟨h3, h4⟩ := (Lo.fv_bd' y _ s).1 hs
      have hil := (List.getElem?_eq_some_iff.1 hy).1
      have h5 := Lo.in_iff.1 (h2 i y hy) s h3
      rw [subN_mem (fun hk => by rw [ns_le h hk]; exact hil)] at h5
      exact h5.elim id (fun h' => absurd h' h4)
end Go.Proofs.YtainigjbjfpoaaaGreatDoor
