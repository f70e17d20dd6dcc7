/- logic.named, exprs, first. -/
import Derived.Test.YtainigjbjfpoaaaGreatDoorCUn
namespace Go.Proofs.YtainigjbjfpoaaaGreatDoor
open Go.RowKit Go.Shelf Go.Maps

theorem named1_calls (P : Pers) (G : Glob P) (s : ByteArray) (w : World) (hz : s.size ≤ maxStr) (hs : Sat P w) : Calls Tryz.prog 96 #[.string s] w fun e w' => e = .returned (.bool (!right s)) ∧ Below w.heap.size w w' := by
  go_enter Tryz.func96, Tryz.ntmps96
  go_wp2_with (go_at_call 53; refine (right_calls P G s _ hz hs).mono ?_; rintro e w' ⟨rfl, hb⟩)
  go_ret
  exact ⟨by simp, hb⟩

/-- what is wrong with names -/
def nameErr (l : List ByteArray) : Nat := if bad l then 6 else if twice l then 8 else 0

set_option maxRecDepth 100000 in
set_option maxHeartbeats 1000000 in
theorem named_calls (P : Pers) (G : Glob P) (A : Option Addr) (c : Nat) (l : List ByteArray) (w : World) (hl : Strs P A l) (hs : Sat P w) :
    Calls Tryz.prog 65 #[.slice A l.length c] w fun e w' => e = .returned (.int .i64 (nameErr l)) ∧ Below w.heap.size w w' := by
  have HC : As (∀ w, Sat P w → Calls Tryz.prog 95 #[.slice A l.length c, .func (.func 96) #[] #[]] w fun e w' => e = .returned (.bool (bad l)) ∧ Below w.heap.size w w') :=
    ⟨fun w h => containsFuncStr_calls P (fun s => !right s) 96 #[] A c l w hl h (enters_of Tryz.func96 (by kernel_rfl) rfl) (fun y w' _ hy hs' => named1_calls P G y w' hy hs')⟩
  have hlen := hl.len
  have HL := As.mk hl
  have HS := As.mk hs
  have HQ := As.mk (nameErr.eq_1 l)
  have HT := As.mk (twice.eq_1 l)
  clear hl hs
  cases hb : bad l
  · rw [hb] at HC HQ
    generalize twice l = tw at *
    go_enter Tryz.func65, Tryz.ntmps65
    by_cases hlt : (srtc l).length < l.length
    · have hT := As.mk (HT.out.trans (decide_eq_true hlt))
      go_wp2_with (first
        | (go_at_call 95; refine (HC.out _ HS.out).mono ?_; rintro e w3 ⟨rfl, hb3⟩)
        | (go_at_call 56; refine (values_calls2 _ _ _ _).mono ?_; rintro e w4 ⟨Bs, rfl, hBs, hcB, hb4⟩)
        | (go_at_call 54; refine (compact_calls _ v l hlen _ hrow).mono ?_; rintro e w6 ⟨a6, cp6, rfl, hst6, hbl6⟩)
        | (go_at_call 55; refine (sorted_calls Bs c A l hlen _ hBs hcB (StrsAt.of HL.out ((HS.out.below hb3).below hb4))).mono ?_; rintro e w5 ⟨v, rfl, hrow, hb5⟩))
      go_ret
      exact ⟨by rw [HQ.out, hT.out]; rfl, (Below.then (Below.then hb3 hb4) ((hbl6 _ hb5)))⟩
    · have hT := As.mk (HT.out.trans (decide_eq_false hlt))
      go_wp2_with (first
        | (go_at_call 95; refine (HC.out _ HS.out).mono ?_; rintro e w3 ⟨rfl, hb3⟩)
        | (go_at_call 56; refine (values_calls2 _ _ _ _).mono ?_; rintro e w4 ⟨Bs, rfl, hBs, hcB, hb4⟩)
        | (go_at_call 54; refine (compact_calls _ v l hlen _ hrow).mono ?_; rintro e w6 ⟨a6, cp6, rfl, hst6, hbl6⟩)
        | (go_at_call 55; refine (sorted_calls Bs c A l hlen _ hBs hcB (StrsAt.of HL.out ((HS.out.below hb3).below hb4))).mono ?_; rintro e w5 ⟨v, rfl, hrow, hb5⟩))
      go_ret
      exact ⟨by rw [HQ.out, hT.out]; rfl, (Below.then (Below.then hb3 hb4) ((hbl6 _ hb5)))⟩
  · rw [hb] at HC HQ
    go_enter Tryz.func65, Tryz.ntmps65
    go_wp2_with (go_at_call 95; refine (HC.out _ HS.out).mono ?_; rintro e w3 ⟨rfl, hb3⟩)
    go_ret
    exact ⟨by rw [HQ.out]; rfl, hb3⟩

/-- what is wrong with one that may be no test -/
def expErr (x : Ex) : Nat := if exErr x = 0 then (if x.k = 19 then 17 else 0) else exErr x

set_option maxRecDepth 100000 in
set_option maxHeartbeats 1000000 in
theorem exprs_calls (P : Pers) (G : Glob P) (A : Option Addr) (c : Nat) (xs : List Ex) (w : World) (h : Exs P A xs) (hs : Sat P w) :
    Calls Tryz.prog 68 #[.slice A xs.length c] w fun e w' => e = .returned (.int .i64 (firstErr expErr xs)) ∧ Below w.heap.size w w' := by
  have HR := As.mk h
  have HS := As.mk hs
  have hlen := h.len
  clear h hs
  go_enter Tryz.func68, Tryz.ntmps68
  go_wp2
  go_loopw [8] (fun i wr => ∃ k : Nat, i = .int .i64 k ∧ k ≤ xs.length ∧ As (Below w.heap.size w wr) ∧ As (Sat P wr) ∧ As (firstErr expErr xs = firstErr expErr (xs.drop k))) (fun i _ => xs.length - (intOf i).toNat)
  case atStart => exact ⟨0, rfl, Nat.zero_le _, ⟨Below.refl _ _⟩, HS, ⟨rfl⟩⟩
  case round =>
    obtain ⟨k, rfl, hk, hBr, hsr, hQ⟩ := hrel
    by_cases hlt : k < xs.length
    · have hd : xs.drop k = xs[k] :: xs.drop (k + 1) := List.drop_eq_getElem_cons hlt
      have hQ2 := hQ.out
      rw [hd, firstErr] at hQ2
      have HQ2 := As.mk hQ2
      obtain ⟨y, hy⟩ : ∃ y, As (xs[k] = y) := ⟨_, ⟨rfl⟩⟩
      rw [hy.out] at HQ2
      obtain ⟨be, oe, B2, d2, B3, d3, rfl, hbe, hry, e0, e1, e2, e3⟩ := HR.out.at hsr.out (i := k) (x := y) (by rw [List.getElem?_eq_getElem hlt, hy.out])
      have IY := As.mk (fun W hs => exCheck_calls P G y _ W hry hs)
      have HE := As.mk (expErr.eq_1 y)
      have hzy : wr.heap.size < (wr.alloc (.cells #[.int .i64 y.k, .string y.s, .slice B2 y.ns.length d2, .slice B3 y.l.length d3] 25)).heap.size := by simp
      have hky : As ((wr.alloc (.cells #[.int .i64 y.k, .string y.s, .slice B2 y.ns.length d2, .slice B3 y.l.length d3] 25)).cell? ⟨wr.heap.size, 0, none⟩ = some (.int .i64 y.k)) := ⟨World.cell?_alloc_mark ..⟩
      clear hd hQ2 hQ hry
      by_cases hv : exErr y = 0
      · rw [hv] at IY
        have HE1 := As.mk (HE.out.trans (if_pos hv))
        clear HE hv
        by_cases h19 : y.k = 19
        · have q : (y.k == 19) = true := beq_iff_eq.2 h19
          have HE2 := As.mk (HE1.out.trans (if_pos h19))
          clear h19
          have HV := As.mk (HQ2.out.trans (if_neg (by rw [HE2.out]; decide)))
          clear HQ2
          go_wp2_with (go_at_call 97; refine (IY.out _ (hsr.out.alloc _)).mono ?_; rintro e w2 ⟨rfl, hb2⟩; have ky := (bcell hb2 _ _ hzy).trans hky.out)
          go_ret
          exact ⟨by rw [HV.out, HE2.out]; rfl, hBr.out.trans ((Below.then ((Below.refl _ wr).alloc (Nat.le_refl _) _) hb2).mono hBr.out.size)⟩
        · have q : (y.k == 19) = false := beq_eq_false_iff_ne.2 h19
          have HE2 := As.mk (HE1.out.trans (if_neg h19))
          clear h19
          have HV := As.mk (HQ2.out.trans (if_pos HE2.out))
          clear HQ2
          go_wp2_with (go_at_call 97; refine (IY.out _ (hsr.out.alloc _)).mono ?_; rintro e w2 ⟨rfl, hb2⟩; have ky := (bcell hb2 _ _ hzy).trans hky.out)
          have hb3 := Below.then ((Below.refl _ wr).alloc (Nat.le_refl _) _) hb2
          go_roundw
          case rel => exact ⟨k + 1, by go_num, by omega, ⟨hBr.out.trans (hb3.mono hBr.out.size)⟩, ⟨hsr.out.below hb3⟩, HV⟩
          case measure => simp [intOf]; omega
      · have h0' : ((exErr y : Int) != 0) = true := by rw [bne_iff_ne]; omega
        have HE1 := As.mk (HE.out.trans (if_neg hv))
        have HV := As.mk (HQ2.out.trans (if_neg (by rw [HE1.out]; exact hv)))
        clear HQ2 hv HE
        generalize exErr y = v at *
        go_wp2_with (go_at_call 97; refine (IY.out _ (hsr.out.alloc _)).mono ?_; rintro e w2 ⟨rfl, hb2⟩)
        go_ret
        exact ⟨by rw [HV.out, HE1.out]; rfl, hBr.out.trans ((Below.then ((Below.refl _ wr).alloc (Nat.le_refl _) _) hb2).mono hBr.out.size)⟩
    · obtain rfl : k = xs.length := by omega
      have HE := As.mk (show firstErr expErr xs = 0 by rw [hQ.out, List.drop_length, firstErr])
      clear hQ
      go_wp2
      go_ret
      exact ⟨by rw [HE.out]; rfl, hBr.out⟩
end Go.Proofs.YtainigjbjfpoaaaGreatDoor
