/- package number: digits, canon, check, Read, Text. -/
/- number.Read. -/
/- number.Text, expr.canonical. -/
import Derived.Test.YtainigjbjfpoaaaGreatDoorCUtf2
import Derived.Test.YtainigjbjfpoaaaGreatDoorShelf
import Derived.Test.YtainigjbjfpoaaaGreatDoorCSlices
import Derived.StillTailTactics
import Derived.Deep.QuietTactic
import Derived.BigQuiet
import Derived.Test.YtainigjbjfpoaaaGreatDoorCUtf
import Derived.Deep.RegionHeld3
namespace Go.Proofs.YtainigjbjfpoaaaGreatDoor
open Go.RowKit

def dig (b : UInt8) : Bool := decide (48 ≤ b.toNat) && decide (b.toNat ≤ 57)
def digits (s : ByteArray) : Bool := s.data.toList.all dig && decide (s.size ≠ 0)

set_option maxHeartbeats 1000000 in
theorem digits_calls (s : ByteArray) (w : World) (hz : s.size ≤ 9223372036854775807) : Calls Tryz.prog 181 #[.string s] w fun e w' => e = .returned (.bool (digits s)) ∧ w = w' := by
  go_enter Tryz.func181, Tryz.ntmps181
  go_wp2
  go_loopw [6] (fun i wr => ∃ k : Nat, i = .int .i64 k ∧ k ≤ s.size ∧ As (digits s = ((s.data.toList.drop k).all dig && decide (s.size ≠ 0))) ∧ w = wr) (fun i _ => s.size - (intOf i).toNat)
  case atStart => exact ⟨0, rfl, Nat.zero_le _, ⟨rfl⟩, rfl⟩
  case round =>
    obtain ⟨k, rfl, hk, hD, rfl⟩ := hrel
    by_cases hlt : k < s.size
    · have hd : s.data.toList.drop k = s[k] :: s.data.toList.drop (k + 1) := by
        rw [List.drop_eq_getElem_cons (by simpa using hlt), Array.getElem_toList]
        rfl
      have hD2 := hD.out
      rw [hd, List.all_cons] at hD2
      have HD := As.mk hD2
      clear hD hD2 hd
      go_wp2
      · rename_i h1 h2
        have hdg : dig s[k] = false := by simp [dig]; omega
        go_ret
        exact ⟨by rw [HD.out, hdg]; rfl, rfl⟩
      · rename_i h1 h2
        have hdg : dig s[k] = true := by simp [dig]; omega
        exact ⟨⟨k + 1, by simp, by omega, ⟨by rw [HD.out, hdg, Bool.true_and]⟩, trivial⟩, by simp [intOf]; omega⟩
      · rename_i h1
        have hdg : dig s[k] = false := by simp [dig]; omega
        go_ret
        exact ⟨by rw [HD.out, hdg]; rfl, rfl⟩
    · obtain rfl : k = s.size := by omega
      have hD2 := hD.out
      rw [List.drop_eq_nil_of_le (by simp), List.all_nil, Bool.true_and] at hD2
      have HD := As.mk hD2
      clear hD2 hD
      go_wp2
      go_ret
      exact ⟨by rw [HD.out]; exact congrArg (fun b => Ending.returned (Value.bool b)) (size_nonempty s), rfl⟩

def trimL (s : ByteArray) : ByteArray := ⟨(Lib.trimLeftB s.data.toList 48).toArray⟩
def trimR (s : ByteArray) : ByteArray := ⟨(Lib.trimRightB s.data.toList 48).toArray⟩
def nought : ByteArray := ⟨#[48]⟩
/-- a number in its one form -/
def canon (s : ByteArray) (k : Nat) : ByteArray × Nat :=
  if (trimL s).size = 0 then (nought, 0) else
  ((trimL s).extract 0 ((trimL s).size - min ((trimL s).size - (trimR (trimL s)).size) k), k - min ((trimL s).size - (trimR (trimL s)).size) k)
theorem dropWhile_le {α : Type} (p : α → Bool) (l : List α) : (l.dropWhile p).length ≤ l.length := (List.dropWhile_sublist p).length_le
theorem trimL_le (s : ByteArray) : (trimL s).size ≤ s.size := by
  show (Lib.trimLeftB s.data.toList 48).toArray.size ≤ s.data.size
  rw [List.size_toArray, ← Array.length_toList]
  exact dropWhile_le _ _
theorem trimR_le (s : ByteArray) : (trimR s).size ≤ s.size := by
  show (Lib.trimRightB s.data.toList 48).toArray.size ≤ s.data.size
  rw [List.size_toArray, ← Array.length_toList]
  refine Nat.le_trans (by unfold Lib.trimRightB; rw [List.length_reverse]; exact dropWhile_le _ _) (Nat.le_of_eq (List.length_reverse ..))

set_option maxRecDepth 100000 in
set_option maxHeartbeats 1000000 in
theorem canon_calls (s : ByteArray) (k : Nat) (w : World) (hz : s.size ≤ maxStr) (hk : k ≤ maxStr) : Calls Tryz.prog 182 #[.agg #[.string s, .int .i64 k]] w fun e w' => e = .returned (.agg #[.string (canon s k).1, .int .i64 (canon s k).2]) ∧ Below w.heap.size w w' := by
  have hz1 : s.size ≤ 1073741824 := hz
  have hk1 : k ≤ 1073741824 := hk
  have h1 := trimL_le s
  have h2 := trimR_le (trimL s)
  have HC := As.mk (canon.eq_1 s k)
  have hL := As.mk (fun w => Tryz.strings_TrimLeft_one s 48 (by decide) w)
  have hR := As.mk (fun w => Tryz.strings_TrimRight_one (trimL s) 48 (by decide) w (by omega))
  change As (∀ w, Calls Tryz.prog 195 #[.string s, .string ⟨#[48]⟩] w fun e w' => e = .returned (.string (trimL s)) ∧ w' = w) at hL
  change As (∀ w, Calls Tryz.prog 196 #[.string (trimL s), .string ⟨#[48]⟩] w fun e w' => e = .returned (.string (trimR (trimL s))) ∧ w' = w) at hR
  generalize trimL s = t at *
  generalize trimR t = u at *
  obtain ⟨c, hc⟩ : ∃ c, c = min (t.size - u.size) k := ⟨_, rfl⟩
  rw [← hc] at HC
  have hc1 : min ((t.size : Int) - (u.size : Int)) (k : Int) = (c : Int) := by omega
  have hc2 : c ≤ k := by omega
  have hc3 : c ≤ t.size := by omega
  clear hc
  by_cases ht : t.size = 0
  · rw [if_pos ht] at HC
    have he : t.toList.isEmpty = true := by have := size_nonempty t; rw [ht] at this; simpa using this
    go_enter Tryz.func182, Tryz.ntmps182
    go_wp2_with (go_at_call 195; refine (hL.out _).mono ?_; rintro e w' ⟨rfl, rfl⟩)
    exact bodyPost_ret (v := .agg #[.string nought, .int .i64 0]) (by simp [results, Tryz.results182, go_sem, nought]) rfl ⟨by rw [HC.out]; rfl, ((Below.refl _ _).alloc (Nat.le_refl _) _).alloc (by simp) _⟩
  · rw [if_neg ht] at HC
    have he : t.toList.isEmpty = false := by have := size_nonempty t; simpa [ht] using this
    go_enter Tryz.func182, Tryz.ntmps182
    go_wp2_with (first | (go_at_call 195; refine (hL.out _).mono ?_; rintro e w' ⟨rfl, rfl⟩) | (go_at_call 196; refine (hR.out _).mono ?_; rintro e w' ⟨rfl, rfl⟩))
    have e1 : IntKind.i64.wrap ((t.size : Int) - (c : Int)) = (t.size : Int) - (c : Int) := IntWalk.i64_in _ (by omega)
    have e2 : IntKind.i64.wrap ((k : Int) - (c : Int)) = (k : Int) - (c : Int) := IntWalk.i64_in _ (by omega)
    have e3 : (0 : Int) ≤ (t.size : Int) - (c : Int) := by omega
    have e4 : (t.size : Int) - (c : Int) ≤ (t.size : Int) := by omega
    have e5 : ((t.size : Int) - (c : Int)).toNat = t.size - c := by omega
    refine wp_region_still_tail 11 (by kernel_rfl) (by kernel_rfl) ?_
    change wpStill _ _ (World.drew _) (fun a' => wpList _ _ _ _ a' (World.drew _)) _ _
    simp only [List.take_succ_cons, List.take_zero, List.drop_succ_cons, List.drop_zero]
    repeat still_step
    refine wpStill_nil ?_
    clear e1 e2 e3 e4 e5
    go_wp2
    have e6 : (k : Int) - (c : Int) = ((k - c : Nat) : Int) := by omega
    exact bodyPost_ret (v := .agg #[.string (t.extract 0 (t.size - c)), .int .i64 (k - c)]) (by simp [results, Tryz.results182, go_sem]) rfl ⟨by rw [HC.out, e6], (((Below.refl _ _).alloc (Nat.le_refl _) _).alloc (by simp) _).drew⟩

/-- may these be a number's fields? -/
def numOk (s : ByteArray) (k : Nat) : Prop := digits s = true ∧ s.size ≤ 1000 ∧ k ≤ 1000

set_option maxRecDepth 100000 in
theorem check_calls (s : ByteArray) (k : Nat) (w : World) (h : numOk s k) : Calls Tryz.prog 183 #[.agg #[.string s, .int .i64 k]] w fun e w' => e = .returned .nilIface ∧ Below w.heap.size w w' := by
  obtain ⟨h1, h2, h3⟩ := h
  have HD := As.mk (fun w => digits_calls s w (by omega))
  rw [h1] at HD
  clear h1
  go_enter Tryz.func183, Tryz.ntmps183
  go_wp2_with (go_at_call 181; refine (HD.out _).mono ?_; rintro e w' ⟨rfl, rfl⟩)
  go_ret
  exact ⟨rfl, (Below.refl _ _).alloc (Nat.le_refl _) _⟩
end Go.Proofs.YtainigjbjfpoaaaGreatDoor

namespace Go.Proofs.YtainigjbjfpoaaaGreatDoor
open Go.RowKit

def cutW (s : ByteArray) : ByteArray := ⟨(Lib.cut s.data.toList [46]).1.toArray⟩
def cutP (s : ByteArray) : ByteArray := ⟨(Lib.cut s.data.toList [46]).2.1.toArray⟩
def cutB (s : ByteArray) : Bool := (Lib.cut s.data.toList [46]).2.2
theorem cut_sizes (s : ByteArray) : (cutW s).size + (cutP s).size ≤ s.size := by
  have h : (Lib.cut s.data.toList [46]).1.length + (Lib.cut s.data.toList [46]).2.1.length ≤ s.data.toList.length := by
    unfold Lib.cut
    split
    · simp only [List.length_take, List.length_drop]; omega
    · simp
  rw [Array.length_toList] at h
  show (Lib.cut s.data.toList [46]).1.toArray.size + (Lib.cut s.data.toList [46]).2.1.toArray.size ≤ s.data.size
  rw [List.size_toArray, List.size_toArray]
  exact h

/-- which error Read tells -/
def readErr (s : ByteArray) : Nat :=
  if ((!digits (cutW s)) && (decide ((cutW s).size ≠ 0) || !cutB s)) || (cutB s && !digits (cutP s)) then 17
  else if 1000 < (cutW s).size + (cutP s).size then 19 else 0
/-- the number that it reads -/
def readNum (s : ByteArray) : ByteArray × Nat := if readErr s = 0 then canon (cutW s ++ cutP s) (cutP s).size else (⟨#[]⟩, 0)

set_option maxRecDepth 100000 in
set_option maxHeartbeats 8000000 in
theorem read_calls (P : Pers) (G : Glob P) (s : ByteArray) (w : World) (hz : s.size ≤ maxStr) (hs : Sat P w) : Calls Tryz.prog 167 #[.string s] w fun e w' =>
    e = .returned (.tuple #[.agg #[.string (readNum s).1, .int .i64 (readNum s).2], .int .i64 (readErr s)]) ∧ Below w.heap.size w w' := by
  obtain ⟨m, hm⟩ := G.m
  have hz1 : s.size ≤ 1073741824 := hz
  have hc0 := cut_sizes s
  have hC := As.mk (fun w (h : Sat P w) => Tryz.strings_Cut s ⟨#[46]⟩ m w (by omega) (h _ _ hm))
  change As (∀ w, Sat P w → Calls Tryz.prog 180 #[.string s, .string ⟨#[46]⟩] w fun e w' => e = .returned (.tuple #[.string (cutW s), .string (cutP s), .bool (cutB s)]) ∧ ∃ n, w' = w.drewN n) at hC
  have hK := As.mk (fun w => canon_calls (cutW s ++ cutP s) (cutP s).size w (by rw [ByteArray.size_append]; exact Nat.le_trans hc0 hz) (Nat.le_trans (by omega) hz))
  have hE := As.mk (readErr.eq_1 s)
  have hN := As.mk (readNum.eq_1 s)
  have hea := size_nonempty (cutW s)
  generalize cutW s = a at *
  generalize cutP s = b at *
  generalize cutB s = p at *
  cases hda : digits a
  · by_cases hz0 : a.size = 0
    · have hea1 : a.toList.isEmpty = true := by rw [hz0] at hea; simpa using hea
      clear hea
      cases p
      · rw [hda] at hE
        have hE1 := As.mk (show readErr s = 17 by rw [hE.out]; simp [hz0])
        have hN1 := As.mk (show readNum s = (⟨#[]⟩, 0) by rw [hN.out, if_neg (by rw [hE1.out]; decide)])
        clear hE hN
        go_enter Tryz.func167, Tryz.ntmps167
        go_wp2_with (first | (go_at_call 180; refine (hC.out _ (by first | assumption | ((repeat apply Sat.alloc); assumption))).mono ?_; rintro e w' ⟨rfl, n, rfl⟩) | (go_at_call 181; refine (digits_calls _ _ (by omega)).mono ?_; rintro e w' ⟨rfl, rfl⟩; first | rw [hda] | rw [hdb]) | (go_at_call 182; refine (hK.out _).mono ?_; rintro e w2 ⟨rfl, hb2⟩; have hc2 := bcell hb2; have hf2 := bfroz hb2))
        exact bodyPost_ret (v := .tuple #[.agg #[.string ⟨#[]⟩, .int .i64 0], .int .i64 17]) (by simp [results, Tryz.results167, go_sem]) rfl ⟨by rw [hN1.out, hE1.out]; rfl, ((pw_below_drewN' ((Below.refl _ _).alloc (Nat.le_refl _) _) _).setCell (by simp) _).setCell (by simp) _⟩
      · cases hdb : digits b
        · rw [hda] at hE
          rw [hdb] at hE
          have hE1 := As.mk (show readErr s = 17 by rw [hE.out]; simp [hz0])
          have hN1 := As.mk (show readNum s = (⟨#[]⟩, 0) by rw [hN.out, if_neg (by rw [hE1.out]; decide)])
          clear hE hN
          go_enter Tryz.func167, Tryz.ntmps167
          go_wp2_with (first | (go_at_call 180; refine (hC.out _ (by first | assumption | ((repeat apply Sat.alloc); assumption))).mono ?_; rintro e w' ⟨rfl, n, rfl⟩) | (go_at_call 181; refine (digits_calls _ _ (by omega)).mono ?_; rintro e w' ⟨rfl, rfl⟩; first | rw [hda] | rw [hdb]) | (go_at_call 182; refine (hK.out _).mono ?_; rintro e w2 ⟨rfl, hb2⟩; have hc2 := bcell hb2; have hf2 := bfroz hb2))
          exact bodyPost_ret (v := .tuple #[.agg #[.string ⟨#[]⟩, .int .i64 0], .int .i64 17]) (by simp [results, Tryz.results167, go_sem]) rfl ⟨by rw [hN1.out, hE1.out]; rfl, ((pw_below_drewN' ((Below.refl _ _).alloc (Nat.le_refl _) _) _).setCell (by simp) _).setCell (by simp) _⟩
        · rw [hda] at hE
          rw [hdb] at hE
          by_cases hl : 1000 < a.size + b.size
          · have hE1 := As.mk (show readErr s = 19 by rw [hE.out, if_neg (by simp [hz0]), if_pos hl])
            have hN1 := As.mk (show readNum s = (⟨#[]⟩, 0) by rw [hN.out, if_neg (by rw [hE1.out]; decide)])
            clear hE hN
            go_enter Tryz.func167, Tryz.ntmps167
            go_wp2_with (first | (go_at_call 180; refine (hC.out _ (by first | assumption | ((repeat apply Sat.alloc); assumption))).mono ?_; rintro e w' ⟨rfl, n, rfl⟩) | (go_at_call 181; refine (digits_calls _ _ (by omega)).mono ?_; rintro e w' ⟨rfl, rfl⟩; first | rw [hda] | rw [hdb]) | (go_at_call 182; refine (hK.out _).mono ?_; rintro e w2 ⟨rfl, hb2⟩; have hc2 := bcell hb2; have hf2 := bfroz hb2))
            exact bodyPost_ret (v := .tuple #[.agg #[.string ⟨#[]⟩, .int .i64 0], .int .i64 19]) (by simp [results, Tryz.results167, go_sem]) rfl ⟨by rw [hN1.out, hE1.out]; rfl, ((pw_below_drewN' ((Below.refl _ _).alloc (Nat.le_refl _) _) _).setCell (by simp) _).setCell (by simp) _⟩
          · have hE1 := As.mk (show readErr s = 0 by rw [hE.out, if_neg (by simp [hz0]), if_neg hl])
            have hN1 := As.mk (show readNum s = canon (a ++ b) b.size by rw [hN.out, if_pos hE1.out])
            clear hE hN
            go_enter Tryz.func167, Tryz.ntmps167
            go_wp2_with (first | (go_at_call 180; refine (hC.out _ (by first | assumption | ((repeat apply Sat.alloc); assumption))).mono ?_; rintro e w' ⟨rfl, n, rfl⟩) | (go_at_call 181; refine (digits_calls _ _ (by omega)).mono ?_; rintro e w' ⟨rfl, rfl⟩; first | rw [hda] | rw [hdb]) | (go_at_call 182; refine (hK.out _).mono ?_; rintro e w2 ⟨rfl, hb2⟩; have hc2 := bcell hb2; have hf2 := bfroz hb2))
            exact bodyPost_ret (v := .tuple #[.agg #[.string (canon (a ++ b) b.size).1, .int .i64 (canon (a ++ b) b.size).2], .int .i64 0]) (by simp [results, Tryz.results167, go_sem, hc2]) rfl ⟨by rw [hN1.out, hE1.out]; rfl, (((pw_below_drewN' ((Below.refl _ _).alloc (Nat.le_refl _) _) _).trans (hb2.mono (by simp))).setCell (by simp) _).setCell (by simp) _⟩
    · have hea1 : a.toList.isEmpty = false := by simpa [hz0] using hea
      clear hea
      rw [hda] at hE
      have hE1 := As.mk (show readErr s = 17 by rw [hE.out]; simp [hz0])
      have hN1 := As.mk (show readNum s = (⟨#[]⟩, 0) by rw [hN.out, if_neg (by rw [hE1.out]; decide)])
      clear hE hN
      go_enter Tryz.func167, Tryz.ntmps167
      go_wp2_with (first | (go_at_call 180; refine (hC.out _ (by first | assumption | ((repeat apply Sat.alloc); assumption))).mono ?_; rintro e w' ⟨rfl, n, rfl⟩) | (go_at_call 181; refine (digits_calls _ _ (by omega)).mono ?_; rintro e w' ⟨rfl, rfl⟩; first | rw [hda] | rw [hdb]) | (go_at_call 182; refine (hK.out _).mono ?_; rintro e w2 ⟨rfl, hb2⟩; have hc2 := bcell hb2; have hf2 := bfroz hb2))
      exact bodyPost_ret (v := .tuple #[.agg #[.string ⟨#[]⟩, .int .i64 0], .int .i64 17]) (by simp [results, Tryz.results167, go_sem]) rfl ⟨by rw [hN1.out, hE1.out]; rfl, ((pw_below_drewN' ((Below.refl _ _).alloc (Nat.le_refl _) _) _).setCell (by simp) _).setCell (by simp) _⟩
  · clear hea
    cases p
    · rw [hda] at hE
      by_cases hl : 1000 < a.size + b.size
      · have hE1 := As.mk (show readErr s = 19 by rw [hE.out, if_neg (by simp), if_pos hl])
        have hN1 := As.mk (show readNum s = (⟨#[]⟩, 0) by rw [hN.out, if_neg (by rw [hE1.out]; decide)])
        clear hE hN
        go_enter Tryz.func167, Tryz.ntmps167
        go_wp2_with (first | (go_at_call 180; refine (hC.out _ (by first | assumption | ((repeat apply Sat.alloc); assumption))).mono ?_; rintro e w' ⟨rfl, n, rfl⟩) | (go_at_call 181; refine (digits_calls _ _ (by omega)).mono ?_; rintro e w' ⟨rfl, rfl⟩; first | rw [hda] | rw [hdb]) | (go_at_call 182; refine (hK.out _).mono ?_; rintro e w2 ⟨rfl, hb2⟩; have hc2 := bcell hb2; have hf2 := bfroz hb2))
        exact bodyPost_ret (v := .tuple #[.agg #[.string ⟨#[]⟩, .int .i64 0], .int .i64 19]) (by simp [results, Tryz.results167, go_sem]) rfl ⟨by rw [hN1.out, hE1.out]; rfl, ((pw_below_drewN' ((Below.refl _ _).alloc (Nat.le_refl _) _) _).setCell (by simp) _).setCell (by simp) _⟩
      · have hE1 := As.mk (show readErr s = 0 by rw [hE.out, if_neg (by simp), if_neg hl])
        have hN1 := As.mk (show readNum s = canon (a ++ b) b.size by rw [hN.out, if_pos hE1.out])
        clear hE hN
        go_enter Tryz.func167, Tryz.ntmps167
        go_wp2_with (first | (go_at_call 180; refine (hC.out _ (by first | assumption | ((repeat apply Sat.alloc); assumption))).mono ?_; rintro e w' ⟨rfl, n, rfl⟩) | (go_at_call 181; refine (digits_calls _ _ (by omega)).mono ?_; rintro e w' ⟨rfl, rfl⟩; first | rw [hda] | rw [hdb]) | (go_at_call 182; refine (hK.out _).mono ?_; rintro e w2 ⟨rfl, hb2⟩; have hc2 := bcell hb2; have hf2 := bfroz hb2))
        exact bodyPost_ret (v := .tuple #[.agg #[.string (canon (a ++ b) b.size).1, .int .i64 (canon (a ++ b) b.size).2], .int .i64 0]) (by simp [results, Tryz.results167, go_sem, hc2]) rfl ⟨by rw [hN1.out, hE1.out]; rfl, (((pw_below_drewN' ((Below.refl _ _).alloc (Nat.le_refl _) _) _).trans (hb2.mono (by simp))).setCell (by simp) _).setCell (by simp) _⟩
    · cases hdb : digits b
      · rw [hda] at hE
        rw [hdb] at hE
        have hE1 := As.mk (show readErr s = 17 by rw [hE.out]; simp)
        have hN1 := As.mk (show readNum s = (⟨#[]⟩, 0) by rw [hN.out, if_neg (by rw [hE1.out]; decide)])
        clear hE hN
        go_enter Tryz.func167, Tryz.ntmps167
        go_wp2_with (first | (go_at_call 180; refine (hC.out _ (by first | assumption | ((repeat apply Sat.alloc); assumption))).mono ?_; rintro e w' ⟨rfl, n, rfl⟩) | (go_at_call 181; refine (digits_calls _ _ (by omega)).mono ?_; rintro e w' ⟨rfl, rfl⟩; first | rw [hda] | rw [hdb]) | (go_at_call 182; refine (hK.out _).mono ?_; rintro e w2 ⟨rfl, hb2⟩; have hc2 := bcell hb2; have hf2 := bfroz hb2))
        exact bodyPost_ret (v := .tuple #[.agg #[.string ⟨#[]⟩, .int .i64 0], .int .i64 17]) (by simp [results, Tryz.results167, go_sem]) rfl ⟨by rw [hN1.out, hE1.out]; rfl, ((pw_below_drewN' ((Below.refl _ _).alloc (Nat.le_refl _) _) _).setCell (by simp) _).setCell (by simp) _⟩
      · rw [hda] at hE
        rw [hdb] at hE
        by_cases hl : 1000 < a.size + b.size
        · have hE1 := As.mk (show readErr s = 19 by rw [hE.out, if_neg (by simp), if_pos hl])
          have hN1 := As.mk (show readNum s = (⟨#[]⟩, 0) by rw [hN.out, if_neg (by rw [hE1.out]; decide)])
          clear hE hN
          go_enter Tryz.func167, Tryz.ntmps167
          go_wp2_with (first | (go_at_call 180; refine (hC.out _ (by first | assumption | ((repeat apply Sat.alloc); assumption))).mono ?_; rintro e w' ⟨rfl, n, rfl⟩) | (go_at_call 181; refine (digits_calls _ _ (by omega)).mono ?_; rintro e w' ⟨rfl, rfl⟩; first | rw [hda] | rw [hdb]) | (go_at_call 182; refine (hK.out _).mono ?_; rintro e w2 ⟨rfl, hb2⟩; have hc2 := bcell hb2; have hf2 := bfroz hb2))
          exact bodyPost_ret (v := .tuple #[.agg #[.string ⟨#[]⟩, .int .i64 0], .int .i64 19]) (by simp [results, Tryz.results167, go_sem]) rfl ⟨by rw [hN1.out, hE1.out]; rfl, ((pw_below_drewN' ((Below.refl _ _).alloc (Nat.le_refl _) _) _).setCell (by simp) _).setCell (by simp) _⟩
        · have hE1 := As.mk (show readErr s = 0 by rw [hE.out, if_neg (by simp), if_neg hl])
          have hN1 := As.mk (show readNum s = canon (a ++ b) b.size by rw [hN.out, if_pos hE1.out])
          clear hE hN
          go_enter Tryz.func167, Tryz.ntmps167
          go_wp2_with (first | (go_at_call 180; refine (hC.out _ (by first | assumption | ((repeat apply Sat.alloc); assumption))).mono ?_; rintro e w' ⟨rfl, n, rfl⟩) | (go_at_call 181; refine (digits_calls _ _ (by omega)).mono ?_; rintro e w' ⟨rfl, rfl⟩; first | rw [hda] | rw [hdb]) | (go_at_call 182; refine (hK.out _).mono ?_; rintro e w2 ⟨rfl, hb2⟩; have hc2 := bcell hb2; have hf2 := bfroz hb2))
          exact bodyPost_ret (v := .tuple #[.agg #[.string (canon (a ++ b) b.size).1, .int .i64 (canon (a ++ b) b.size).2], .int .i64 0]) (by simp [results, Tryz.results167, go_sem, hc2]) rfl ⟨by rw [hN1.out, hE1.out]; rfl, (((pw_below_drewN' ((Below.refl _ _).alloc (Nat.le_refl _) _) _).trans (hb2.mono (by simp))).setCell (by simp) _).setCell (by simp) _⟩
end Go.Proofs.YtainigjbjfpoaaaGreatDoor

namespace Go.Proofs.YtainigjbjfpoaaaGreatDoor
open Go.RowKit

def point : ByteArray := ⟨#[46]⟩
def noughts (n : Nat) : ByteArray := ⟨(Lib.repeatL [48] n).toArray⟩
theorem noughts_size (n : Nat) : (noughts n).size = n := by
  show (Lib.repeatL [48] n).toArray.size = n
  rw [List.size_toArray, Lib.repeatL_length]
  simp
/-- a number's text -/
def numText (d : ByteArray) (k : Nat) : ByteArray :=
  if (canon d k).2 = 0 then (canon d k).1 else
  (noughts ((canon d k).2 + 1 - (canon d k).1.size) ++ (canon d k).1).extract 0 ((noughts ((canon d k).2 + 1 - (canon d k).1.size) ++ (canon d k).1).size - (canon d k).2) ++ point ++
  (noughts ((canon d k).2 + 1 - (canon d k).1.size) ++ (canon d k).1).extract ((noughts ((canon d k).2 + 1 - (canon d k).1.size) ++ (canon d k).1).size - (canon d k).2) (noughts ((canon d k).2 + 1 - (canon d k).1.size) ++ (canon d k).1).size
theorem canon_size (s : ByteArray) (k : Nat) : (canon s k).1.size ≤ s.size + 1 ∧ (canon s k).2 ≤ k := by
  have := trimL_le s
  unfold canon
  split
  · exact ⟨by show 1 ≤ _; omega, Nat.zero_le _⟩
  · exact ⟨by rw [ByteArray.size_extract]; omega, by omega⟩

set_option maxRecDepth 100000 in
set_option maxHeartbeats 2000000 in
theorem text_calls (d : ByteArray) (k : Nat) (w : World) (hok : numOk d k) : Calls Tryz.prog 168 #[.agg #[.string d, .int .i64 k]] w fun e w' =>
    e = .returned (.tuple #[.string (numText d k), .int .i64 0]) ∧ Below w.heap.size w w' := by
  have hK := As.mk (fun w => canon_calls d k w (Nat.le_trans hok.2.1 (by decide)) (Nat.le_trans hok.2.2 (by decide)))
  have hC := As.mk (fun w => check_calls d k w hok)
  have hT := As.mk (numText.eq_1 d k)
  have hS := canon_size d k
  have h2 := hok.2.1
  have h3 := hok.2.2
  generalize canon d k = c at *
  obtain ⟨c, m⟩ := c
  dsimp only at *
  have hm : m ≤ 1000 := by omega
  have hcs : c.size ≤ 1001 := by omega
  clear hS
  by_cases h0 : m = 0
  · subst h0
    have hT1 := As.mk (hT.out.trans (if_pos rfl))
    go_enter Tryz.func168, Tryz.ntmps168
    go_wp2_with (first | (go_at_call 183; go_loud (refine (hC.out _).mono ?_; rintro e w1 ⟨rfl, hb1⟩; have hc1 := bcell hb1; have hf1 := bfroz hb1; have hz1 : w.heap.size < w1.heap.size := (by have := hb1.size; simp at this; omega))) | (go_at_call 182; refine (hK.out _).mono ?_; rintro e w2 ⟨rfl, hb2⟩; have hc2 := bcell hb2; have hf2 := bfroz hb2; have hz2 : w.heap.size < w2.heap.size := (by have := hb2.size; omega)))
    go_ret2
    exact ⟨by rw [hT1.out]; rfl, (((((Below.refl _ _).alloc (Nat.le_refl _) _).trans (hb1.mono (by simp))).trans (hb2.mono (by omega))).setCell (by simp) _).setCell (by simp) _⟩
  · have hT1 := As.mk (hT.out.trans (if_neg h0))
    go_enter Tryz.func168, Tryz.ntmps168
    go_wp2_with (first | (go_at_call 183; go_loud (refine (hC.out _).mono ?_; rintro e w1 ⟨rfl, hb1⟩; have hc1 := bcell hb1; have hf1 := bfroz hb1; have hz1 : w.heap.size < w1.heap.size := (by have := hb1.size; simp at this; omega))) | (go_at_call 182; refine (hK.out _).mono ?_; rintro e w2 ⟨rfl, hb2⟩; have hc2 := bcell hb2; have hf2 := bfroz hb2; have hz2 : w.heap.size < w2.heap.size := (by have := hb2.size; omega)))
    have hB3 : Below w.heap.size w ((w2.setCell ⟨w.heap.size, 0, none⟩ (.string c)).setCell ⟨w.heap.size, 1, none⟩ (.int .i64 m)) := (((((Below.refl _ _).alloc (Nat.le_refl _) _).trans (hb1.mono (by simp))).trans (hb2.mono (by omega))).setCell (by simp) _).setCell (by simp) _
    have h30 : ((w2.setCell ⟨w.heap.size, 0, none⟩ (.string c)).setCell ⟨w.heap.size, 1, none⟩ (.int .i64 m)).cell? ⟨w.heap.size, 0, none⟩ = some (.string c) := by simp [go_sem, hc2, hc1, hz1]
    have h31 : ((w2.setCell ⟨w.heap.size, 0, none⟩ (.string c)).setCell ⟨w.heap.size, 1, none⟩ (.int .i64 m)).cell? ⟨w.heap.size, 1, none⟩ = some (.int .i64 m) := by simp [go_sem, hc2, hc1, hz1]
    generalize (w2.setCell ⟨w.heap.size, 0, none⟩ (.string c)).setCell ⟨w.heap.size, 1, none⟩ (.int .i64 m) = w3 at *
    clear hc1 hc2 hf1 hf2 hb1 hb2 hz1 hz2
    obtain ⟨n, hn⟩ : ∃ n, n = m + 1 - c.size := ⟨_, rfl⟩
    rw [← hn] at hT1
    have e1 : IntKind.i64.wrap ((m : Int) + 1) = (m : Int) + 1 := IntWalk.i64_in _ (by omega)
    have e2 : IntKind.i64.wrap ((m : Int) + 1 - (c.size : Int)) = (m : Int) + 1 - (c.size : Int) := IntWalk.i64_in _ (by omega)
    have e3 : max 0 ((m : Int) + 1 - (c.size : Int)) = (n : Int) := by omega
    have hn1 : n ≤ 1001 := by omega
    clear hn
    have HR := As.mk (fun w => Tryz.strings_Repeat ⟨#[48]⟩ n w (by omega) (by simp [ByteArray.size]; omega))
    change As (∀ w, Calls Tryz.prog 185 #[.string ⟨#[48]⟩, .int .i64 n] w fun e w' => e = .returned (.string (noughts n)) ∧ Below w.heap.size w w') at HR
    have hqs : (noughts n).size ≤ 1001 := by rw [noughts_size]; exact hn1
    have hr1 : (noughts n ++ c).size = n + c.size := by rw [ByteArray.size_append, noughts_size]
    generalize noughts n = q at *
    have hq : ¬ 9223372036854775807 < q.size + c.size := by omega
    have HR1 := As.mk hr1
    clear hr1
    have hz3 : w.heap.size < w3.heap.size := World.block_lt_of_cell? w3 _ h30
    go_region_held3 (fun w' => w'.cell? ⟨w.heap.size, 0, none⟩ = some (.string c) ∧ w'.cell? ⟨w.heap.size, 1, none⟩ = some (.int .i64 m) ∧ Below w.heap.size w w' ∧ w.heap.size < w'.heap.size)
      (first
        | exact ⟨h30, h31, hB3.drew, hz3⟩
        | (go_split_ands
           first
             | (refine ⟨?_, ?_, ?_, ?_⟩ <;> assumption)
             | exact ⟨(hb'.cell (p := ⟨w.heap.size, 0, none⟩) ‹_›).trans ‹_›, (hb'.cell (p := ⟨w.heap.size, 1, none⟩) ‹_›).trans ‹_›, Below.then ‹_› hb', Nat.lt_of_lt_of_le ‹_› hb'.size⟩))
      (first | (go_at_call 185; refine (HR.out _).mono ?_; rintro e w' ⟨rfl, hb'⟩))
    obtain ⟨g0, g1, hB4, hz4⟩ := ‹_ ∧ _›
    generalize q ++ c = r at *
    have hr2 : m ≤ r.size := by have := HR1.out; omega
    have hr3 : r.size ≤ 2002 := by have := HR1.out; omega
    have e4 : IntKind.i64.wrap ((r.size : Int) - (m : Int)) = (r.size : Int) - (m : Int) := IntWalk.i64_in _ (by omega)
    have e5 : (0 : Int) ≤ (r.size : Int) - (m : Int) := by omega
    have e6 : (r.size : Int) - (m : Int) ≤ (r.size : Int) := by omega
    have e7 : ((r.size : Int) - (m : Int)).toNat = r.size - m := by omega
    clear e1 e2 e3
    go_wp2
    go_quiet (fail)
    go_wp2
    go_ret2
    exact ⟨by rw [hT1.out]; rfl, pw_below_drewN' hB4 _⟩

theorem size_list (s : ByteArray) : s.size = s.data.toList.length := by rw [Array.length_toList]; rfl
theorem digits_iff (s : ByteArray) : digits s = true ↔ (∀ b ∈ s.data.toList, dig b = true) ∧ s.size ≠ 0 := by unfold digits; rw [Bool.and_eq_true, List.all_eq_true, decide_eq_true_eq]
theorem dropWhile_mem {α : Type} {p : α → Bool} {l : List α} {x : α} (h : x ∈ l.dropWhile p) : x ∈ l := (List.dropWhile_sublist p).subset h
theorem dropWhile_nil {α : Type} {p : α → Bool} : ∀ {l : List α}, l.dropWhile p = [] → ∀ x ∈ l, p x = true
  | [], _, x, h => by simp at h
  | a :: l, e, x, h => by
    cases hp : p a
    · rw [List.dropWhile_cons, hp] at e; simp at e
    · rw [List.dropWhile_cons, hp] at e
      rcases List.mem_cons.1 h with rfl | h
      · exact hp
      · exact dropWhile_nil (by simpa using e) x h
theorem trimR_pos {l : List UInt8} {c : UInt8} (h : ∃ x ∈ l, x ≠ c) : Lib.trimRightB l c ≠ [] := by
  intro e
  unfold Lib.trimRightB at e
  rw [List.reverse_eq_nil_iff] at e
  obtain ⟨x, hx, hne⟩ := h
  exact hne (by simpa using dropWhile_nil e x (List.mem_reverse.2 hx))
theorem trimL_head {l : List UInt8} {c : UInt8} (h : Lib.trimLeftB l c ≠ []) : ∃ x ∈ Lib.trimLeftB l c, x ≠ c := by
  unfold Lib.trimLeftB at h ⊢
  obtain ⟨x, r, hx⟩ := List.exists_cons_of_ne_nil h
  refine ⟨x, by rw [hx]; simp, fun e => ?_⟩
  have := List.head?_dropWhile_not (fun b => b == c) l
  rw [hx] at this
  simp [e] at this
theorem canon_ok (s : ByteArray) (k : Nat) (h : digits s = true) (hs : s.size ≤ 1000) (hk : k ≤ 1000) : numOk (canon s k).1 (canon s k).2 := by
  have h1 := trimL_le s
  have h2 := canon_size s k
  by_cases h0 : (trimL s).size = 0
  · rw [canon, if_pos h0]
    exact ⟨by decide, by decide, Nat.zero_le _⟩
  · rw [canon, if_neg h0]
    have hne : Lib.trimLeftB s.data.toList 48 ≠ [] := fun e => h0 (by unfold trimL; rw [e]; rfl)
    have hu : (trimR (trimL s)).size ≠ 0 := by
      have h3 : (trimL s).data.toList = Lib.trimLeftB s.data.toList 48 := by simp [trimL]
      have := trimR_pos (trimL_head hne)
      intro e
      apply this
      rw [← h3]
      have : (Lib.trimRightB (trimL s).data.toList 48).toArray.size = 0 := e
      simpa using this
    have hul := trimR_le (trimL s)
    refine ⟨(digits_iff _).2 ⟨fun b hb => ?_, by rw [ByteArray.size_extract]; omega⟩, by rw [ByteArray.size_extract]; omega, by omega⟩
    have hb2 : b ∈ (trimL s).data.toList := by
      rw [ByteArray.data_extract, Array.toList_extract] at hb
      exact List.mem_of_mem_drop (List.mem_of_mem_take hb) 
    have hb3 : b ∈ s.data.toList := dropWhile_mem (p := fun b => b == 48) (by simpa [trimL, Lib.trimLeftB] using hb2)
    exact ((digits_iff s).1 h).1 b hb3
theorem readNum_ok (s : ByteArray) (h : readErr s = 0) : numOk (readNum s).1 (readNum s).2 := by
  rw [readNum, if_pos h]
  unfold readErr at h
  split at h
  · omega
  · rename_i h1
    split at h
    · omega
    · rename_i h2
      refine canon_ok _ _ ?_ (by rw [ByteArray.size_append]; omega) (by omega)
      have hb : cutB s = false → (cutP s).size = 0 := by
        intro e
        unfold cutB at e
        show (Lib.cut s.data.toList [46]).2.1.toArray.size = 0
        unfold Lib.cut at e ⊢
        split at e
        · simp at e
        · rename_i h3
          rw [if_neg h3]
          rfl
      simp only [Bool.or_eq_true, Bool.and_eq_true, Bool.not_eq_true', decide_eq_true_eq, not_or, not_and, Bool.not_eq_false] at h1
      rw [digits_iff]
      have e1 : (cutW s ++ cutP s).data.toList = (cutW s).data.toList ++ (cutP s).data.toList := by rw [ByteArray.data_append, Array.toList_append]
      rw [e1, ByteArray.size_append]
      have ha : (∀ b ∈ (cutW s).data.toList, dig b = true) ∧ (cutB s = false → (cutW s).size ≠ 0) := by
        cases hd : digits (cutW s)
        · obtain ⟨h3, h4⟩ := h1.1 hd
          have h5 : (cutW s).data.toList = [] := List.eq_nil_of_length_eq_zero (by rw [← size_list]; omega)
          exact ⟨by rw [h5]; simp, fun e => by rw [h4] at e; cases e⟩
        · exact ⟨((digits_iff _).1 hd).1, fun _ => ((digits_iff _).1 hd).2⟩
      have hp : (∀ b ∈ (cutP s).data.toList, dig b = true) ∧ (cutB s = true → (cutP s).size ≠ 0) := by
        cases hc : cutB s
        · have h5 : (cutP s).data.toList = [] := List.eq_nil_of_length_eq_zero (by rw [← size_list]; exact hb hc)
          exact ⟨by rw [h5]; simp, fun e => by cases e⟩
        · exact ⟨((digits_iff _).1 (h1.2 hc)).1, fun _ => ((digits_iff _).1 (h1.2 hc)).2⟩
      refine ⟨fun b hb => ?_, ?_⟩
      · rcases List.mem_append.1 hb with h | h
        · exact ha.1 b h
        · exact hp.1 b h
      · cases hc : cutB s
        · have := ha.2 hc; omega
        · have := hp.2 hc; omega

/-- is a text a number's one form? -/
def canonical (s : ByteArray) : Bool := decide (readErr s = 0) && (numText (readNum s).1 (readNum s).2).toList == s.toList

set_option maxRecDepth 100000 in
theorem canonical_calls (P : Pers) (G : Glob P) (s : ByteArray) (w : World) (hz : s.size ≤ maxStr) (hs : Sat P w) : Calls Tryz.prog 149 #[.string s] w fun e w' => e = .returned (.bool (canonical s)) ∧ Below w.heap.size w w' := by
  have hR := As.mk (fun w (hs : Sat P w) => read_calls P G s w hz hs)
  have hX := As.mk (canonical.eq_1 s)
  by_cases h0 : readErr s = 0
  · have hT := As.mk (fun w => text_calls (readNum s).1 (readNum s).2 w (readNum_ok s h0))
    rw [h0] at hR
    have hX1 := As.mk (show canonical s = ((numText (readNum s).1 (readNum s).2).toList == s.toList) by rw [hX.out, h0]; simp)
    clear hX h0
    generalize numText (readNum s).1 (readNum s).2 = t at *
    generalize readNum s = r at *
    obtain ⟨d, k⟩ := r
    dsimp only at *
    cases ht : t.toList == s.toList
    all_goals
      have hX2 := As.mk (hX1.out.trans ht)
      go_enter Tryz.func149, Tryz.ntmps149
      go_wp2_with (first | (go_at_call 167; refine (hR.out _ (by first | assumption | ((repeat apply Sat.alloc); assumption))).mono ?_; rintro e w1 ⟨rfl, hb1⟩) | (go_at_call 168; refine (hT.out _).mono ?_; rintro e w2 ⟨rfl, hb2⟩))
      go_ret
      exact ⟨by rw [hX2.out]; rfl, (hb1.alloc hb1.size _).trans (hb2.mono (by have := hb1.size; simp; omega))⟩
  · have hX1 := As.mk (show canonical s = false by rw [hX.out]; simp [h0])
    have h0' : ((readErr s : Int) != 0) = true := by rw [bne_iff_ne]; omega
    clear h0 hX
    generalize readErr s = n at *
    generalize readNum s = r at *
    obtain ⟨d, k⟩ := r
    go_enter Tryz.func149, Tryz.ntmps149
    go_wp2_with (first | (go_at_call 167; refine (hR.out _ (by first | assumption | ((repeat apply Sat.alloc); assumption))).mono ?_; rintro e w1 ⟨rfl, hb1⟩))
    go_ret
    exact ⟨by rw [hX1.out]; rfl, hb1.alloc hb1.size _⟩
end Go.Proofs.YtainigjbjfpoaaaGreatDoor
