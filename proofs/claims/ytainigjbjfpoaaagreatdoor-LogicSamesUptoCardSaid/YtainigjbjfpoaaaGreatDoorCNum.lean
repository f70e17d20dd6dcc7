/- package number: digits, canon, check, Read, Text. -/
import Derived.Test.YtainigjbjfpoaaaGreatDoorCUtf4
import Derived.Test.YtainigjbjfpoaaaGreatDoorShelf
import Derived.Test.YtainigjbjfpoaaaGreatDoorCSlices
import Derived.StillTailTactics
import Derived.Deep.QuietTactic
import Derived.BigQuiet
namespace Go.Proofs.YtainigjbjfpoaaaGreatDoor
open Go.RowKit

def dig (b : UInt8) : Bool := decide (48 ≤ b.toNat) && decide (b.toNat ≤ 57)
def digits (s : ByteArray) : Bool := s.data.toList.all dig && decide (s.size ≠ 0)

set_option maxHeartbeats 1000000 in
theorem digits_calls (s : ByteArray) (w : World) (hz : s.size ≤ 9223372036854775807) : Calls Tryz.prog 181 #[.string s] w fun e w' => e = .returned (.bool (digits s)) ∧ w = w' := by
  go_enter Tryz.func181, Tryz.ntmps181
  go_wp2
  go_loopw [6] (fun i wr => ∃ k : Nat, i = .int .i64 k ∧ k ≤ s.size ∧ As (digits s = ((s.data.toList.drop k).all dig && decide (s.size ≠ 0))) ∧ w = wr) (fun i _ => s.size - (intOf i).toNat)
  case atStart => exact ⟨0, rfl, Nat.zero_le _, ⟨rfl⟩, rfl⟩
  case round =>
    obtain ⟨k, rfl, hk, hD, rfl⟩ := hrel
    by_cases hlt : k < s.size
    · have hd : s.data.toList.drop k = s[k] :: s.data.toList.drop (k + 1) := by
        rw [List.drop_eq_getElem_cons (by simpa using hlt), Array.getElem_toList]
        rfl
      have hD2 := hD.out
      rw [hd, List.all_cons] at hD2
      have HD := As.mk hD2
      clear hD hD2 hd
      go_wp2
      · rename_i h1 h2
        have hdg : dig s[k] = false := by simp [dig]; omega
        go_ret
        exact ⟨by rw [HD.out, hdg]; rfl, rfl⟩
      · rename_i h1 h2
        have hdg : dig s[k] = true := by simp [dig]; omega
        exact ⟨⟨k + 1, by simp, by omega, ⟨by rw [HD.out, hdg, Bool.true_and]⟩, trivial⟩, by simp [intOf]; omega⟩
      · rename_i h1
        have hdg : dig s[k] = false := by simp [dig]; omega
        go_ret
        exact ⟨by rw [HD.out, hdg]; rfl, rfl⟩
    · obtain rfl : k = s.size := by omega
      have hD2 := hD.out
      rw [List.drop_eq_nil_of_le (by simp), List.all_nil, Bool.true_and] at hD2
      have HD := As.mk hD2
      clear hD2 hD
      go_wp2
      go_ret
      exact ⟨by rw [HD.out]; exact congrArg (fun b => Ending.returned (Value.bool b)) (size_nonempty s), rfl⟩

def trimL (s : ByteArray) : ByteArray := ⟨(Lib.trimLeftB s.data.toList 48).toArray⟩
def trimR (s : ByteArray) : ByteArray := ⟨(Lib.trimRightB s.data.toList 48).toArray⟩
def nought : ByteArray := ⟨#[48]⟩
/-- a number in its one form -/
def canon (s : ByteArray) (k : Nat) : ByteArray × Nat :=
  if (trimL s).size = 0 then (nought, 0) else
  ((trimL s).extract 0 ((trimL s).size - min ((trimL s).size - (trimR (trimL s)).size) k), k - min ((trimL s).size - (trimR (trimL s)).size) k)
theorem dropWhile_le {α : Type} (p : α → Bool) (l : List α) : (l.dropWhile p).length ≤ l.length := (List.dropWhile_sublist p).length_le
theorem trimL_le (s : ByteArray) : (trimL s).size ≤ s.size := by
  show (Lib.trimLeftB s.data.toList 48).toArray.size ≤ s.data.size
  rw [List.size_toArray, ← Array.length_toList]
  exact dropWhile_le _ _
theorem trimR_le (s : ByteArray) : (trimR s).size ≤ s.size := by
  show (Lib.trimRightB s.data.toList 48).toArray.size ≤ s.data.size
  rw [List.size_toArray, ← Array.length_toList]
  refine Nat.le_trans (by unfold Lib.trimRightB; rw [List.length_reverse]; exact dropWhile_le _ _) (Nat.le_of_eq (List.length_reverse ..))

set_option maxRecDepth 100000 in
set_option maxHeartbeats 1000000 in
theorem canon_calls (s : ByteArray) (k : Nat) (w : World) (hz : s.size ≤ maxStr) (hk : k ≤ maxStr) : Calls Tryz.prog 182 #[.agg #[.string s, .int .i64 k]] w fun e w' => e = .returned (.agg #[.string (canon s k).1, .int .i64 (canon s k).2]) ∧ Below w.heap.size w w' := by
  have hz1 : s.size ≤ 1073741824 := hz
  have hk1 : k ≤ 1073741824 := hk
  have h1 := trimL_le s
  have h2 := trimR_le (trimL s)
  have HC := As.mk (canon.eq_1 s k)
  have hL := As.mk (fun w => Tryz.strings_TrimLeft_one s 48 (by decide) w)
  have hR := As.mk (fun w => Tryz.strings_TrimRight_one (trimL s) 48 (by decide) w (by omega))
  change As (∀ w, Calls Tryz.prog 195 #[.string s, .string ⟨#[48]⟩] w fun e w' => e = .returned (.string (trimL s)) ∧ w' = w) at hL
  change As (∀ w, Calls Tryz.prog 196 #[.string (trimL s), .string ⟨#[48]⟩] w fun e w' => e = .returned (.string (trimR (trimL s))) ∧ w' = w) at hR
  generalize trimL s = t at *
  generalize trimR t = u at *
  obtain ⟨c, hc⟩ : ∃ c, c = min (t.size - u.size) k := ⟨_, rfl⟩
  rw [← hc] at HC
  have hc1 : min ((t.size : Int) - (u.size : Int)) (k : Int) = (c : Int) := by omega
  have hc2 : c ≤ k := by omega
  have hc3 : c ≤ t.size := by omega
  clear hc
  by_cases ht : t.size = 0
  · rw [if_pos ht] at HC
    have he : t.toList.isEmpty = true := by have := size_nonempty t; rw [ht] at this; simpa using this
    go_enter Tryz.func182, Tryz.ntmps182
    go_wp2_with (go_at_call 195; refine (hL.out _).mono ?_; rintro e w' ⟨rfl, rfl⟩)
    exact bodyPost_ret (v := .agg #[.string nought, .int .i64 0]) (by simp [results, Tryz.results182, go_sem, nought]) rfl ⟨by rw [HC.out]; rfl, ((Below.refl _ _).alloc (Nat.le_refl _) _).alloc (by simp) _⟩
  · rw [if_neg ht] at HC
    have he : t.toList.isEmpty = false := by have := size_nonempty t; simpa [ht] using this
    go_enter Tryz.func182, Tryz.ntmps182
    go_wp2_with (first | (go_at_call 195; refine (hL.out _).mono ?_; rintro e w' ⟨rfl, rfl⟩) | (go_at_call 196; refine (hR.out _).mono ?_; rintro e w' ⟨rfl, rfl⟩))
    have e1 : IntKind.i64.wrap ((t.size : Int) - (c : Int)) = (t.size : Int) - (c : Int) := IntWalk.i64_in _ (by omega)
    have e2 : IntKind.i64.wrap ((k : Int) - (c : Int)) = (k : Int) - (c : Int) := IntWalk.i64_in _ (by omega)
    have e3 : (0 : Int) ≤ (t.size : Int) - (c : Int) := by omega
    have e4 : (t.size : Int) - (c : Int) ≤ (t.size : Int) := by omega
    have e5 : ((t.size : Int) - (c : Int)).toNat = t.size - c := by omega
    refine wp_region_still_tail 11 (by kernel_rfl) (by kernel_rfl) ?_
    change wpStill _ _ (World.drew _) (fun a' => wpList _ _ _ _ a' (World.drew _)) _ _
    simp only [List.take_succ_cons, List.take_zero, List.drop_succ_cons, List.drop_zero]
    repeat still_step
    refine wpStill_nil ?_
    clear e1 e2 e3 e4 e5
    go_wp2
    have e6 : (k : Int) - (c : Int) = ((k - c : Nat) : Int) := by omega
    exact bodyPost_ret (v := .agg #[.string (t.extract 0 (t.size - c)), .int .i64 (k - c)]) (by simp [results, Tryz.results182, go_sem]) rfl ⟨by rw [HC.out, e6], (((Below.refl _ _).alloc (Nat.le_refl _) _).alloc (by simp) _).drew⟩

/-- may these be a number's fields? -/
def numOk (s : ByteArray) (k : Nat) : Prop := digits s = true ∧ s.size ≤ 1000 ∧ k ≤ 1000

set_option maxRecDepth 100000 in
theorem check_calls (s : ByteArray) (k : Nat) (w : World) (h : numOk s k) : Calls Tryz.prog 183 #[.agg #[.string s, .int .i64 k]] w fun e w' => e = .returned .nilIface ∧ Below w.heap.size w w' := by
  obtain ⟨h1, h2, h3⟩ := h
  have HD := As.mk (fun w => digits_calls s w (by omega))
  rw [h1] at HD
  clear h1
  go_enter Tryz.func183, Tryz.ntmps183
  go_wp2_with (go_at_call 181; refine (HD.out _).mono ?_; rintro e w' ⟨rfl, rfl⟩)
  go_ret
  exact ⟨rfl, (Below.refl _ _).alloc (Nat.le_refl _) _⟩
end Go.Proofs.YtainigjbjfpoaaaGreatDoor
