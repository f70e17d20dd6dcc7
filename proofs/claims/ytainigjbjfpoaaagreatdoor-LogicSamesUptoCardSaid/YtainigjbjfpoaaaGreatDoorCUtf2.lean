/- Characters in bytes: utf.Rune, utf.Next. -/
import Derived.Test.YtainigjbjfpoaaaGreatDoorCUtf
import Derived.Test.YtainigjbjfpoaaaGreatDoorShelf
import Derived.Lib.RuneCountTail
import Derived.Lib.TrimU
namespace Go.Proofs.YtainigjbjfpoaaaGreatDoor
open Go.RowKit

def next (c : Int) : Bool := first c || decide (48 ≤ c ∧ c ≤ 57)
theorem next_calls (c : Int) (w : World) : Calls Tryz.prog 142 #[.int .i64 c] w fun e w' => e = .returned (.bool (next c)) ∧ w = w' := by
  cases hf : first c
  all_goals go_enter Tryz.func142, Tryz.ntmps142
  all_goals go_wp2_with (go_at_call 141; refine (first_calls _ _).mono ?_; rintro e w' ⟨rfl, rfl⟩)
  all_goals go_ret
  all_goals refine ⟨congrArg (fun b => Ending.returned (Value.bool b)) ?_, rfl⟩
  all_goals rw [Bool.eq_iff_iff]
  all_goals simp [next, hf] at *
  all_goals omega

def uRune (s : ByteArray) (i : Nat) : Nat × Nat × Nat := if ((Utf8.decode s i).1 = 65533 ∧ (Utf8.decode s i).2 < 2) ∨ fine (Utf8.decode s i).1 = false then (0, 0, 4) else ((Utf8.decode s i).1, (Utf8.decode s i).2, 0)
theorem get!_tail (s : ByteArray) (i j : Nat) (h : i + j < s.size) : (s.extract i s.size).get! j = s.get! (i + j) := by
  have h1 : j < (s.extract i s.size).size := by simp; omega
  rw [ByteArray.get!, ByteArray.get!]
  simp [getElem!_pos, h]
  rw [getElem!_pos _ _ (by simpa using h1)]
  simp

set_option maxHeartbeats 400000 in
theorem uRune_calls (P : Pers) (G : Glob P) (s : ByteArray) (i b off cap : Nat) (w : World) (hi : i < s.size) (hz : s.size ≤ maxStr) (hc : s.size ≤ cap) (hs : Sat P w) (hp : ∀ j, j < s.size → w.cell? ⟨b, off + j, none⟩ = some (.int .u8 (s.get! j).toNat)) :
    Calls Tryz.prog 160 #[.slice (some ⟨b, off, none⟩) s.size cap, .int .i64 i] w fun e w' => e = .returned (.tuple #[.int .i64 (uRune s i).1, .int .i64 (uRune s i).2.1, .int .i64 (uRune s i).2.2]) ∧ Below w.heap.size w w' := by
  have hsz : (s.extract i s.size).size = s.size - i := by simp
  have hd : Lib.decodeGo (s.extract i s.size) = Utf8.decode s i := by
    unfold Lib.decodeGo
    rw [if_neg (by omega), Lib.tail_decode, Nat.add_zero]
  have hD := As.mk (Tryz.utf8_DecodeRune (s.extract i s.size) b (off + i) (cap - i) w (G.tabs hs) (fun j hj => by
    rw [get!_tail s i j (by omega), Nat.add_assoc]
    exact hp (i + j) (by omega)))
  rw [hsz, hd] at hD
  have hz1 : s.size ≤ 1073741824 := hz
  have hw := Lib.width_pos s i
  have hr := Lib.rune_le s i
  clear hp hs hsz hd
  have HU : As (uRune s i = if ((Utf8.decode s i).1 = 65533 ∧ (Utf8.decode s i).2 < 2) ∨ fine (Utf8.decode s i).1 = false then (0, 0, 4) else ((Utf8.decode s i).1, (Utf8.decode s i).2, 0)) := As.mk rfl
  generalize Utf8.decode s i = d at *
  obtain ⟨c, n⟩ := d
  dsimp only at *
  have hlo : (0 : Int) ≤ (i : Int) := by omega
  have hhi : (i : Int) < (s.size : Int) := by omega
  rcases chain2 ((c : Int) == 65533) (decide ((n : Int) < 2)) with h1 | ⟨h1, h2⟩ | ⟨h1, h2⟩
  · have g1 : ¬ c = 65533 := by simpa [beq_eq_false_iff_ne] using (fun e : c = 65533 => by rw [e] at h1; simp at h1)
    cases hf : fine c
    all_goals go_enter Tryz.func160, Tryz.ntmps160
    all_goals go_wp2_with (first | (go_at_call 177; refine hD.out.mono ?_; rintro e w' ⟨rfl, hb'⟩) | (go_at_call 161; refine (fine_calls _ _).mono ?_; rintro e w' ⟨rfl, rfl⟩))
    · go_ret3
      exact ⟨by rw [HU.out, if_pos (Or.inr hf)]; rfl, hb'⟩
    · go_ret3
      exact ⟨by rw [HU.out, if_neg (by simp [g1, hf])]; rfl, hb'⟩
  · have g1 : c = 65533 := by have := beq_iff_eq.1 h1; omega
    have g2 : ¬ n < 2 := by have := of_decide_eq_false h2; omega
    have HG := As.mk g1
    clear g1
    have hf : fine c = true := by rw [HG.out]; decide
    go_enter Tryz.func160, Tryz.ntmps160
    go_wp2_with (first | (go_at_call 177; refine hD.out.mono ?_; rintro e w' ⟨rfl, hb'⟩) | (go_at_call 161; refine (fine_calls _ _).mono ?_; rintro e w' ⟨rfl, rfl⟩))
    go_ret3
    exact ⟨by rw [HU.out, if_neg (by simp [g2, hf])]; rfl, hb'⟩
  · have g1 : c = 65533 := by have := beq_iff_eq.1 h1; omega
    have g2 : n < 2 := by have := of_decide_eq_true h2; omega
    have HG := As.mk g1
    clear g1
    go_enter Tryz.func160, Tryz.ntmps160
    go_wp2_with (first | (go_at_call 177; refine hD.out.mono ?_; rintro e w' ⟨rfl, hb'⟩) | (go_at_call 161; refine (fine_calls _ _).mono ?_; rintro e w' ⟨rfl, rfl⟩))
    go_ret3
    exact ⟨by rw [HU.out, if_pos (Or.inl ⟨HG.out, g2⟩)]; rfl, hb'⟩
end Go.Proofs.YtainigjbjfpoaaaGreatDoor
