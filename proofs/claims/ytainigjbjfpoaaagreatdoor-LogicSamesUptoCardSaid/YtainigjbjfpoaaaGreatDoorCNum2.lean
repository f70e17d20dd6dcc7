/- number.Read. -/
import Derived.Test.YtainigjbjfpoaaaGreatDoorCNum
import Derived.Test.YtainigjbjfpoaaaGreatDoorCUtf
namespace Go.Proofs.YtainigjbjfpoaaaGreatDoor
open Go.RowKit

def cutW (s : ByteArray) : ByteArray := ⟨(Lib.cut s.data.toList [46]).1.toArray⟩
def cutP (s : ByteArray) : ByteArray := ⟨(Lib.cut s.data.toList [46]).2.1.toArray⟩
def cutB (s : ByteArray) : Bool := (Lib.cut s.data.toList [46]).2.2
theorem cut_sizes (s : ByteArray) : (cutW s).size + (cutP s).size ≤ s.size := by
  have h : (Lib.cut s.data.toList [46]).1.length + (Lib.cut s.data.toList [46]).2.1.length ≤ s.data.toList.length := by
    unfold Lib.cut
    split
    · simp only [List.length_take, List.length_drop]; omega
    · simp
  rw [Array.length_toList] at h
  show (Lib.cut s.data.toList [46]).1.toArray.size + (Lib.cut s.data.toList [46]).2.1.toArray.size ≤ s.data.size
  rw [List.size_toArray, List.size_toArray]
  exact h

/-- which error Read tells -/
def readErr (s : ByteArray) : Nat :=
  if ((!digits (cutW s)) && (decide ((cutW s).size ≠ 0) || !cutB s)) || (cutB s && !digits (cutP s)) then 17
  else if 1000 < (cutW s).size + (cutP s).size then 19 else 0
/-- the number that it reads -/
def readNum (s : ByteArray) : ByteArray × Nat := if readErr s = 0 then canon (cutW s ++ cutP s) (cutP s).size else (⟨#[]⟩, 0)

set_option maxRecDepth 100000 in
set_option maxHeartbeats 8000000 in
theorem read_calls (P : Pers) (G : Glob P) (s : ByteArray) (w : World) (hz : s.size ≤ maxStr) (hs : Sat P w) : Calls Tryz.prog 167 #[.string s] w fun e w' =>
    e = .returned (.tuple #[.agg #[.string (readNum s).1, .int .i64 (readNum s).2], .int .i64 (readErr s)]) ∧ Below w.heap.size w w' := by
  obtain ⟨m, hm⟩ := G.m
  have hz1 : s.size ≤ 1073741824 := hz
  have hc0 := cut_sizes s
  have hC := As.mk (fun w (h : Sat P w) => Tryz.strings_Cut s ⟨#[46]⟩ m w (by omega) (h _ _ hm))
  change As (∀ w, Sat P w → Calls Tryz.prog 180 #[.string s, .string ⟨#[46]⟩] w fun e w' => e = .returned (.tuple #[.string (cutW s), .string (cutP s), .bool (cutB s)]) ∧ ∃ n, w' = w.drewN n) at hC
  have hK := As.mk (fun w => canon_calls (cutW s ++ cutP s) (cutP s).size w (by rw [ByteArray.size_append]; exact Nat.le_trans hc0 hz) (Nat.le_trans (by omega) hz))
  have hE := As.mk (readErr.eq_1 s)
  have hN := As.mk (readNum.eq_1 s)
  have hea := size_nonempty (cutW s)
  generalize cutW s = a at *
  generalize cutP s = b at *
  generalize cutB s = p at *
  cases hda : digits a
  · by_cases hz0 : a.size = 0
    · have hea1 : a.toList.isEmpty = true := by rw [hz0] at hea; simpa using hea
      clear hea
      cases p
      · rw [hda] at hE
        have hE1 := As.mk (show readErr s = 17 by rw [hE.out]; simp [hz0])
        have hN1 := As.mk (show readNum s = (⟨#[]⟩, 0) by rw [hN.out, if_neg (by rw [hE1.out]; decide)])
        clear hE hN
        go_enter Tryz.func167, Tryz.ntmps167
        go_wp2_with (first | (go_at_call 180; refine (hC.out _ (by first | assumption | ((repeat apply Sat.alloc); assumption))).mono ?_; rintro e w' ⟨rfl, n, rfl⟩) | (go_at_call 181; refine (digits_calls _ _ (by omega)).mono ?_; rintro e w' ⟨rfl, rfl⟩; first | rw [hda] | rw [hdb]) | (go_at_call 182; refine (hK.out _).mono ?_; rintro e w2 ⟨rfl, hb2⟩; have hc2 := bcell hb2; have hf2 := bfroz hb2))
        exact bodyPost_ret (v := .tuple #[.agg #[.string ⟨#[]⟩, .int .i64 0], .int .i64 17]) (by simp [results, Tryz.results167, go_sem]) rfl ⟨by rw [hN1.out, hE1.out]; rfl, ((pw_below_drewN' ((Below.refl _ _).alloc (Nat.le_refl _) _) _).setCell (by simp) _).setCell (by simp) _⟩
      · cases hdb : digits b
        · rw [hda] at hE
          rw [hdb] at hE
          have hE1 := As.mk (show readErr s = 17 by rw [hE.out]; simp [hz0])
          have hN1 := As.mk (show readNum s = (⟨#[]⟩, 0) by rw [hN.out, if_neg (by rw [hE1.out]; decide)])
          clear hE hN
          go_enter Tryz.func167, Tryz.ntmps167
          go_wp2_with (first | (go_at_call 180; refine (hC.out _ (by first | assumption | ((repeat apply Sat.alloc); assumption))).mono ?_; rintro e w' ⟨rfl, n, rfl⟩) | (go_at_call 181; refine (digits_calls _ _ (by omega)).mono ?_; rintro e w' ⟨rfl, rfl⟩; first | rw [hda] | rw [hdb]) | (go_at_call 182; refine (hK.out _).mono ?_; rintro e w2 ⟨rfl, hb2⟩; have hc2 := bcell hb2; have hf2 := bfroz hb2))
          exact bodyPost_ret (v := .tuple #[.agg #[.string ⟨#[]⟩, .int .i64 0], .int .i64 17]) (by simp [results, Tryz.results167, go_sem]) rfl ⟨by rw [hN1.out, hE1.out]; rfl, ((pw_below_drewN' ((Below.refl _ _).alloc (Nat.le_refl _) _) _).setCell (by simp) _).setCell (by simp) _⟩
        · rw [hda] at hE
          rw [hdb] at hE
          by_cases hl : 1000 < a.size + b.size
          · have hE1 := As.mk (show readErr s = 19 by rw [hE.out, if_neg (by simp [hz0]), if_pos hl])
            have hN1 := As.mk (show readNum s = (⟨#[]⟩, 0) by rw [hN.out, if_neg (by rw [hE1.out]; decide)])
            clear hE hN
            go_enter Tryz.func167, Tryz.ntmps167
            go_wp2_with (first | (go_at_call 180; refine (hC.out _ (by first | assumption | ((repeat apply Sat.alloc); assumption))).mono ?_; rintro e w' ⟨rfl, n, rfl⟩) | (go_at_call 181; refine (digits_calls _ _ (by omega)).mono ?_; rintro e w' ⟨rfl, rfl⟩; first | rw [hda] | rw [hdb]) | (go_at_call 182; refine (hK.out _).mono ?_; rintro e w2 ⟨rfl, hb2⟩; have hc2 := bcell hb2; have hf2 := bfroz hb2))
            exact bodyPost_ret (v := .tuple #[.agg #[.string ⟨#[]⟩, .int .i64 0], .int .i64 19]) (by simp [results, Tryz.results167, go_sem]) rfl ⟨by rw [hN1.out, hE1.out]; rfl, ((pw_below_drewN' ((Below.refl _ _).alloc (Nat.le_refl _) _) _).setCell (by simp) _).setCell (by simp) _⟩
          · have hE1 := As.mk (show readErr s = 0 by rw [hE.out, if_neg (by simp [hz0]), if_neg hl])
            have hN1 := As.mk (show readNum s = canon (a ++ b) b.size by rw [hN.out, if_pos hE1.out])
            clear hE hN
            go_enter Tryz.func167, Tryz.ntmps167
            go_wp2_with (first | (go_at_call 180; refine (hC.out _ (by first | assumption | ((repeat apply Sat.alloc); assumption))).mono ?_; rintro e w' ⟨rfl, n, rfl⟩) | (go_at_call 181; refine (digits_calls _ _ (by omega)).mono ?_; rintro e w' ⟨rfl, rfl⟩; first | rw [hda] | rw [hdb]) | (go_at_call 182; refine (hK.out _).mono ?_; rintro e w2 ⟨rfl, hb2⟩; have hc2 := bcell hb2; have hf2 := bfroz hb2))
            exact bodyPost_ret (v := .tuple #[.agg #[.string (canon (a ++ b) b.size).1, .int .i64 (canon (a ++ b) b.size).2], .int .i64 0]) (by simp [results, Tryz.results167, go_sem, hc2]) rfl ⟨by rw [hN1.out, hE1.out]; rfl, (((pw_below_drewN' ((Below.refl _ _).alloc (Nat.le_refl _) _) _).trans (hb2.mono (by simp))).setCell (by simp) _).setCell (by simp) _⟩
    · have hea1 : a.toList.isEmpty = false := by simpa [hz0] using hea
      clear hea
      rw [hda] at hE
      have hE1 := As.mk (show readErr s = 17 by rw [hE.out]; simp [hz0])
      have hN1 := As.mk (show readNum s = (⟨#[]⟩, 0) by rw [hN.out, if_neg (by rw [hE1.out]; decide)])
      clear hE hN
      go_enter Tryz.func167, Tryz.ntmps167
      go_wp2_with (first | (go_at_call 180; refine (hC.out _ (by first | assumption | ((repeat apply Sat.alloc); assumption))).mono ?_; rintro e w' ⟨rfl, n, rfl⟩) | (go_at_call 181; refine (digits_calls _ _ (by omega)).mono ?_; rintro e w' ⟨rfl, rfl⟩; first | rw [hda] | rw [hdb]) | (go_at_call 182; refine (hK.out _).mono ?_; rintro e w2 ⟨rfl, hb2⟩; have hc2 := bcell hb2; have hf2 := bfroz hb2))
      exact bodyPost_ret (v := .tuple #[.agg #[.string ⟨#[]⟩, .int .i64 0], .int .i64 17]) (by simp [results, Tryz.results167, go_sem]) rfl ⟨by rw [hN1.out, hE1.out]; rfl, ((pw_below_drewN' ((Below.refl _ _).alloc (Nat.le_refl _) _) _).setCell (by simp) _).setCell (by simp) _⟩
  · clear hea
    cases p
    · rw [hda] at hE
      by_cases hl : 1000 < a.size + b.size
      · have hE1 := As.mk (show readErr s = 19 by rw [hE.out, if_neg (by simp), if_pos hl])
        have hN1 := As.mk (show readNum s = (⟨#[]⟩, 0) by rw [hN.out, if_neg (by rw [hE1.out]; decide)])
        clear hE hN
        go_enter Tryz.func167, Tryz.ntmps167
        go_wp2_with (first | (go_at_call 180; refine (hC.out _ (by first | assumption | ((repeat apply Sat.alloc); assumption))).mono ?_; rintro e w' ⟨rfl, n, rfl⟩) | (go_at_call 181; refine (digits_calls _ _ (by omega)).mono ?_; rintro e w' ⟨rfl, rfl⟩; first | rw [hda] | rw [hdb]) | (go_at_call 182; refine (hK.out _).mono ?_; rintro e w2 ⟨rfl, hb2⟩; have hc2 := bcell hb2; have hf2 := bfroz hb2))
        exact bodyPost_ret (v := .tuple #[.agg #[.string ⟨#[]⟩, .int .i64 0], .int .i64 19]) (by simp [results, Tryz.results167, go_sem]) rfl ⟨by rw [hN1.out, hE1.out]; rfl, ((pw_below_drewN' ((Below.refl _ _).alloc (Nat.le_refl _) _) _).setCell (by simp) _).setCell (by simp) _⟩
      · have hE1 := As.mk (show readErr s = 0 by rw [hE.out, if_neg (by simp), if_neg hl])
        have hN1 := As.mk (show readNum s = canon (a ++ b) b.size by rw [hN.out, if_pos hE1.out])
        clear hE hN
        go_enter Tryz.func167, Tryz.ntmps167
        go_wp2_with (first | (go_at_call 180; refine (hC.out _ (by first | assumption | ((repeat apply Sat.alloc); assumption))).mono ?_; rintro e w' ⟨rfl, n, rfl⟩) | (go_at_call 181; refine (digits_calls _ _ (by omega)).mono ?_; rintro e w' ⟨rfl, rfl⟩; first | rw [hda] | rw [hdb]) | (go_at_call 182; refine (hK.out _).mono ?_; rintro e w2 ⟨rfl, hb2⟩; have hc2 := bcell hb2; have hf2 := bfroz hb2))
        exact bodyPost_ret (v := .tuple #[.agg #[.string (canon (a ++ b) b.size).1, .int .i64 (canon (a ++ b) b.size).2], .int .i64 0]) (by simp [results, Tryz.results167, go_sem, hc2]) rfl ⟨by rw [hN1.out, hE1.out]; rfl, (((pw_below_drewN' ((Below.refl _ _).alloc (Nat.le_refl _) _) _).trans (hb2.mono (by simp))).setCell (by simp) _).setCell (by simp) _⟩
    · cases hdb : digits b
      · rw [hda] at hE
        rw [hdb] at hE
        have hE1 := As.mk (show readErr s = 17 by rw [hE.out]; simp)
        have hN1 := As.mk (show readNum s = (⟨#[]⟩, 0) by rw [hN.out, if_neg (by rw [hE1.out]; decide)])
        clear hE hN
        go_enter Tryz.func167, Tryz.ntmps167
        go_wp2_with (first | (go_at_call 180; refine (hC.out _ (by first | assumption | ((repeat apply Sat.alloc); assumption))).mono ?_; rintro e w' ⟨rfl, n, rfl⟩) | (go_at_call 181; refine (digits_calls _ _ (by omega)).mono ?_; rintro e w' ⟨rfl, rfl⟩; first | rw [hda] | rw [hdb]) | (go_at_call 182; refine (hK.out _).mono ?_; rintro e w2 ⟨rfl, hb2⟩; have hc2 := bcell hb2; have hf2 := bfroz hb2))
        exact bodyPost_ret (v := .tuple #[.agg #[.string ⟨#[]⟩, .int .i64 0], .int .i64 17]) (by simp [results, Tryz.results167, go_sem]) rfl ⟨by rw [hN1.out, hE1.out]; rfl, ((pw_below_drewN' ((Below.refl _ _).alloc (Nat.le_refl _) _) _).setCell (by simp) _).setCell (by simp) _⟩
      · rw [hda] at hE
        rw [hdb] at hE
        by_cases hl : 1000 < a.size + b.size
        · have hE1 := As.mk (show readErr s = 19 by rw [hE.out, if_neg (by simp), if_pos hl])
          have hN1 := As.mk (show readNum s = (⟨#[]⟩, 0) by rw [hN.out, if_neg (by rw [hE1.out]; decide)])
          clear hE hN
          go_enter Tryz.func167, Tryz.ntmps167
          go_wp2_with (first | (go_at_call 180; refine (hC.out _ (by first | assumption | ((repeat apply Sat.alloc); assumption))).mono ?_; rintro e w' ⟨rfl, n, rfl⟩) | (go_at_call 181; refine (digits_calls _ _ (by omega)).mono ?_; rintro e w' ⟨rfl, rfl⟩; first | rw [hda] | rw [hdb]) | (go_at_call 182; refine (hK.out _).mono ?_; rintro e w2 ⟨rfl, hb2⟩; have hc2 := bcell hb2; have hf2 := bfroz hb2))
          exact bodyPost_ret (v := .tuple #[.agg #[.string ⟨#[]⟩, .int .i64 0], .int .i64 19]) (by simp [results, Tryz.results167, go_sem]) rfl ⟨by rw [hN1.out, hE1.out]; rfl, ((pw_below_drewN' ((Below.refl _ _).alloc (Nat.le_refl _) _) _).setCell (by simp) _).setCell (by simp) _⟩
        · have hE1 := As.mk (show readErr s = 0 by rw [hE.out, if_neg (by simp), if_neg hl])
          have hN1 := As.mk (show readNum s = canon (a ++ b) b.size by rw [hN.out, if_pos hE1.out])
          clear hE hN
          go_enter Tryz.func167, Tryz.ntmps167
          go_wp2_with (first | (go_at_call 180; refine (hC.out _ (by first | assumption | ((repeat apply Sat.alloc); assumption))).mono ?_; rintro e w' ⟨rfl, n, rfl⟩) | (go_at_call 181; refine (digits_calls _ _ (by omega)).mono ?_; rintro e w' ⟨rfl, rfl⟩; first | rw [hda] | rw [hdb]) | (go_at_call 182; refine (hK.out _).mono ?_; rintro e w2 ⟨rfl, hb2⟩; have hc2 := bcell hb2; have hf2 := bfroz hb2))
          exact bodyPost_ret (v := .tuple #[.agg #[.string (canon (a ++ b) b.size).1, .int .i64 (canon (a ++ b) b.size).2], .int .i64 0]) (by simp [results, Tryz.results167, go_sem, hc2]) rfl ⟨by rw [hN1.out, hE1.out]; rfl, (((pw_below_drewN' ((Below.refl _ _).alloc (Nat.le_refl _) _) _).trans (hb2.mono (by simp))).setCell (by simp) _).setCell (by simp) _⟩
end Go.Proofs.YtainigjbjfpoaaaGreatDoor
