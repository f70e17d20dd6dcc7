/- utf.Check. -/
import Derived.Test.YtainigjbjfpoaaaGreatDoorCUtf3
namespace Go.Proofs.YtainigjbjfpoaaaGreatDoor
open Go.RowKit

def utfFrom (s : ByteArray) : Nat → Nat → Nat
  | 0, _ => 0
  | k + 1, i => if i < s.size then (if ((Utf8.decode s i).1 = 65533 ∧ (Utf8.decode s i).2 < 2) ∨ fine (Utf8.decode s i).1 = false then 4 else utfFrom s k (i + (Utf8.decode s i).2)) else 0
/-- what utf.Check finds wrong -/
def utfErr (s : ByteArray) : Nat := utfFrom s s.size 0
theorem utfFrom_end (s : ByteArray) (k i : Nat) (h : ¬ i < s.size) : utfFrom s k i = 0 := by
  cases k with
  | zero => rfl
  | succ k => simp only [utfFrom, if_neg h]

set_option maxRecDepth 100000 in
set_option maxHeartbeats 1000000 in
theorem utfCheck_calls (P : Pers) (G : Glob P) (s : ByteArray) (b cap : Nat) (w : World) (hz : s.size ≤ maxStr) (hs : Sat P w) (hp : ∀ j, j < s.size → w.cell? ⟨b, j, none⟩ = some (.int .u8 (s.get! j).toNat)) :
    Calls Tryz.prog 165 #[.slice (some ⟨b, 0, none⟩) s.size cap] w fun e w' => (∃ n, e = .returned (.tuple #[.int .i64 n, .int .i64 (utfErr s)])) ∧ Below w.heap.size w w' := by
  have hz1 : s.size ≤ 1073741824 := hz
  have hcv := fun (W : World) (hW : ∀ j, j < s.size → W.cell? ⟨b, j, none⟩ = some (.int .u8 (s.get! j).toNat)) => run_convert_bytes_back (P := Tryz.prog) W 162 9 5 ⟨b, 0, none⟩ cap s.data.toList Tryz.underlying162 Tryz.underlying5 Tryz.underlying9 (fun j hj => by
    have hj' : j < s.size := by simpa using hj
    have h1 := hW j hj'
    have h2 : (Addr.add ⟨b, 0, none⟩ j) = ⟨b, j, none⟩ := by simp [Addr.add]; exact fun h => h.symm
    have h3 : s.get! j = s.data.toList[j] := by rw [ByteArray.get!, getElem!_pos s.data j hj', Array.getElem_toList]
    rw [h2, h1, h3])
  have hcw := hcv w hp
  simp only [Array.length_toList, Array.toArray_toList] at hcw
  have hcw1 : (convert 162 9 (.slice (some ⟨b, 0, none⟩) s.size cap)).run Tryz.prog w = .ok (.string s) w := hcw
  clear hcv hcw hp
  go_enter Tryz.func165, Tryz.ntmps165
  go_wp2
  clear hcw1
  go_loopw [] (fun wr => ∃ (i k : Nat), As (wr.heap[w.heap.size]? = some (.stringIter s i)) ∧ Below w.heap.size w wr ∧ As (utfErr s = utfFrom s k i) ∧ s.size - i ≤ k) (fun wr => s.size - wr.iterPos w.heap.size)
  case atStart => exact ⟨0, s.size, ⟨World.iter_heap w s 0⟩, (Below.refl _ _).alloc (Nat.le_refl _) _, ⟨rfl⟩, by omega⟩
  case round =>
    obtain ⟨i, k, hit, hbl, hM, hk⟩ := hrel
    by_cases hlt : i < s.size
    · obtain ⟨k, rfl⟩ : ∃ m, k = m + 1 := ⟨k - 1, by omega⟩
      have hn := fun ty => Lib.run_next_any_at (P := Tryz.prog) wr w.heap.size s i ty hit.out hlt
      have hM2 := hM.out
      simp only [utfFrom, if_pos hlt] at hM2
      have HM := As.mk hM2
      clear hM2 hM
      have hit2 := Lib.iterAt_heap wr w.heap.size s i (i + (Utf8.decode s i).2) hit.out
      have hbl2 := Lib.below_iterAt hbl (Nat.le_refl _) s (i + (Utf8.decode s i).2)
      have hw := Lib.width_pos s i
      have hr := Lib.rune_le s i
      have HIT := As.mk hit2
      have hs2 : Sat P (wr.iterAt w.heap.size s (i + (Utf8.decode s i).2)) := (hs.below hbl).iterAt hit.out _
      have hd : Lib.decodeGo (s.extract i s.size) = Utf8.decode s i := by
        unfold Lib.decodeGo
        rw [if_neg (by simp; omega), Lib.tail_decode, Nat.add_zero]
      have HC : As (Calls Tryz.prog 174 #[.string (s.extract i s.size)] (wr.iterAt w.heap.size s (i + (Utf8.decode s i).2)) fun e w' =>
          e = .returned (.tuple #[.int .i32 (Utf8.decode s i).1, .int .i64 (Utf8.decode s i).2]) ∧ Below (wr.iterAt w.heap.size s (i + (Utf8.decode s i).2)).heap.size (wr.iterAt w.heap.size s (i + (Utf8.decode s i).2)) w') := ⟨by
        have := Tryz.utf8_DecodeRuneInString (s.extract i s.size) _ (G.tabs hs2)
        rw [hd] at this
        exact this⟩
      have HI := hit
      clear hit2 hit hd
      generalize hd : Utf8.decode s i = d at *
      obtain ⟨c, n⟩ := d
      dsimp only at *
      have HD := As.mk hd
      clear hd
      have hi1 : wr.iterPos w.heap.size = i := iterPos_of HI.out
      have hi2 : (wr.iterAt w.heap.size s (i + n)).iterPos w.heap.size = i + n := iterPos_of HIT.out
      by_cases h65 : c = 65533
      · have hq1 : ((c : Int) == 65533) = true := beq_iff_eq.2 (by omega)
        have hf : fine c = true := by rw [h65]; decide
        have H65 := As.mk h65
        clear h65
        by_cases hn2 : n < 2
        · go_wp2_with (first | (go_at_call 174; refine HC.out.mono ?_; rintro e w' ⟨rfl, hb3⟩) | (go_at_call 161; refine (fine_calls _ _).mono ?_; rintro e w' ⟨rfl, rfl⟩))
          go_ret2
          exact ⟨⟨_, by rw [HM.out, if_pos (Or.inl ⟨H65.out, hn2⟩)]; rfl⟩, hbl2.trans (hb3.mono hbl2.size)⟩
        · go_wp2_with (first | (go_at_call 174; refine HC.out.mono ?_; rintro e w' ⟨rfl, hb3⟩) | (go_at_call 161; refine (fine_calls _ _).mono ?_; rintro e w' ⟨rfl, rfl⟩; rw [hf]))
          rename_i w' hb3 _
          have hit3 : w'.heap[w.heap.size]? = some (.stringIter s (i + n)) := (hb3.block _ (Array.getElem?_eq_some_iff.1 HIT.out).1).trans HIT.out
          have hi3 := iterPos_of hit3
          go_roundw
          case rel => exact ⟨i + n, k, ⟨hit3⟩, hbl2.trans (hb3.mono hbl2.size), ⟨by rw [HM.out, if_neg (by simp [hn2, hf])]⟩, by omega⟩
          case measure => rw [hi1, hi3]; omega
      · have hq1 : ((c : Int) == 65533) = false := beq_eq_false_iff_ne.2 (by omega)
        have H65 := As.mk h65
        clear h65
        cases hf : fine c
        · go_wp2_with (go_at_call 161; refine (fine_calls _ _).mono ?_; rintro e w' ⟨rfl, rfl⟩; rw [hf])
          go_ret2
          exact ⟨⟨_, by rw [HM.out, if_pos (Or.inr hf)]; rfl⟩, hbl2⟩
        · go_wp2_with (go_at_call 161; refine (fine_calls _ _).mono ?_; rintro e w' ⟨rfl, rfl⟩; rw [hf])
          go_roundw
          case rel => exact ⟨i + n, k, HIT, hbl2, ⟨by rw [HM.out, if_neg (by simp [H65.out, hf])]⟩, by omega⟩
          case measure => rw [hi1, hi2]; omega
    · have hn := fun ty => Lib.run_next_end_at (P := Tryz.prog) wr w.heap.size s i ty hit.out hlt
      have HM := As.mk (show utfErr s = 0 by rw [hM.out, utfFrom_end _ _ _ hlt])
      clear hM
      go_wp2
      go_ret2
      exact ⟨⟨_, by rw [HM.out]; rfl⟩, hbl⟩
end Go.Proofs.YtainigjbjfpoaaaGreatDoor
