/- Characters in bytes: utf.Rune, utf.Next. -/
/- Texts gone through character by character: names.made, utf.Check. -/
/- utf.Check. -/
import Derived.Test.YtainigjbjfpoaaaGreatDoorCUtf
import Derived.Test.YtainigjbjfpoaaaGreatDoorShelf
import Derived.Lib.RuneCountTail
import Derived.Lib.TrimU
import Derived.Lib.OthersKept
import Derived.Laws.IdiomStrings
import Derived.WalkSmall
namespace Go.Proofs.YtainigjbjfpoaaaGreatDoor
open Go.RowKit

def next (c : Int) : Bool := first c || decide (48 ≤ c ∧ c ≤ 57)
theorem next_calls (c : Int) (w : World) : Calls Tryz.prog 142 #[.int .i64 c] w fun e w' => e = .returned (.bool (next c)) ∧ w = w' := by
  cases hf : first c
  all_goals go_enter Tryz.func142, Tryz.ntmps142
  all_goals go_wp2_with (go_at_call 141; refine (first_calls _ _).mono ?_; rintro e w' ⟨rfl, rfl⟩)
  all_goals go_ret
  all_goals refine ⟨congrArg (fun b => Ending.returned (Value.bool b)) ?_, rfl⟩
  all_goals rw [Bool.eq_iff_iff]
  all_goals simp [next, hf] at *
  all_goals omega

def uRune (s : ByteArray) (i : Nat) : Nat × Nat × Nat := if ((Utf8.decode s i).1 = 65533 ∧ (Utf8.decode s i).2 < 2) ∨ fine (Utf8.decode s i).1 = false then (0, 0, 4) else ((Utf8.decode s i).1, (Utf8.decode s i).2, 0)
theorem get!_tail (s : ByteArray) (i j : Nat) (h : i + j < s.size) : (s.extract i s.size).get! j = s.get! (i + j) := by
  have h1 : j < (s.extract i s.size).size := by simp; omega
  rw [ByteArray.get!, ByteArray.get!]
  simp [getElem!_pos, h]
  rw [getElem!_pos _ _ (by simpa using h1)]
  simp

set_option maxHeartbeats 400000 in
theorem uRune_calls (P : Pers) (G : Glob P) (s : ByteArray) (i b off cap : Nat) (w : World) (hi : i < s.size) (hz : s.size ≤ maxStr) (hc : s.size ≤ cap) (hs : Sat P w) (hp : ∀ j, j < s.size → w.cell? ⟨b, off + j, none⟩ = some (.int .u8 (s.get! j).toNat)) :
    Calls Tryz.prog 160 #[.slice (some ⟨b, off, none⟩) s.size cap, .int .i64 i] w fun e w' => e = .returned (.tuple #[.int .i64 (uRune s i).1, .int .i64 (uRune s i).2.1, .int .i64 (uRune s i).2.2]) ∧ Below w.heap.size w w' := by
  have hsz : (s.extract i s.size).size = s.size - i := by simp
  have hd : Lib.decodeGo (s.extract i s.size) = Utf8.decode s i := by
    unfold Lib.decodeGo
    rw [if_neg (by omega), Lib.tail_decode, Nat.add_zero]
  have hD := As.mk (Tryz.utf8_DecodeRune (s.extract i s.size) b (off + i) (cap - i) w (G.tabs hs) (fun j hj => by
    rw [get!_tail s i j (by omega), Nat.add_assoc]
    exact hp (i + j) (by omega)))
  rw [hsz, hd] at hD
  have hz1 : s.size ≤ 1073741824 := hz
  have hw := Lib.width_pos s i
  have hr := Lib.rune_le s i
  clear hp hs hsz hd
  have HU : As (uRune s i = if ((Utf8.decode s i).1 = 65533 ∧ (Utf8.decode s i).2 < 2) ∨ fine (Utf8.decode s i).1 = false then (0, 0, 4) else ((Utf8.decode s i).1, (Utf8.decode s i).2, 0)) := As.mk rfl
  generalize Utf8.decode s i = d at *
  obtain ⟨c, n⟩ := d
  dsimp only at *
  have hlo : (0 : Int) ≤ (i : Int) := by omega
  have hhi : (i : Int) < (s.size : Int) := by omega
  rcases chain2 ((c : Int) == 65533) (decide ((n : Int) < 2)) with h1 | ⟨h1, h2⟩ | ⟨h1, h2⟩
  · have g1 : ¬ c = 65533 := by simpa [beq_eq_false_iff_ne] using (fun e : c = 65533 => by rw [e] at h1; simp at h1)
    cases hf : fine c
    all_goals go_enter Tryz.func160, Tryz.ntmps160
    all_goals go_wp2_with (first | (go_at_call 177; refine hD.out.mono ?_; rintro e w' ⟨rfl, hb'⟩) | (go_at_call 161; refine (fine_calls _ _).mono ?_; rintro e w' ⟨rfl, rfl⟩))
    · go_ret3
      exact ⟨by rw [HU.out, if_pos (Or.inr hf)]; rfl, hb'⟩
    · go_ret3
      exact ⟨by rw [HU.out, if_neg (by simp [g1, hf])]; rfl, hb'⟩
  · have g1 : c = 65533 := by have := beq_iff_eq.1 h1; omega
    have g2 : ¬ n < 2 := by have := of_decide_eq_false h2; omega
    have HG := As.mk g1
    clear g1
    have hf : fine c = true := by rw [HG.out]; decide
    go_enter Tryz.func160, Tryz.ntmps160
    go_wp2_with (first | (go_at_call 177; refine hD.out.mono ?_; rintro e w' ⟨rfl, hb'⟩) | (go_at_call 161; refine (fine_calls _ _).mono ?_; rintro e w' ⟨rfl, rfl⟩))
    go_ret3
    exact ⟨by rw [HU.out, if_neg (by simp [g2, hf])]; rfl, hb'⟩
  · have g1 : c = 65533 := by have := beq_iff_eq.1 h1; omega
    have g2 : n < 2 := by have := of_decide_eq_true h2; omega
    have HG := As.mk g1
    clear g1
    go_enter Tryz.func160, Tryz.ntmps160
    go_wp2_with (first | (go_at_call 177; refine hD.out.mono ?_; rintro e w' ⟨rfl, hb'⟩) | (go_at_call 161; refine (fine_calls _ _).mono ?_; rintro e w' ⟨rfl, rfl⟩))
    go_ret3
    exact ⟨by rw [HU.out, if_pos (Or.inl ⟨HG.out, g2⟩)]; rfl, hb'⟩
end Go.Proofs.YtainigjbjfpoaaaGreatDoor

namespace Go.Proofs.YtainigjbjfpoaaaGreatDoor
open Go.RowKit

/-- from a place on: are all characters right ones, the first by p, the others by q? -/
def madeFrom (p q : Int → Bool) (s : ByteArray) : Nat → Nat → Bool
  | 0, _ => true
  | k + 1, i => if i < s.size then (if (Utf8.decode s i).1 = 65533 ∧ (uRune s i).2.2 ≠ 0 then false else p (Utf8.decode s i).1 && madeFrom q q s k (i + (Utf8.decode s i).2)) else true
def made (p q : Int → Bool) (s : ByteArray) : Bool := madeFrom p q s s.size 0 && decide (s.size ≠ 0)
theorem madeFrom_end (p q : Int → Bool) (s : ByteArray) (k i : Nat) (h : ¬ i < s.size) : madeFrom p q s k i = true := by
  cases k with
  | zero => rfl
  | succ k => simp only [madeFrom, if_neg h]
theorem Sat.iterAt {P : Pers} {w : World} (h : Sat P w) {k : Nat} {s : ByteArray} {i : Nat} (hk : w.heap[k]? = some (.stringIter s i)) (j : Nat) : Sat P (w.iterAt k s j) := fun a v p => by
  have hne : a.block ≠ k := by
    intro e
    have := h a v p
    unfold World.cell? at this
    rw [e, hk] at this
    simp at this
  rw [World.cell?_of_block (Lib.iterAt_other w k a.block s j hne)]
  exact h a v p

theorem size_nonempty (s : ByteArray) : (!s.toList.isEmpty) = decide (s.size ≠ 0) := by
  rw [ByteArray.toList_eq]
  cases h : s.data.toList with
  | nil =>
    have : s.size = 0 := by
      show s.data.size = 0
      rw [← Array.length_toList, h]; rfl
    simp [this]
  | cons a l =>
    have : s.size ≠ 0 := by
      show s.data.size ≠ 0
      rw [← Array.length_toList, h]; simp
    simp [this]
theorem bytesRow_at (s : ByteArray) (cap j : Nat) (hj : j < s.size) : (bytesRow s cap)[j]? = some (.int .u8 (s.get! j).toNat) := by
  unfold bytesRow
  rw [Array.getElem?_append_left (by simpa using hj)]
  simp [ByteArray.get!, getElem!_pos, hj]
def fv (b : Bool) (fp fq : Nat) : Value := .func (.func (cond b fp fq)) #[] #[]

set_option maxRecDepth 100000 in
set_option maxHeartbeats 1000000 in
theorem made_calls (P : Pers) (G : Glob P) (p q : Int → Bool) (fp fq : Nat) (s : ByteArray) (w : World) (hz : s.size ≤ maxStr) (hs : Sat P w)
    (ep : ∀ args w, (callFunc fp args).run Tryz.prog w = .ok (.enter fp args) w) (eq : ∀ args w, (callFunc fq args).run Tryz.prog w = .ok (.enter fq args) w)
    (hp : ∀ c w, Calls Tryz.prog fp #[.int .i64 c] w fun e w' => e = .returned (.bool (p c)) ∧ w = w')
    (hq : ∀ c w, Calls Tryz.prog fq #[.int .i64 c] w fun e w' => e = .returned (.bool (q c)) ∧ w = w') :
    Calls Tryz.prog 140 #[.string s, .func (.func fp) #[] #[], .func (.func fq) #[] #[]] w fun e w' => e = .returned (.bool (made p q s)) ∧ Below w.heap.size w w' := by
  have hz1 : s.size ≤ 1073741824 := hz
  have HP := As.mk hp
  have HQ := As.mk hq
  clear hp hq
  go_enter Tryz.func140, Tryz.ntmps140
  go_wp2
  go_loopw [7] (fun g wr => ∃ (b : Bool) (i k : Nat), g = fv b fp fq ∧ As (wr.heap[w.heap.size]? = some (.stringIter s i)) ∧ Below w.heap.size w wr ∧ As (made p q s = (madeFrom (cond b p q) q s k i && decide (s.size ≠ 0))) ∧ s.size - i ≤ k) (fun _ wr => s.size - wr.iterPos w.heap.size)
  case atStart => exact ⟨true, 0, s.size, rfl, ⟨World.iter_heap w s 0⟩, (Below.refl _ _).alloc (Nat.le_refl _) _, ⟨rfl⟩, by omega⟩
  case round =>
    obtain ⟨b, i, k, rfl, hit, hbl, hM, hk⟩ := hrel
    by_cases hlt : i < s.size
    · obtain ⟨k, rfl⟩ : ∃ m, k = m + 1 := ⟨k - 1, by omega⟩
      have hn := fun ty => Lib.run_next_any_at (P := Tryz.prog) wr w.heap.size s i ty hit.out hlt
      have hM2 := hM.out
      simp only [madeFrom, if_pos hlt] at hM2
      have HM := As.mk hM2
      clear hM2 hM
      have hit2 := Lib.iterAt_heap wr w.heap.size s i (i + (Utf8.decode s i).2) hit.out
      have hbl2 := Lib.below_iterAt hbl (Nat.le_refl _) s (i + (Utf8.decode s i).2)
      have hsz := Lib.iterAt_size wr w.heap.size s (i + (Utf8.decode s i).2)
      have hw := Lib.width_pos s i
      have hr := Lib.rune_le s i
      have HIT := As.mk hit2
      have hs2 : Sat P (wr.iterAt w.heap.size s (i + (Utf8.decode s i).2)) := (hs.below hbl).iterAt hit.out _
      have hcv := fun (W : World) => run_bytes_of_string (P := Tryz.prog) W 9 162 5 s Tryz.underlying9 Tryz.underlying162 Tryz.underlying5
      have HC : As (∀ (W : World) (cap : Nat) (fr : Nat × Nat), Sat P W → Below w.heap.size w W → s.size ≤ cap → Calls Tryz.prog 160 #[.slice (some ⟨W.heap.size, 0, none⟩) s.size cap, .int .i64 i] (W.alloc (.cells (bytesRow s cap) 5 fr)) fun e w' =>
          e = .returned (.tuple #[.int .i64 (uRune s i).1, .int .i64 (uRune s i).2.1, .int .i64 (uRune s i).2.2]) ∧ Below w.heap.size w w' ∧ ∀ k, k < W.heap.size → w'.heap[k]? = W.heap[k]?) := ⟨fun W cap fr hW hB hcap => (uRune_calls P G s i W.heap.size 0 cap (W.alloc (.cells (bytesRow s cap) 5 fr)) hlt hz hcap (hW.alloc _) (fun j hj => by
        rw [Nat.zero_add, World.cell?_alloc_mark]
        exact bytesRow_at s cap j hj)).mono fun e w' ⟨he, hb⟩ => ⟨he, Below.then (hB.alloc hB.size _) hb, fun k hk => (hb.block k (by simp; omega)).trans (Below.heap_alloc _ _ _ hk)⟩⟩
      have HI := hit
      clear hit2 hit
      generalize hd : Utf8.decode s i = d at *
      obtain ⟨c, n⟩ := d
      dsimp only at *
      have HD := As.mk hd
      clear hd
      have hfv : fv b fp fq = .func (.func (cond b fp fq)) #[] #[] := rfl
      have HF : As (∀ c w, Calls Tryz.prog (cond b fp fq) #[.int .i64 c] w fun e w' => e = .returned (.bool ((cond b p q) c)) ∧ w = w') := ⟨by cases b; exact HQ.out; exact HP.out⟩
      have ef : ∀ args w, (callFunc (cond b fp fq) args).run Tryz.prog w = .ok (.enter (cond b fp fq) args) w := by cases b; exact eq; exact ep
      have hi1 : wr.iterPos w.heap.size = i := iterPos_of HI.out
      have hi2 : (wr.iterAt w.heap.size s (i + n)).iterPos w.heap.size = i + n := iterPos_of HIT.out
      clear HP HQ ep eq hsz
      generalize cond b fp fq = g at *
      generalize cond b p q = f at *
      by_cases h65 : c = 65533
      · have hq1 : ((c : Int) == 65533) = true := beq_iff_eq.2 (by omega)
        have H65 := As.mk h65
        clear h65
        have HB2 := As.mk hbl2
        have hs3 := hs2.drew
        by_cases he : (uRune s i).2.2 = 0
        · have he1 : ((((uRune s i).2.2 : Nat) : Int) != 0) = false := by simp [he]
          have HE := As.mk he
          clear he
          cases hpc : f c
          · have HFC := As.mk hpc
            go_wp2_with (first | (go_at_call 160; refine (HC.out _ _ _ hs3 HB2.out.drew (grownCap_ge _ _ _ _)).mono ?_; rintro e w' ⟨rfl, hB3, hblk⟩) | (refine (HF.out _ _).mono ?_; rintro e w' ⟨rfl, rfl⟩))
            go_ret
            exact ⟨by rw [HM.out, if_neg (fun h => h.2 HE.out), HFC.out]; rfl, hB3⟩
          · have HFC := As.mk hpc
            go_wp2_with (first | (go_at_call 160; refine (HC.out _ _ _ hs3 HB2.out.drew (grownCap_ge _ _ _ _)).mono ?_; rintro e w' ⟨rfl, hB3, hblk⟩) | (refine (HF.out _ _).mono ?_; rintro e w' ⟨rfl, rfl⟩))
            rename_i w' hB3 hblk
            have hit3 : w'.heap[w.heap.size]? = some (.stringIter s (i + n)) := by
              have hlt3 : w.heap.size < (wr.iterAt w.heap.size s (i + n)).heap.size := (Array.getElem?_eq_some_iff.1 HIT.out).1
              exact (hblk _ hlt3).trans HIT.out
            have hi3 := iterPos_of hit3
            go_roundw
            case rel => exact ⟨false, i + n, k, rfl, ⟨hit3⟩, hB3, ⟨by rw [HM.out, if_neg (fun h => h.2 HE.out), HFC.out]; rfl⟩, by omega⟩
            case measure => rw [hi1, hi3]; omega
        · have he1 : ((((uRune s i).2.2 : Nat) : Int) != 0) = true := by rw [bne_iff_ne]; omega
          have HE := As.mk he
          clear he
          go_wp2_with (go_at_call 160; refine (HC.out _ _ _ hs3 HB2.out.drew (grownCap_ge _ _ _ _)).mono ?_; rintro e w' ⟨rfl, hB3, hblk⟩)
          go_ret
          exact ⟨by rw [HM.out, if_pos ⟨H65.out, HE.out⟩]; rfl, hB3⟩
      · have hq1 : ((c : Int) == 65533) = false := beq_eq_false_iff_ne.2 (by omega)
        have H65 := As.mk h65
        clear h65
        cases hpc : f c
        · have HFC := As.mk hpc
          go_wp2_with (refine (HF.out _ _).mono ?_; rintro e w' ⟨rfl, rfl⟩)
          go_ret
          exact ⟨by rw [HM.out, if_neg (fun h => H65.out h.1), HFC.out]; rfl, hbl2⟩
        · have HFC := As.mk hpc
          go_wp2_with (refine (HF.out _ _).mono ?_; rintro e w' ⟨rfl, rfl⟩)
          go_roundw
          case rel => exact ⟨false, i + n, k, rfl, HIT, hbl2, ⟨by rw [HM.out, if_neg (fun h => H65.out h.1), HFC.out]; rfl⟩, by omega⟩
          case measure => rw [hi1, hi2]; omega
    · have hn := fun ty => Lib.run_next_end_at (P := Tryz.prog) wr w.heap.size s i ty hit.out hlt
      have HM := As.mk (show made p q s = decide (s.size ≠ 0) by rw [hM.out, madeFrom_end _ _ _ _ _ hlt, Bool.true_and])
      clear hM
      go_wp2
      go_ret
      exact ⟨by rw [HM.out]; exact congrArg (fun b => Ending.returned (Value.bool b)) (size_nonempty s), hbl⟩
end Go.Proofs.YtainigjbjfpoaaaGreatDoor

namespace Go.Proofs.YtainigjbjfpoaaaGreatDoor
open Go.RowKit

def utfFrom (s : ByteArray) : Nat → Nat → Nat
  | 0, _ => 0
  | k + 1, i => if i < s.size then (if ((Utf8.decode s i).1 = 65533 ∧ (Utf8.decode s i).2 < 2) ∨ fine (Utf8.decode s i).1 = false then 4 else utfFrom s k (i + (Utf8.decode s i).2)) else 0
/-- what utf.Check finds wrong -/
def utfErr (s : ByteArray) : Nat := utfFrom s s.size 0
theorem utfFrom_end (s : ByteArray) (k i : Nat) (h : ¬ i < s.size) : utfFrom s k i = 0 := by
  cases k with
  | zero => rfl
  | succ k => simp only [utfFrom, if_neg h]

set_option maxRecDepth 100000 in
set_option maxHeartbeats 1000000 in
theorem utfCheck_calls (P : Pers) (G : Glob P) (s : ByteArray) (b cap : Nat) (w : World) (hz : s.size ≤ maxStr) (hs : Sat P w) (hp : ∀ j, j < s.size → w.cell? ⟨b, j, none⟩ = some (.int .u8 (s.get! j).toNat)) :
    Calls Tryz.prog 165 #[.slice (some ⟨b, 0, none⟩) s.size cap] w fun e w' => (∃ n, e = .returned (.tuple #[.int .i64 n, .int .i64 (utfErr s)])) ∧ Below w.heap.size w w' := by
  have hz1 : s.size ≤ 1073741824 := hz
  have hcv := fun (W : World) (hW : ∀ j, j < s.size → W.cell? ⟨b, j, none⟩ = some (.int .u8 (s.get! j).toNat)) => run_convert_bytes_back (P := Tryz.prog) W 162 9 5 ⟨b, 0, none⟩ cap s.data.toList Tryz.underlying162 Tryz.underlying5 Tryz.underlying9 (fun j hj => by
    have hj' : j < s.size := by simpa using hj
    have h1 := hW j hj'
    have h2 : (Addr.add ⟨b, 0, none⟩ j) = ⟨b, j, none⟩ := by simp [Addr.add]; exact fun h => h.symm
    have h3 : s.get! j = s.data.toList[j] := by rw [ByteArray.get!, getElem!_pos s.data j hj', Array.getElem_toList]
    rw [h2, h1, h3])
  have hcw := hcv w hp
  simp only [Array.length_toList, Array.toArray_toList] at hcw
  have hcw1 : (convert 162 9 (.slice (some ⟨b, 0, none⟩) s.size cap)).run Tryz.prog w = .ok (.string s) w := hcw
  clear hcv hcw hp
  go_enter Tryz.func165, Tryz.ntmps165
  go_wp2
  clear hcw1
  go_loopw [] (fun wr => ∃ (i k : Nat), As (wr.heap[w.heap.size]? = some (.stringIter s i)) ∧ Below w.heap.size w wr ∧ As (utfErr s = utfFrom s k i) ∧ s.size - i ≤ k) (fun wr => s.size - wr.iterPos w.heap.size)
  case atStart => exact ⟨0, s.size, ⟨World.iter_heap w s 0⟩, (Below.refl _ _).alloc (Nat.le_refl _) _, ⟨rfl⟩, by omega⟩
  case round =>
    obtain ⟨i, k, hit, hbl, hM, hk⟩ := hrel
    by_cases hlt : i < s.size
    · obtain ⟨k, rfl⟩ : ∃ m, k = m + 1 := ⟨k - 1, by omega⟩
      have hn := fun ty => Lib.run_next_any_at (P := Tryz.prog) wr w.heap.size s i ty hit.out hlt
      have hM2 := hM.out
      simp only [utfFrom, if_pos hlt] at hM2
      have HM := As.mk hM2
      clear hM2 hM
      have hit2 := Lib.iterAt_heap wr w.heap.size s i (i + (Utf8.decode s i).2) hit.out
      have hbl2 := Lib.below_iterAt hbl (Nat.le_refl _) s (i + (Utf8.decode s i).2)
      have hw := Lib.width_pos s i
      have hr := Lib.rune_le s i
      have HIT := As.mk hit2
      have hs2 : Sat P (wr.iterAt w.heap.size s (i + (Utf8.decode s i).2)) := (hs.below hbl).iterAt hit.out _
      have hd : Lib.decodeGo (s.extract i s.size) = Utf8.decode s i := by
        unfold Lib.decodeGo
        rw [if_neg (by simp; omega), Lib.tail_decode, Nat.add_zero]
      have HC : As (Calls Tryz.prog 174 #[.string (s.extract i s.size)] (wr.iterAt w.heap.size s (i + (Utf8.decode s i).2)) fun e w' =>
          e = .returned (.tuple #[.int .i32 (Utf8.decode s i).1, .int .i64 (Utf8.decode s i).2]) ∧ Below (wr.iterAt w.heap.size s (i + (Utf8.decode s i).2)).heap.size (wr.iterAt w.heap.size s (i + (Utf8.decode s i).2)) w') := ⟨by
        have := Tryz.utf8_DecodeRuneInString (s.extract i s.size) _ (G.tabs hs2)
        rw [hd] at this
        exact this⟩
      have HI := hit
      clear hit2 hit hd
      generalize hd : Utf8.decode s i = d at *
      obtain ⟨c, n⟩ := d
      dsimp only at *
      have HD := As.mk hd
      clear hd
      have hi1 : wr.iterPos w.heap.size = i := iterPos_of HI.out
      have hi2 : (wr.iterAt w.heap.size s (i + n)).iterPos w.heap.size = i + n := iterPos_of HIT.out
      by_cases h65 : c = 65533
      · have hq1 : ((c : Int) == 65533) = true := beq_iff_eq.2 (by omega)
        have hf : fine c = true := by rw [h65]; decide
        have H65 := As.mk h65
        clear h65
        by_cases hn2 : n < 2
        · go_wp2_with (first | (go_at_call 174; refine HC.out.mono ?_; rintro e w' ⟨rfl, hb3⟩) | (go_at_call 161; refine (fine_calls _ _).mono ?_; rintro e w' ⟨rfl, rfl⟩))
          go_ret2
          exact ⟨⟨_, by rw [HM.out, if_pos (Or.inl ⟨H65.out, hn2⟩)]; rfl⟩, hbl2.trans (hb3.mono hbl2.size)⟩
        · go_wp2_with (first | (go_at_call 174; refine HC.out.mono ?_; rintro e w' ⟨rfl, hb3⟩) | (go_at_call 161; refine (fine_calls _ _).mono ?_; rintro e w' ⟨rfl, rfl⟩; rw [hf]))
          rename_i w' hb3 _
          have hit3 : w'.heap[w.heap.size]? = some (.stringIter s (i + n)) := (hb3.block _ (Array.getElem?_eq_some_iff.1 HIT.out).1).trans HIT.out
          have hi3 := iterPos_of hit3
          go_roundw
          case rel => exact ⟨i + n, k, ⟨hit3⟩, hbl2.trans (hb3.mono hbl2.size), ⟨by rw [HM.out, if_neg (by simp [hn2, hf])]⟩, by omega⟩
          case measure => rw [hi1, hi3]; omega
      · have hq1 : ((c : Int) == 65533) = false := beq_eq_false_iff_ne.2 (by omega)
        have H65 := As.mk h65
        clear h65
        cases hf : fine c
        · go_wp2_with (go_at_call 161; refine (fine_calls _ _).mono ?_; rintro e w' ⟨rfl, rfl⟩; rw [hf])
          go_ret2
          exact ⟨⟨_, by rw [HM.out, if_pos (Or.inr hf)]; rfl⟩, hbl2⟩
        · go_wp2_with (go_at_call 161; refine (fine_calls _ _).mono ?_; rintro e w' ⟨rfl, rfl⟩; rw [hf])
          go_roundw
          case rel => exact ⟨i + n, k, HIT, hbl2, ⟨by rw [HM.out, if_neg (by simp [H65.out, hf])]⟩, by omega⟩
          case measure => rw [hi1, hi2]; omega
    · have hn := fun ty => Lib.run_next_end_at (P := Tryz.prog) wr w.heap.size s i ty hit.out hlt
      have HM := As.mk (show utfErr s = 0 by rw [hM.out, utfFrom_end _ _ _ hlt])
      clear hM
      go_wp2
      go_ret2
      exact ⟨⟨_, by rw [HM.out]; rfl⟩, hbl⟩
end Go.Proofs.YtainigjbjfpoaaaGreatDoor
