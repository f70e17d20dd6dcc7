/- Texts gone through character by character: names.made, utf.Check. -/
import Derived.Test.YtainigjbjfpoaaaGreatDoorCUtf2
import Derived.Lib.OthersKept
import Derived.Laws.IdiomStrings
import Derived.WalkSmall
namespace Go.Proofs.YtainigjbjfpoaaaGreatDoor
open Go.RowKit

/-- from a place on: are all characters right ones, the first by p, the others by q? -/
def madeFrom (p q : Int → Bool) (s : ByteArray) : Nat → Nat → Bool
  | 0, _ => true
  | k + 1, i => if i < s.size then (if (Utf8.decode s i).1 = 65533 ∧ (uRune s i).2.2 ≠ 0 then false else p (Utf8.decode s i).1 && madeFrom q q s k (i + (Utf8.decode s i).2)) else true
def made (p q : Int → Bool) (s : ByteArray) : Bool := madeFrom p q s s.size 0 && decide (s.size ≠ 0)
theorem madeFrom_end (p q : Int → Bool) (s : ByteArray) (k i : Nat) (h : ¬ i < s.size) : madeFrom p q s k i = true := by
  cases k with
  | zero => rfl
  | succ k => simp only [madeFrom, if_neg h]
theorem Sat.iterAt {P : Pers} {w : World} (h : Sat P w) {k : Nat} {s : ByteArray} {i : Nat} (hk : w.heap[k]? = some (.stringIter s i)) (j : Nat) : Sat P (w.iterAt k s j) := fun a v p => by
  have hne : a.block ≠ k := by
    intro e
    have := h a v p
    unfold World.cell? at this
    rw [e, hk] at this
    simp at this
  rw [World.cell?_of_block (Lib.iterAt_other w k a.block s j hne)]
  exact h a v p

theorem size_nonempty (s : ByteArray) : (!s.toList.isEmpty) = decide (s.size ≠ 0) := by
  rw [ByteArray.toList_eq]
  cases h : s.data.toList with
  | nil =>
    have : s.size = 0 := by
      show s.data.size = 0
      rw [← Array.length_toList, h]; rfl
    simp [this]
  | cons a l =>
    have : s.size ≠ 0 := by
      show s.data.size ≠ 0
      rw [← Array.length_toList, h]; simp
    simp [this]
theorem bytesRow_at (s : ByteArray) (cap j : Nat) (hj : j < s.size) : (bytesRow s cap)[j]? = some (.int .u8 (s.get! j).toNat) := by
  unfold bytesRow
  rw [Array.getElem?_append_left (by simpa using hj)]
  simp [ByteArray.get!, getElem!_pos, hj]
def fv (b : Bool) (fp fq : Nat) : Value := .func (.func (cond b fp fq)) #[] #[]

set_option maxRecDepth 100000 in
set_option maxHeartbeats 1000000 in
theorem made_calls (P : Pers) (G : Glob P) (p q : Int → Bool) (fp fq : Nat) (s : ByteArray) (w : World) (hz : s.size ≤ maxStr) (hs : Sat P w)
    (ep : ∀ args w, (callFunc fp args).run Tryz.prog w = .ok (.enter fp args) w) (eq : ∀ args w, (callFunc fq args).run Tryz.prog w = .ok (.enter fq args) w)
    (hp : ∀ c w, Calls Tryz.prog fp #[.int .i64 c] w fun e w' => e = .returned (.bool (p c)) ∧ w = w')
    (hq : ∀ c w, Calls Tryz.prog fq #[.int .i64 c] w fun e w' => e = .returned (.bool (q c)) ∧ w = w') :
    Calls Tryz.prog 140 #[.string s, .func (.func fp) #[] #[], .func (.func fq) #[] #[]] w fun e w' => e = .returned (.bool (made p q s)) ∧ Below w.heap.size w w' := by
  have hz1 : s.size ≤ 1073741824 := hz
  have HP := As.mk hp
  have HQ := As.mk hq
  clear hp hq
  go_enter Tryz.func140, Tryz.ntmps140
  go_wp2
  go_loopw [7] (fun g wr => ∃ (b : Bool) (i k : Nat), g = fv b fp fq ∧ As (wr.heap[w.heap.size]? = some (.stringIter s i)) ∧ Below w.heap.size w wr ∧ As (made p q s = (madeFrom (cond b p q) q s k i && decide (s.size ≠ 0))) ∧ s.size - i ≤ k) (fun _ wr => s.size - wr.iterPos w.heap.size)
  case atStart => exact ⟨true, 0, s.size, rfl, ⟨World.iter_heap w s 0⟩, (Below.refl _ _).alloc (Nat.le_refl _) _, ⟨rfl⟩, by omega⟩
  case round =>
    obtain ⟨b, i, k, rfl, hit, hbl, hM, hk⟩ := hrel
    by_cases hlt : i < s.size
    · obtain ⟨k, rfl⟩ : ∃ m, k = m + 1 := ⟨k - 1, by omega⟩
      have hn := fun ty => Lib.run_next_any_at (P := Tryz.prog) wr w.heap.size s i ty hit.out hlt
      have hM2 := hM.out
      simp only [madeFrom, if_pos hlt] at hM2
      have HM := As.mk hM2
      clear hM2 hM
      have hit2 := Lib.iterAt_heap wr w.heap.size s i (i + (Utf8.decode s i).2) hit.out
      have hbl2 := Lib.below_iterAt hbl (Nat.le_refl _) s (i + (Utf8.decode s i).2)
      have hsz := Lib.iterAt_size wr w.heap.size s (i + (Utf8.decode s i).2)
      have hw := Lib.width_pos s i
      have hr := Lib.rune_le s i
      have HIT := As.mk hit2
      have hs2 : Sat P (wr.iterAt w.heap.size s (i + (Utf8.decode s i).2)) := (hs.below hbl).iterAt hit.out _
      have hcv := fun (W : World) => run_bytes_of_string (P := Tryz.prog) W 9 162 5 s Tryz.underlying9 Tryz.underlying162 Tryz.underlying5
      have HC : As (∀ (W : World) (cap : Nat) (fr : Nat × Nat), Sat P W → Below w.heap.size w W → s.size ≤ cap → Calls Tryz.prog 160 #[.slice (some ⟨W.heap.size, 0, none⟩) s.size cap, .int .i64 i] (W.alloc (.cells (bytesRow s cap) 5 fr)) fun e w' =>
          e = .returned (.tuple #[.int .i64 (uRune s i).1, .int .i64 (uRune s i).2.1, .int .i64 (uRune s i).2.2]) ∧ Below w.heap.size w w' ∧ ∀ k, k < W.heap.size → w'.heap[k]? = W.heap[k]?) := ⟨fun W cap fr hW hB hcap => (uRune_calls P G s i W.heap.size 0 cap (W.alloc (.cells (bytesRow s cap) 5 fr)) hlt hz hcap (hW.alloc _) (fun j hj => by
        rw [Nat.zero_add, World.cell?_alloc_mark]
        exact bytesRow_at s cap j hj)).mono fun e w' ⟨he, hb⟩ => ⟨he, Below.then (hB.alloc hB.size _) hb, fun k hk => (hb.block k (by simp; omega)).trans (Below.heap_alloc _ _ _ hk)⟩⟩
      have HI := hit
      clear hit2 hit
      generalize hd : Utf8.decode s i = d at *
      obtain ⟨c, n⟩ := d
      dsimp only at *
      have HD := As.mk hd
      clear hd
      have hfv : fv b fp fq = .func (.func (cond b fp fq)) #[] #[] := rfl
      have HF : As (∀ c w, Calls Tryz.prog (cond b fp fq) #[.int .i64 c] w fun e w' => e = .returned (.bool ((cond b p q) c)) ∧ w = w') := ⟨by cases b; exact HQ.out; exact HP.out⟩
      have ef : ∀ args w, (callFunc (cond b fp fq) args).run Tryz.prog w = .ok (.enter (cond b fp fq) args) w := by cases b; exact eq; exact ep
      have hi1 : wr.iterPos w.heap.size = i := iterPos_of HI.out
      have hi2 : (wr.iterAt w.heap.size s (i + n)).iterPos w.heap.size = i + n := iterPos_of HIT.out
      clear HP HQ ep eq hsz
      generalize cond b fp fq = g at *
      generalize cond b p q = f at *
      by_cases h65 : c = 65533
      · have hq1 : ((c : Int) == 65533) = true := beq_iff_eq.2 (by omega)
        have H65 := As.mk h65
        clear h65
        have HB2 := As.mk hbl2
        have hs3 := hs2.drew
        by_cases he : (uRune s i).2.2 = 0
        · have he1 : ((((uRune s i).2.2 : Nat) : Int) != 0) = false := by simp [he]
          have HE := As.mk he
          clear he
          cases hpc : f c
          · have HFC := As.mk hpc
            go_wp2_with (first | (go_at_call 160; refine (HC.out _ _ _ hs3 HB2.out.drew (grownCap_ge _ _ _ _)).mono ?_; rintro e w' ⟨rfl, hB3, hblk⟩) | (refine (HF.out _ _).mono ?_; rintro e w' ⟨rfl, rfl⟩))
            go_ret
            exact ⟨by rw [HM.out, if_neg (fun h => h.2 HE.out), HFC.out]; rfl, hB3⟩
          · have HFC := As.mk hpc
            go_wp2_with (first | (go_at_call 160; refine (HC.out _ _ _ hs3 HB2.out.drew (grownCap_ge _ _ _ _)).mono ?_; rintro e w' ⟨rfl, hB3, hblk⟩) | (refine (HF.out _ _).mono ?_; rintro e w' ⟨rfl, rfl⟩))
            rename_i w' hB3 hblk
            have hit3 : w'.heap[w.heap.size]? = some (.stringIter s (i + n)) := by
              have hlt3 : w.heap.size < (wr.iterAt w.heap.size s (i + n)).heap.size := (Array.getElem?_eq_some_iff.1 HIT.out).1
              exact (hblk _ hlt3).trans HIT.out
            have hi3 := iterPos_of hit3
            go_roundw
            case rel => exact ⟨false, i + n, k, rfl, ⟨hit3⟩, hB3, ⟨by rw [HM.out, if_neg (fun h => h.2 HE.out), HFC.out]; rfl⟩, by omega⟩
            case measure => rw [hi1, hi3]; omega
        · have he1 : ((((uRune s i).2.2 : Nat) : Int) != 0) = true := by rw [bne_iff_ne]; omega
          have HE := As.mk he
          clear he
          go_wp2_with (go_at_call 160; refine (HC.out _ _ _ hs3 HB2.out.drew (grownCap_ge _ _ _ _)).mono ?_; rintro e w' ⟨rfl, hB3, hblk⟩)
          go_ret
          exact ⟨by rw [HM.out, if_pos ⟨H65.out, HE.out⟩]; rfl, hB3⟩
      · have hq1 : ((c : Int) == 65533) = false := beq_eq_false_iff_ne.2 (by omega)
        have H65 := As.mk h65
        clear h65
        cases hpc : f c
        · have HFC := As.mk hpc
          go_wp2_with (refine (HF.out _ _).mono ?_; rintro e w' ⟨rfl, rfl⟩)
          go_ret
          exact ⟨by rw [HM.out, if_neg (fun h => H65.out h.1), HFC.out]; rfl, hbl2⟩
        · have HFC := As.mk hpc
          go_wp2_with (refine (HF.out _ _).mono ?_; rintro e w' ⟨rfl, rfl⟩)
          go_roundw
          case rel => exact ⟨false, i + n, k, rfl, HIT, hbl2, ⟨by rw [HM.out, if_neg (fun h => H65.out h.1), HFC.out]; rfl⟩, by omega⟩
          case measure => rw [hi1, hi2]; omega
    · have hn := fun ty => Lib.run_next_end_at (P := Tryz.prog) wr w.heap.size s i ty hit.out hlt
      have HM := As.mk (show made p q s = decide (s.size ≠ 0) by rw [hM.out, madeFrom_end _ _ _ _ _ hlt, Bool.true_and])
      clear hM
      go_wp2
      go_ret
      exact ⟨by rw [HM.out]; exact congrArg (fun b => Ending.returned (Value.bool b)) (size_nonempty s), hbl⟩
end Go.Proofs.YtainigjbjfpoaaaGreatDoor
