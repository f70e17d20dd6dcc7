/- names.Keyword, Word, Words, Right. -/
import Derived.Test.YtainigjbjfpoaaaGreatDoorCKey
namespace Go.Proofs.YtainigjbjfpoaaaGreatDoor
open Go.RowKit Go.Shelf Go.Maps

theorem kwf_has (pre : List ByteArray) (s : ByteArray) : (kwf pre s).getD false = has pre s := by
  unfold kwf
  cases has pre s <;> rfl

theorem keyword_calls (s : ByteArray) (w : World) (hs : s.size ≤ maxLen) : Calls Tryz.prog 143 #[.string s] w fun e w' => e = .returned (.bool (has keywords s)) ∧ Below w.heap.size w w' := by
  go_enter Tryz.func143, Tryz.ntmps143
  go_wp2_with (go_at_call 162; refine (keywords_calls _).mono ?_; rintro e w' ⟨b, n, rfl, hm, hb⟩; have hL : (Instr.lookup 55 (.map (some b)) (.string s) false).run Tryz.prog w' = .ok (.bool ((kwf keywords s).getD false)) w' := hm.look hs; rw [kwf_has] at hL)
  go_ret
  exact ⟨rfl, hb⟩

/-- a word that is no keyword -/
def word (s : ByteArray) : Bool := made first next s && !has keywords s

theorem word_calls (P : Pers) (G : Glob P) (s : ByteArray) (w : World) (hz : s.size ≤ maxStr) (hs : Sat P w) : Calls Tryz.prog 119 #[.string s] w fun e w' => e = .returned (.bool (word s)) ∧ Below w.heap.size w w' := by
  have hz1 : s.size ≤ maxLen := Nat.le_trans hz (by decide)
  have HM := As.mk (fun w (hs : Sat P w) => made_calls P G first next 141 142 s w hz hs (enters_of Tryz.func141 (by kernel_rfl) rfl) (enters_of Tryz.func142 (by kernel_rfl) rfl) first_calls next_calls)
  go_enter Tryz.func119, Tryz.ntmps119
  cases hm : made first next s
  · go_wp2_with (go_at_call 140; refine (HM.out _ hs).mono ?_; rintro e w' ⟨rfl, hb⟩; rw [hm])
    go_ret
    exact ⟨by simp [word, hm], hb⟩
  · go_wp2_with (first | (go_at_call 140; refine (HM.out _ hs).mono ?_; rintro e w' ⟨rfl, hb⟩; rw [hm]) | (go_at_call 143; refine (keyword_calls _ _ hz1).mono ?_; rintro e w2 ⟨rfl, hb2⟩))
    go_ret
    exact ⟨by simp [word, hm], Below.then hb hb2⟩

theorem word1_calls (P : Pers) (G : Glob P) (s : ByteArray) (w : World) (hz : s.size ≤ maxStr) (hs : Sat P w) : Calls Tryz.prog 118 #[.string s] w fun e w' => e = .returned (.bool (!word s)) ∧ Below w.heap.size w w' := by
  go_enter Tryz.func118, Tryz.ntmps118
  go_wp2_with (go_at_call 119; refine (word_calls P G s _ hz hs).mono ?_; rintro e w' ⟨rfl, hb⟩)
  go_ret
  exact ⟨by simp, hb⟩

def space : ByteArray := ⟨#[32]⟩
/-- a name's words -/
def wordsOf (s : ByteArray) : List ByteArray := Lib.splitB space 0 (Lib.countB s space) s
theorem splitB_sizes (sep : ByteArray) : ∀ (k : Nat) (s x : ByteArray), x ∈ Lib.splitB sep 0 k s → x.size ≤ s.size
  | 0, s, x, h => by rw [Lib.splitB_zero, List.mem_singleton] at h; rw [h]; exact Nat.le_refl _
  | k + 1, s, x, h => by
    rcases Lib.indexB_cases s sep with h0 | ⟨i, h0, _⟩
    · rw [Lib.splitB_miss _ _ _ _ h0, List.mem_singleton] at h
      rw [h]; exact Nat.le_refl _
    · rw [Lib.splitB_hit _ _ _ _ i h0, List.mem_cons] at h
      rcases h with rfl | h
      · rw [ByteArray.size_extract]; omega
      · have := splitB_sizes sep k _ x h
        rw [ByteArray.size_extract] at this
        omega
theorem wordsOf_sizes {s x : ByteArray} (h : x ∈ wordsOf s) : x.size ≤ s.size := splitB_sizes _ _ _ _ h
theorem wordsOf_length (s : ByteArray) : (wordsOf s).length = Lib.countB s space + 1 := Lib.splitB_all space (by decide) 0 _ s rfl
theorem wordsOf_le (s : ByteArray) : (wordsOf s).length ≤ s.size + 1 := by
  have := Lib.countB_le space (by decide) _ s (Nat.le_refl _)
  rw [wordsOf_length]
  omega

/-- is it a name? -/
def right (s : ByteArray) : Bool := (wordsOf s).all word

set_option maxRecDepth 100000 in
set_option maxHeartbeats 1000000 in
theorem words_calls (P : Pers) (G : Glob P) (s : ByteArray) (w : World) (hz : s.size ≤ maxStr) (hs : Sat P w) : Calls Tryz.prog 87 #[.string s] w fun e w' => (∃ A n c, e = .returned (.tuple #[.slice A n c, .bool (right s)])) ∧ Below w.heap.size w w' := by
  obtain ⟨m, hm⟩ := G.m
  have hz1 : s.size ≤ 1073741824 := hz
  have hsp : Calls Tryz.prog 117 #[.string s, .string ⟨#[32]⟩] w fun e w' => e = .returned (.slice (some ⟨w.heap.size, 0, none⟩) (wordsOf s).length (wordsOf s).length) ∧ w' = w.alloc (.cells ((wordsOf s).map Value.string).toArray 9) := by
    rw [wordsOf_length]
    exact Tryz.strings_Split s space m w (by omega) (hs _ _ hm) (by decide)
  have hB : Below w.heap.size w (w.alloc (.cells ((wordsOf s).map Value.string).toArray 9)) := (Below.refl _ w).alloc (Nat.le_refl _) _
  obtain ⟨Q, hQ⟩ : ∃ Q, Q = P.put w.heap.size 0 ((wordsOf s).map Value.string) := ⟨_, rfl⟩
  have hPQ : PLe P Q := hQ ▸ Pers.le_put _ _ _ _
  have hsQ : Sat Q (w.alloc (.cells ((wordsOf s).map Value.string).toArray 9)) := by
    rw [hQ]
    refine Sat.put (hs.alloc _) fun j v hj => ?_
    rw [Nat.zero_add, World.cell?_alloc_mark]
    simpa using hj
  have hrow : Strs Q (some ⟨w.heap.size, 0, none⟩) (wordsOf s) := by
    refine Row.made ((wordsOf s).map fun x => [.string x]) (by have := wordsOf_le s; unfold maxRow; omega) (by simp) (fun i x cs hx hc => ?_) (fun i cs j v hc hv => ?_)
    · rw [List.getElem?_map, hx] at hc
      cases hc
      exact ⟨rfl, Nat.le_trans (wordsOf_sizes (List.mem_of_getElem? hx)) hz⟩
    · rw [List.getElem?_map] at hc
      cases hx : (wordsOf s)[i]? with
      | none => rw [hx] at hc; cases hc
      | some x =>
        rw [hx] at hc
        cases hc
        cases j with
        | succ j => simp at hv
        | zero =>
          simp at hv
          rw [hQ]
          have := Pers.put_at P w.heap.size 0 ((wordsOf s).map Value.string) (j := i) (v := v) (by rw [List.getElem?_map, hx, ← hv]; rfl)
          simpa using this
  have C := As.mk (containsFuncStr_calls Q (fun x => !word x) 118 #[] (some ⟨w.heap.size, 0, none⟩) (wordsOf s).length (wordsOf s) _ hrow hsQ (enters_of Tryz.func118 (by kernel_rfl) rfl)
    (fun x w' _ hx hs' => word1_calls P G x w' hx (hs'.le hPQ)))
  have HS := As.mk hsp
  have HB := As.mk hB
  clear hsp hrow hsQ hB hPQ hs hm
  go_enter Tryz.func87, Tryz.ntmps87
  have ha : right s = !(wordsOf s).any fun x => !word x := by rw [right, List.all_eq_not_any_not]
  cases h : (wordsOf s).any fun x => !word x
  all_goals
    rw [h] at ha
    go_wp2_with (first | (go_at_call 117; refine HS.out.mono ?_; rintro e w' ⟨rfl, rfl⟩) | (go_at_call 95; refine C.out.mono ?_; rintro e w2 ⟨rfl, hb2⟩; rw [h]))
    go_ret2
    refine ⟨⟨_, _, _, by rw [ha]; rfl⟩, Below.then HB.out hb2⟩

theorem right_calls (P : Pers) (G : Glob P) (s : ByteArray) (w : World) (hz : s.size ≤ maxStr) (hs : Sat P w) : Calls Tryz.prog 53 #[.string s] w fun e w' => e = .returned (.bool (right s)) ∧ Below w.heap.size w w' := by
  go_enter Tryz.func53, Tryz.ntmps53
  go_wp2_with (go_at_call 87; refine (words_calls P G s _ hz hs).mono ?_; rintro e w' ⟨⟨A, n, c, rfl⟩, hb⟩)
  go_ret
  exact ⟨rfl, hb⟩
end Go.Proofs.YtainigjbjfpoaaaGreatDoor
