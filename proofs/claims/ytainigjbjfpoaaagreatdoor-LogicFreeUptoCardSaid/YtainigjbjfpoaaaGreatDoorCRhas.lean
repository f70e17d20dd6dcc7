/- tipstaveref09.Has; texts that rise, and one more. -/
/- tipstaveref02.All, Keyword, Word. -/
/- tipstaveref02.Words, Right. -/
/- tipstaveref09.With. -/
import Derived.Test.YtainigjbjfpoaaaGreatDoorCKey
import Derived.Sort.Walk0
import Derived.Test.YtainigjbjfpoaaaGreatDoorCRuf
import Derived.Lib.SplitLaws
import Derived.Test.YtainigjbjfpoaaaGreatDoorCFreeOf
import Derived.Test.YtainigjbjfpoaaaGreatDoorCLgFree
import Derived.Test.YtainigjbjfpoaaaGreatDoorCConcat
namespace Go.Proofs.YtainigjbjfpoaaaGreatDoor
open Go.RowKit Go.Shelf

theorem has_take_succ {xs : List ByteArray} {k : Nat} {x y : ByteArray} (h : xs[k]? = some y) : has (xs.take (k + 1)) x = (has (xs.take k) x || decide (x = y)) := by
  rw [take_one h]
  simp [has]
theorem has_true_of {xs : List ByteArray} {k : Nat} {x : ByteArray} (h : xs[k]? = some x) : has xs x = true := has_iff.2 (List.mem_of_getElem? h)

set_option maxHeartbeats 400000 in
/-- ref09.Has -/
theorem rhas_calls (P : Pers) (A : Option Addr) (c : Nat) (xs : List ByteArray) (x : ByteArray) (w : World) (h : Strs P A xs) (hs : Sat P w) :
    Calls Tryz.prog 31 #[.slice A xs.length c, .string x] w fun e w' => e = .returned (.bool (has xs x)) ∧ w = w' := by
  have hm := h.len63
  go_enter Tryz.func31, Tryz.ntmps31
  go_wp2
  go_loop [5] (fun i => ∃ k : Nat, k ≤ xs.length ∧ i = .int .i64 k ∧ As (has (xs.take k) x = false)) (fun i => xs.length - (intOf i).toNat)
  case atStart => exact ⟨0, Nat.zero_le _, rfl, ⟨rfl⟩⟩
  case round =>
    obtain ⟨k, hk, rfl, hall⟩ := hrel
    by_cases hlt : k < xs.length
    · obtain ⟨y, hy⟩ : ∃ y, xs[k]? = some y := ⟨_, List.getElem?_eq_getElem hlt⟩
      obtain ⟨b1, o1, rfl, px, _⟩ := Row.str h hy
      have d1 := hs _ _ px
      have HY := As.mk hy
      clear hy px
      by_cases hxy : x = y
      · subst hxy
        have HT := As.mk (has_true_of HY.out)
        have hq : (x.toList == x.toList) = true := by simp
        go_wp2
        go_ret
        exact ⟨by rw [HT.out]; rfl, rfl⟩
      · have HN := As.mk (show has (xs.take (k + 1)) x = false by rw [has_take_succ HY.out, hall.out, decide_eq_false hxy]; rfl)
        have hq : (y.toList == x.toList) = false := beq_eq_false_iff_ne.2 (fun e => hxy (toList_inj.1 e).symm)
        clear hxy
        go_wp2
        go_round
        case rel => exact ⟨k + 1, by omega, by go_num, HN⟩
        case measure => simp [intOf]; omega
    · obtain rfl : k = xs.length := by omega
      have HN := As.mk (show has xs x = false by have := hall.out; rw [List.take_length] at this; exact this)
      clear hall
      go_wp2
      go_ret
      exact ⟨by rw [HN.out]; rfl, rfl⟩

/-- is a text ahead of another one? -/
def lessB (a b : ByteArray) : Bool := Op.bytesLess a.data.toList b.data.toList
theorem lessB_iff (a b : ByteArray) : lessB a b = true ↔ a.data.toList < b.data.toList := by rw [lessB, bytesLess_eq, decide_eq_true_eq]
/-- where a text goes, from behind -/
def insPos (x : ByteArray) (l : List ByteArray) : Nat → Nat
  | 0 => 0
  | k + 1 => if lessB x (l[k]?.getD ⟨#[]⟩) then insPos x l k else k + 1
def insT (x : ByteArray) (l : List ByteArray) : List ByteArray := l.take (insPos x l l.length) ++ x :: l.drop (insPos x l l.length)
theorem insPos_le (x : ByteArray) (l : List ByteArray) : ∀ k, insPos x l k ≤ k
  | 0 => Nat.le_refl _
  | k + 1 => by unfold insPos; split; exact Nat.le_succ_of_le (insPos_le x l k); exact Nat.le_refl _
theorem insT_perm (x : ByteArray) (l : List ByteArray) : (insT x l).Perm (x :: l) := by
  unfold insT
  refine List.perm_middle.trans (List.Perm.cons _ ?_)
  rw [List.take_append_drop]
/-- texts that rise -/
def Rising (l : List ByteArray) : Prop := l.Pairwise fun a b => a.data.toList < b.data.toList
theorem lt_trich (a b : ByteArray) (h : a ≠ b) (hn : ¬ a.data.toList < b.data.toList) : b.data.toList < a.data.toList := by
  have h1 : b.data.toList ≤ a.data.toList := List.not_lt.1 hn
  rcases Decidable.em (b.data.toList < a.data.toList) with h2 | h2
  · exact h2
  · exact absurd (ByteArray.ext (Array.toList_inj.1 (List.le_antisymm (List.not_lt.1 h2) h1))) (fun e => h e)
theorem insPos_above (x : ByteArray) (l : List ByteArray) : ∀ k j, insPos x l k ≤ j → j < k → lessB x (l[j]?.getD ⟨#[]⟩) = true
  | 0, j, _, h => by omega
  | k + 1, j, h1, h2 => by
    unfold insPos at h1
    split at h1
    · rename_i hl
      rcases Nat.lt_or_ge j k with h3 | h3
      · exact insPos_above x l k j h1 h3
      · obtain rfl : j = k := by omega
        exact hl
    · omega
theorem insPos_below (x : ByteArray) (l : List ByteArray) : ∀ k, 0 < insPos x l k → lessB x (l[insPos x l k - 1]?.getD ⟨#[]⟩) = false
  | 0, h => by simp [insPos] at h
  | k + 1, h => by
    unfold insPos at h ⊢
    split
    · rename_i hl
      rw [if_pos hl] at h
      exact insPos_below x l k h
    · rename_i hl
      simpa using hl
theorem insT_rising {x : ByteArray} {l : List ByteArray} (hl : Rising l) (hx : x ∉ l) : Rising (insT x l) := by
  unfold insT
  have hp := insPos_le x l l.length
  have ha := insPos_above x l l.length
  have hb := insPos_below x l l.length
  generalize insPos x l l.length = p at *
  have hsp : (l.take p ++ l.drop p).Pairwise fun a b : ByteArray => a.data.toList < b.data.toList := by rw [List.take_append_drop]; exact hl
  obtain ⟨h1, h2, h3⟩ := List.pairwise_append.1 hsp
  have hup : ∀ y ∈ l.drop p, x.data.toList < y.data.toList := fun y hy => by
    obtain ⟨j, hj⟩ := List.getElem?_of_mem hy
    rw [List.getElem?_drop] at hj
    have hjl := (List.getElem?_eq_some_iff.1 hj).1
    have := ha (p + j) (by omega) hjl
    rw [hj, lessB_iff] at this
    exact this
  have hlow : ∀ y ∈ l.take p, y.data.toList < x.data.toList := fun y hy => by
    obtain ⟨j, hj⟩ := List.getElem?_of_mem hy
    have hjt := (List.getElem?_eq_some_iff.1 hj).1
    rw [List.length_take] at hjt
    rw [List.getElem?_take_of_lt (by omega)] at hj
    have h4 := hb (by omega)
    obtain ⟨z, hz⟩ : ∃ z, l[p - 1]? = some z := ⟨l[p - 1], List.getElem?_eq_getElem (by omega)⟩
    rw [hz] at h4
    have hzx : z.data.toList < x.data.toList := lt_trich x z (fun e => hx (e ▸ List.mem_of_getElem? hz)) (fun h => by rw [← lessB_iff] at h; rw [show (some z).getD (⟨#[]⟩ : ByteArray) = z from rfl, h] at h4; cases h4)
    rcases Nat.lt_or_ge j (p - 1) with h5 | h5
    · have h6 := (List.pairwise_iff_getElem.1 hl) j (p - 1) (by omega) (by omega) h5
      rw [List.getElem?_eq_getElem (by omega)] at hj hz
      simp only [Option.some.injEq] at hj hz
      rw [hj, hz] at h6
      exact List.lt_trans h6 hzx
    · obtain rfl : j = p - 1 := by omega
      rw [hz] at hj
      cases hj
      exact hzx
  refine List.pairwise_append.2 ⟨h1, List.pairwise_cons.2 ⟨hup, h2⟩, fun a hA b hB => ?_⟩
  rcases List.mem_cons.1 hB with rfl | hB
  · exact hlow a hA
  · exact List.lt_trans (hlow a hA) (hup b hB)
def addOne (o : List ByteArray) (x : ByteArray) : List ByteArray := if has o x then o else insT x o
def addAll (l more : List ByteArray) : List ByteArray := more.foldl addOne l
theorem addOne_mem {o : List ByteArray} {x s : ByteArray} : s ∈ addOne o x ↔ s ∈ o ∨ s = x := by
  unfold addOne
  split
  · rename_i h
    exact ⟨Or.inl, fun h' => h'.elim id (fun e => e ▸ has_iff.1 h)⟩
  · rw [(insT_perm x o).mem_iff, List.mem_cons]; exact Or.comm
theorem addOne_rising {o : List ByteArray} {x : ByteArray} (h : Rising o) : Rising (addOne o x) := by
  unfold addOne
  split
  · exact h
  · rename_i hx
    exact insT_rising h (fun h' => hx (has_iff.2 h'))
theorem addAll_mem {l : List ByteArray} {s : ByteArray} : ∀ {more : List ByteArray} , s ∈ addAll l more ↔ s ∈ l ∨ s ∈ more := by
  intro more
  induction more generalizing l with
  | nil => simp [addAll]
  | cons x m ih =>
    have : addAll l (x :: m) = addAll (addOne l x) m := rfl
    rw [this, ih, addOne_mem, List.mem_cons, or_assoc]
theorem addAll_rising : ∀ {more l : List ByteArray}, Rising l → Rising (addAll l more) := by
  intro more
  induction more with
  | nil => exact fun h => h
  | cons x m ih => exact fun h => ih (addOne_rising h)
theorem insT_length (x : ByteArray) (l : List ByteArray) : (insT x l).length = l.length + 1 := (insT_perm x l).length_eq
theorem addOne_length (o : List ByteArray) (x : ByteArray) : (addOne o x).length ≤ o.length + 1 := by unfold addOne; split; omega; rw [insT_length]; exact Nat.le_refl _
theorem addAll_length : ∀ (more l : List ByteArray), (addAll l more).length ≤ l.length + more.length
  | [], l => Nat.le_refl _
  | x :: m, l => by
    have h1 := addAll_length m (addOne l x)
    have h2 := addOne_length l x
    have : addAll l (x :: m) = addAll (addOne l x) m := rfl
    rw [this, List.length_cons]
    omega
/-- lists that rise are the same if they have the same texts -/
theorem Rising.ext {a b : List ByteArray} (ha : Rising a) (hb : Rising b) (h : ∀ s, s ∈ a ↔ s ∈ b) : a = b := by
  have na : a.Nodup := ha.imp fun h e => by rw [e] at h; exact List.lt_irrefl _ h
  have nb : b.Nodup := hb.imp fun h e => by rw [e] at h; exact List.lt_irrefl _ h
  exact ((List.perm_ext_iff_of_nodup na nb).2 h).eq_of_pairwise (fun x y _ _ h1 h2 => absurd (List.lt_trans h1 h2) (List.lt_irrefl _)) ha hb
end Go.Proofs.YtainigjbjfpoaaaGreatDoor

namespace Go.Proofs.YtainigjbjfpoaaaGreatDoor
open Go.RowKit Go.Shelf

theorem rallNames_calls (w : World) : Calls Tryz.prog 153 #[] w fun e w' => e = .returned (.slice (some ⟨w.heap.size, 0, none⟩) keywords.length 17) ∧ w' = w.alloc (.cells (keywords.map Value.string).toArray 9) := by
  go_enter Tryz.func153, Tryz.ntmps153
  go_wp2
  go_ret
  exact ⟨rfl, rfl⟩

set_option maxHeartbeats 400000 in
theorem rkeyword_calls (x : ByteArray) (w : World) : Calls Tryz.prog 135 #[.string x] w fun e w' => e = .returned (.bool (has keywords x)) ∧ Below w.heap.size w w' := by
  have hB : ∀ cs, Below w.heap.size w (w.alloc (.cells cs 9)) := fun cs => (Below.refl _ _).alloc (Nat.le_refl _) _
  have HALL := As.mk (rallNames_calls w)
  have hkl : As (keywords.length = 17) := ⟨rfl⟩
  obtain ⟨xs, hxs⟩ : ∃ xs, keywords = xs := ⟨_, rfl⟩
  rw [hxs] at HALL hkl ⊢
  clear hxs
  have HB := As.mk (hB (xs.map Value.string).toArray)
  have HC := As.mk (fun (j : Nat) (y : ByteArray) (hj : xs[j]? = some y) => show (w.alloc (.cells (xs.map Value.string).toArray 9)).cell? ⟨w.heap.size, j, none⟩ = some (.string y) by
    rw [World.cell?_alloc_mark]
    simp only [List.getElem?_toArray, List.getElem?_map, hj]
    rfl)
  have hm : xs.length ≤ 17 := by have := hkl.out; omega
  clear hB hkl
  go_enter Tryz.func135, Tryz.ntmps135
  go_wp2_with (go_at_call 153; refine HALL.out.mono ?_; rintro e w' ⟨rfl, rfl⟩)
  generalize w.alloc (.cells (xs.map Value.string).toArray 9) = w1 at *
  go_loop [4] (fun i => ∃ k : Nat, k ≤ xs.length ∧ i = .int .i64 k ∧ As (has (xs.take k) x = false)) (fun i => xs.length - (intOf i).toNat)
  case atStart => exact ⟨0, Nat.zero_le _, rfl, ⟨rfl⟩⟩
  case round =>
    obtain ⟨k, hk, rfl, hall⟩ := hrel
    by_cases hlt : k < xs.length
    · obtain ⟨y, hy⟩ : ∃ y, As (xs[k]? = some y) := ⟨_, ⟨List.getElem?_eq_getElem hlt⟩⟩
      have d1 := HC.out k y hy.out
      by_cases hxy : x = y
      · subst hxy
        have HT := As.mk (has_true_of hy.out)
        have hq : (x.toList == x.toList) = true := by simp
        go_wp2
        go_ret
        exact ⟨by rw [HT.out]; rfl, HB.out⟩
      · have HN := As.mk (show has (xs.take (k + 1)) x = false by rw [has_take_succ hy.out, hall.out, decide_eq_false hxy]; rfl)
        have hq : (y.toList == x.toList) = false := beq_eq_false_iff_ne.2 (fun e => hxy (toList_inj.1 e).symm)
        clear hxy
        go_wp2
        go_round
        case rel => exact ⟨k + 1, by omega, by go_num, HN⟩
        case measure => simp [intOf]; omega
    · obtain rfl : k = xs.length := by omega
      have HN := As.mk (show has xs x = false by have := hall.out; rw [List.take_length] at this; exact this)
      clear hall
      go_wp2
      go_ret
      exact ⟨by rw [HN.out]; rfl, HB.out⟩

/-! ### the program's answer is the document's -/
def allC (p q : Int → Bool) : Option (List Int) → Bool
  | none => false
  | some [] => true
  | some (c :: l) => p c && l.all q
theorem allC_cons (p q : Int → Bool) (c : Int) (o : Option (List Int)) : allC p q (o.map (c :: ·)) = (p c && allC q q o) := by
  cases o with
  | none => simp [allC]
  | some l =>
    cases l with
    | nil => simp [allC]
    | cons d l => simp [allC]
theorem made_chars (s : ByteArray) (q : Int → Bool) (hq : ∀ c, q c = true → fine c = true) : ∀ (k i : Nat) (p : Int → Bool), (∀ c, p c = true → fine c = true) → madeFrom p q s k i = allC p q (charsFrom s k i)
  | 0, i, p, _ => rfl
  | k + 1, i, p, hp => by
    by_cases h : i < s.size
    · simp only [madeFrom, charsFrom, if_pos h]
      have hw := Lib.width_pos s i
      unfold uRune
      by_cases hb : ((Utf8.decode s i).1 = 65533 ∧ (Utf8.decode s i).2 < 2) ∨ fine (Utf8.decode s i).1 = false
      · simp only [if_pos hb, if_true, allC]
        by_cases h6 : (Utf8.decode s i).1 = 65533
        · simp [h6]
        · have hf : fine (Utf8.decode s i).1 = false := by
            rcases hb with hb | hb
            · exact absurd hb.1 h6
            · exact hb
          have hpf : p (Utf8.decode s i).1 = false := by
            cases hpc : p (Utf8.decode s i).1
            · rfl
            · rw [hp _ hpc] at hf; cases hf
          simp [h6, hpf]
      · simp only [if_neg hb]
        rw [if_neg (by omega : ¬ (Utf8.decode s i).2 = 0), allC_cons, made_chars s q hq k _ q hq]
        simp
    · rw [madeFrom_end _ _ _ _ _ h, charsFrom_end _ _ _ h]
      rfl
theorem first_fine (c : Int) (h : first c = true) : fine c = true := by
  unfold first at h
  split at h
  · have : 65 ≤ c ∧ c ≤ 122 := by
      simp at h
      omega
    unfold fine validRune
    rw [if_neg (by omega), if_neg (by omega), decide_eq_true (by omega)]
    rfl
  · simp at h
    exact h.2
theorem next_fine (c : Int) (h : next c = true) : fine c = true := by
  unfold next at h
  cases hf : first c
  · rw [hf] at h
    have : 48 ≤ c ∧ c ≤ 57 := by simpa using h
    unfold fine validRune
    rw [if_neg (by omega), if_neg (by omega), decide_eq_true (by omega)]
    rfl
  · exact first_fine c hf
theorem chars_size0 (s : ByteArray) (h : s.size = 0) : chars s = some [] := by unfold chars; rw [h]; rfl
theorem made_eq (p q : Int → Bool) (hp : ∀ c, p c = true → fine c = true) (hq : ∀ c, q c = true → fine c = true) (s : ByteArray) : made p q s = match chars s with
    | some (c :: l) => p c && l.all q
    | _ => false := by
  unfold made
  rw [made_chars s q hq _ _ p hp]
  by_cases h : s.size = 0
  · rw [chars_size0 s h]
    simp [h]
  · have hne : charsFrom s s.size 0 ≠ some [] := by
      obtain ⟨k, hk⟩ : ∃ k, s.size = k + 1 := ⟨s.size - 1, by omega⟩
      rw [hk, charsFrom, if_pos (by omega)]
      split
      · simp
      · cases charsFrom s k (0 + (uRune s 0).2.1) <;> simp
    unfold chars
    generalize charsFrom s s.size 0 = o at *
    match o, hne with
    | none, _ => rfl
    | some (c :: l), _ => simp [allC, h]
    | some [], h' => exact absurd rfl h'
theorem word_eq (s : ByteArray) : word s = match chars s with
    | some (c :: l) => first c && !has keywords s && l.all next
    | _ => false := by
  unfold word
  rw [made_eq first next first_fine next_fine]
  split
  · rw [Bool.and_assoc, Bool.and_comm (List.all _ _), ← Bool.and_assoc]
  · rfl

theorem ownsRow_slice {W : World} {base : Nat} {e : TypeId} {sz : Nat} {v : Value} {n : Nat} {xs : List Value} (h : W.ownsRow base e sz v (n + 1) xs) : ∃ g cap, v = .slice (some ⟨g, 0, none⟩) (n + 1) cap := by
  rcases h.2 with ⟨_, h0⟩ | ⟨g, cap, cur, rfl, _⟩
  · omega
  · exact ⟨g, cap, rfl⟩

set_option maxRecDepth 100000 in
set_option maxHeartbeats 1000000 in
theorem rword_calls (s : ByteArray) (w : World) (hz : s.size ≤ maxStr) : Calls Tryz.prog 113 #[.string s] w fun e w' => e = .returned (.bool (word s)) ∧ Below w.heap.size w w' := by
  have HC := As.mk (chars_calls s w hz)
  have HW := As.mk (word_eq s)
  go_enter Tryz.func113, Tryz.ntmps113
  go_wp2_with fail
  refine HC.out.mono ?_
  rintro e w1 ⟨⟨hch, rfl⟩ | ⟨xs, v, hch, rfl, hrow⟩, hb1⟩
  · have HF := As.mk (show word s = false by rw [HW.out, hch])
    clear hch
    go_wp2_with fail
    go_ret
    exact ⟨by rw [HF.out]; rfl, hb1⟩
  · cases xs with
    | nil =>
      have HF := As.mk (show word s = false by rw [HW.out, hch])
      clear hch
      obtain ⟨a, cap, rfl⟩ : ∃ a cap, v = .slice a 0 cap := by
        rcases hrow.2 with ⟨rfl, _⟩ | ⟨g, cap, cur, rfl, _⟩
        · exact ⟨_, _, rfl⟩
        · exact ⟨_, _, rfl⟩
      go_wp2_with fail
      go_ret
      exact ⟨by rw [HF.out]; rfl, hb1⟩
    | cons c l =>
      rw [hch] at HW
      obtain ⟨g, cap, rfl⟩ := ownsRow_slice hrow
      have hl63 : l.length + 1 ≤ maxLen := by
        rcases hrow.2 with ⟨h0, _⟩ | ⟨g', cap', cur, he, _, _, h1, h2, _⟩
        · cases h0
        · exact Nat.le_trans h1 h2
      unfold maxLen at hl63
      have c0 : w1.cell? ⟨g, 0, none⟩ = some (.int .i64 c) := (hrow.cellAt 0 (by simp)).trans rfl
      have HR := As.mk (fun j (y : Int) (hj : l[j]? = some y) => show w1.cell? ⟨g, j + 1, none⟩ = some (.int .i64 y) by
        have hjl := (List.getElem?_eq_some_iff.1 hj).1
        refine (hrow.cellAt (j + 1) (by simp; omega)).trans ?_
        simp [hj])
      have hg : g < w1.heap.size := (hrow.lt g rfl).2
      have HBB := As.mk hb1
      clear hch hrow hb1
      have hq0 : ((l.length : Int) + 1 == 0) = false := beq_eq_false_iff_ne.2 (by omega)
      cases hf : first c
      · have HF := As.mk (show word s = false by rw [HW.out]; simp [hf])
        go_wp2_with (go_at_call 134; refine (rfirst_calls _ _).mono ?_; rintro e w2 ⟨rfl, rfl⟩; rw [hf])
        go_ret
        exact ⟨by rw [HF.out]; rfl, HBB.out⟩
      · cases hk : has keywords s
        · have HT := As.mk (show word s = l.all next by rw [HW.out]; simp [hf, hk])
          go_wp2_with (first | (go_at_call 134; refine (rfirst_calls _ _).mono ?_; rintro e w2 ⟨rfl, rfl⟩; rw [hf]) | (go_at_call 135; refine (rkeyword_calls _ _).mono ?_; rintro e w2 ⟨rfl, hb2⟩; rw [hk]))
          have HR2 := As.mk (fun j (y : Int) (hj : l[j]? = some y) => (bcell hb2 g (j + 1) hg).trans (HR.out j y hj))
          have HB2 := As.mk (Below.then HBB.out hb2)
          clear hb2 c0
          go_loop [5] (fun i => ∃ k : Nat, k ≤ l.length ∧ i = .int .i64 (k + 1 : Nat) ∧ As (l.all next = (l.drop k).all next)) (fun i => l.length + 1 - (intOf i).toNat)
          case atStart => exact ⟨0, Nat.zero_le _, rfl, ⟨rfl⟩⟩
          case round =>
            obtain ⟨k, hkl, rfl, hall⟩ := hrel
            by_cases hlt : k < l.length
            · obtain ⟨y, hy⟩ : ∃ y, As (l[k]? = some y) := ⟨_, ⟨List.getElem?_eq_getElem hlt⟩⟩
              have d1 := HR2.out k y hy.out
              have hd : l.drop k = y :: l.drop (k + 1) := by rw [List.drop_eq_getElem_cons hlt]; have := hy.out; rw [List.getElem?_eq_getElem hlt] at this; cases this; rfl
              have HA := As.mk (show l.all next = (next y && (l.drop (k + 1)).all next) by rw [hall.out, hd]; rfl)
              clear hd
              cases hn : next y
              · have HF := As.mk (show word s = false by rw [HT.out, HA.out, hn]; rfl)
                go_wp2_with (go_at_call 136; refine (rnext_calls _ _).mono ?_; rintro e w3 ⟨rfl, rfl⟩; rw [hn])
                go_ret
                exact ⟨by rw [HF.out]; rfl, HB2.out⟩
              · have HN := As.mk (show l.all next = (l.drop (k + 1)).all next by rw [HA.out, hn]; rfl)
                go_wp2_with (go_at_call 136; refine (rnext_calls _ _).mono ?_; rintro e w3 ⟨rfl, rfl⟩; rw [hn])
                go_round
                case rel => exact ⟨k + 1, by omega, by go_num, HN⟩
                case measure => simp [intOf]; omega
            · obtain rfl : k = l.length := by omega
              have HF := As.mk (show word s = true by rw [HT.out, hall.out, List.drop_eq_nil_of_le (Nat.le_refl _)]; rfl)
              go_wp2_with fail
              go_ret
              exact ⟨by rw [HF.out]; rfl, HB2.out⟩
        · have HF := As.mk (show word s = false by rw [HW.out]; simp [hf, hk])
          go_wp2_with (first | (go_at_call 134; refine (rfirst_calls _ _).mono ?_; rintro e w2 ⟨rfl, rfl⟩; rw [hf]) | (go_at_call 135; refine (rkeyword_calls _ _).mono ?_; rintro e w2 ⟨rfl, hb2⟩; rw [hk]))
          go_ret
          exact ⟨by rw [HF.out]; rfl, Below.then HBB.out hb2⟩
end Go.Proofs.YtainigjbjfpoaaaGreatDoor

namespace Go.Proofs.YtainigjbjfpoaaaGreatDoor
open Go.RowKit Go.Shelf

/-- a text's words: cut at each blank -/
def spl : List UInt8 → List (List UInt8)
  | [] => [[]]
  | b :: l => if b = 32 then [] :: spl l else (b :: (spl l).headD []) :: (spl l).tail
theorem spl_ne : ∀ l, spl l ≠ []
  | [] => by simp [spl]
  | b :: l => by unfold spl; split <;> simp
theorem splitK_spl : ∀ l : List UInt8, Lib.splitK [32] 0 (Lib.count l [32]) l = spl l
  | [] => by rw [Lib.count_miss (by simp [Lib.index])]; rfl
  | b :: l => by
    have ih := splitK_spl l
    by_cases h : b = 32
    · subst h
      have hix : Lib.index (32 :: l) [32] = 0 := by rw [Lib.index]; simp [List.isPrefixOf]
      rw [Lib.count_cons_eq, Nat.add_comm, Lib.splitK, hix]
      simp [ih, spl]
    · rw [Lib.count_cons_ne b 32 l h, spl, if_neg h]
      have hp : ([32] : List UInt8).isPrefixOf (b :: l) = false := by simp [List.isPrefixOf, Ne.symm h]
      have hix : Lib.index (b :: l) [32] = if Lib.index l [32] == -1 then -1 else Lib.index l [32] + 1 := by rw [Lib.index, hp]; simp
      rw [← ih]
      by_cases hm : Lib.index l [32] = -1
      · rw [Lib.count_miss hm]; rfl
      · have hge := Lib.index_ge l [32]
        obtain ⟨j, hj⟩ : ∃ j : Nat, Lib.index l [32] = j := ⟨(Lib.index l [32]).toNat, by omega⟩
        rw [if_neg (by simpa using hm), hj] at hix
        rw [Lib.count_hit (by simp) hj, Nat.add_comm, Lib.splitK, Lib.splitK, hix, hj, if_neg (by rw [beq_iff_eq]; omega), if_neg (by rw [beq_iff_eq]; omega)]
        have e1 : ((j : Int) + 1).toNat = j + 1 := by omega
        simp [e1]
/-- the last word taken on -/
def splOn (out : List (List UInt8)) (x : List UInt8) (l : List UInt8) : List (List UInt8) := out ++ (x ++ (spl l).headD []) :: (spl l).tail
theorem splOn_nil (out : List (List UInt8)) (x : List UInt8) : splOn out x [] = out ++ [x] := by simp [splOn, spl]
theorem splOn_blank (out : List (List UInt8)) (x l : List UInt8) : splOn out x (32 :: l) = splOn (out ++ [x]) [] l := by
  have h := spl_ne l
  unfold splOn
  rw [spl, if_pos rfl]
  obtain ⟨a, r, e⟩ := List.exists_cons_of_ne_nil h
  simp [e]
theorem splOn_more (out : List (List UInt8)) (x l : List UInt8) (b : UInt8) (h : b ≠ 32) : splOn out x (b :: l) = splOn out (x ++ [b]) l := by
  unfold splOn
  rw [spl, if_neg h]
  simp
theorem splOn_start (l : List UInt8) : splOn [] [] l = spl l := by
  obtain ⟨a, r, e⟩ := List.exists_cons_of_ne_nil (spl_ne l)
  simp [splOn, e]
theorem wordsOf_lists (s : ByteArray) : lists (wordsOf s) = spl s.data.toList := by
  have h := Lib.splitB_data space 0 (Lib.countB s space) s
  exact h.trans (splitK_spl s.data.toList)
theorem lists_append (a b : List ByteArray) : lists (a ++ b) = lists a ++ lists b := by simp [lists]
theorem lists_inj {a b : List ByteArray} (h : lists a = lists b) : a = b := by
  unfold lists at h
  exact (List.map_inj_right (fun x y e => ofList_inj.1 e)).1 h
theorem extract_one (s : ByteArray) (k : Nat) (h : k < s.size) : (s.extract k (k + 1)).data.toList = [s[k]] := by
  rw [Lib.extract_data]
  have hk : k < s.data.toList.length := by simpa using h
  rw [show k + 1 - k = 1 by omega, List.drop_eq_getElem_cons hk]
  simp
  rfl
theorem data_app (a b : ByteArray) : (a ++ b).data.toList = a.data.toList ++ b.data.toList := by simp
theorem drop_cons_at (s : ByteArray) (k : Nat) (h : k < s.size) : s.data.toList.drop k = s[k] :: s.data.toList.drop (k + 1) := by
  rw [List.drop_eq_getElem_cons (by simpa using h)]
  simp
  rfl

set_option maxRecDepth 100000 in
set_option maxHeartbeats 2000000 in
theorem rwords_calls (s : ByteArray) (w : World) (hz : s.size ≤ maxStr) : Calls Tryz.prog 78 #[.string s] w fun e w' =>
    (∃ A n c, e = .returned (.tuple #[.slice A n c, .bool (right s)]) ∧ (right s = true → n = (wordsOf s).length ∧ n ≤ c ∧ StrsAt w'.heap.size w' A (wordsOf s))) ∧ Below w.heap.size w w' := by
  obtain ⟨i0, hi, hz0, hz1, hz2⟩ := info_parts infoStr
  have hz3 : s.size ≤ 1073741824 := hz
  have hrow0 : (w.alloc (.cells #[.string ⟨#[]⟩] 9)).ownsRow w.heap.size 9 1 (.slice (some ⟨w.heap.size, 0, none⟩) 1 1) 1 [.string ⟨#[]⟩] := World.ownsRow_lit w _ 1 (Nat.le_refl _) (by decide) rfl
  have HROW0 := As.mk hrow0
  clear hrow0
  go_enter Tryz.func78, Tryz.ntmps78
  go_wp2_with fail
  go_loopw [4, 5] (fun v i wr => ∃ (k n cap g : Nat) (ds : List ByteArray) (x : ByteArray), i = .int .i64 k ∧ k ≤ s.size ∧ n ≤ s.size ∧ v = .slice (some ⟨g, 0, none⟩) (n + 1) cap ∧ As (n = ds.length) ∧ As (ds.length ≤ k ∧ x.size ≤ k ∧ ∀ y ∈ ds, y.size ≤ s.size) ∧ x.size ≤ 1073741824 ∧ As (spl s.data.toList = splOn (lists ds) x.data.toList (s.data.toList.drop k)) ∧
      As (wr.ownsRow w.heap.size 9 1 (.slice (some ⟨g, 0, none⟩) (n + 1) cap) (n + 1) ((ds ++ [x]).map Value.string)) ∧ As (Below w.heap.size w wr)) (fun _ i _ => s.size - (intOf i).toNat)
  case atStart => exact ⟨0, 0, 1, w.heap.size, [], ⟨#[]⟩, rfl, Nat.zero_le _, Nat.zero_le _, rfl, ⟨rfl⟩, ⟨Nat.le_refl _, Nat.le_refl _, fun y h => by simp at h⟩, by decide, ⟨by rw [List.drop_zero]; exact (splOn_start _).symm⟩, HROW0, ⟨(Below.refl _ _).alloc (Nat.le_refl _) _⟩⟩
  case round =>
    obtain ⟨k, n, cap, g, ds, x, rfl, hk, hn, rfl, hnd, hsz, hxs, hspl, hrow, hB⟩ := hrel
    by_cases hlt : k < s.size
    · have hd := drop_cons_at s k hlt
      have hspl1 := hspl.out
      rw [hd] at hspl1
      clear hd hspl
      by_cases hb : s[k] = 32
      · rw [hb, splOn_blank] at hspl1
        have HSPL := As.mk hspl1
        have hq : ((s[k].toNat : Int) == 32) = true := by rw [hb]; rfl
        have hB8 := hB.out.size
        have hrow1 := hrow.out
        have hnk : n ≤ k := by have := hnd.out; have := hsz.out.1; omega
        have HSZ := As.mk (show (ds ++ [x]).length ≤ k + 1 ∧ (⟨#[]⟩ : ByteArray).size ≤ k + 1 ∧ ∀ y ∈ ds ++ [x], y.size ≤ s.size by
          obtain ⟨h1, h2, h3⟩ := hsz.out
          refine ⟨by simp; omega, Nat.zero_le _, fun y hy => ?_⟩
          rcases List.mem_append.1 hy with hy | hy
          · exact h3 y hy
          · simp at hy; subst hy; omega)
        clear hspl1 hb hsz
        go_wp2_with (at_builtin; refine wpList_append_own _ rfl _ _ 22 rfl w.heap.size 9 i0 (.string ⟨#[]⟩) 1 16 Tryz.underlying22 hi hz0 hz1 hz2 rfl (by decide) _ _ _ rfl (hrow1.alloc _) ⟨wr.heap.size, 0, none⟩ 1 1 [.string ⟨#[]⟩] rfl rfl (cell_one_new _ _ _) (by simp [Value.oneCell']) (by unfold maxLen; omega) (by omega) (by simp; omega) ?_; intro v' w1 hown' hgrow _; obtain ⟨g', cap', rfl⟩ := ownsRow_slice hown'; have hown2 := As.mk hown'; have hgrow2 := As.mk hgrow; clear hown' hgrow)
        go_roundw
        case rel =>
          refine ⟨k + 1, n + 1, cap', g', ds ++ [x], ⟨#[]⟩, by go_num, by omega, by omega, rfl, ⟨by have := hnd.out; simp; omega⟩, HSZ, by decide, ⟨by rw [HSPL.out, lists_append]; rfl⟩, ⟨by simpa using hown2.out⟩, ⟨?_⟩⟩
          exact (hB.out.alloc hB.out.size _).grown hgrow2.out (by have := hB.out.size; simp; omega) (fun j hj => (hrow1.lt j hj).1)
        case measure => simp [intOf]; omega
      · rw [splOn_more _ _ _ _ hb] at hspl1
        have HSPL := As.mk hspl1
        have hq : ((s[k].toNat : Int) == 32) = false := beq_eq_false_iff_ne.2 (fun e => hb (by rw [← UInt8.toNat_inj]; exact Int.ofNat.inj e))
        have hnk : n ≤ k := by have := hnd.out; have := hsz.out.1; omega
        have hes : (s.extract k (k + 1)).size = 1 := by rw [ByteArray.size_extract]; omega
        have HSZ := As.mk (show ds.length ≤ k + 1 ∧ (x ++ s.extract k (k + 1)).size ≤ k + 1 ∧ ∀ y ∈ ds, y.size ≤ s.size by
          obtain ⟨h1, h2, h3⟩ := hsz.out
          exact ⟨by omega, by rw [ByteArray.size_append, hes]; omega, h3⟩)
        have HX := As.mk (show (x ++ s.extract k (k + 1)).data.toList = x.data.toList ++ [s[k]] by rw [data_app, extract_one s k hlt])
        have hcc : ¬ 9223372036854775807 < x.size + (s.extract k (k + 1)).size := by rw [hes]; omega
        have hx2 : (x ++ s.extract k (k + 1)).size ≤ 1073741824 := by have := HSZ.out.2.1; omega
        have hc := (hrow.out.cellAt n (by omega)).trans (show ((ds ++ [x]).map Value.string)[n]? = some (.string x) by have := hnd.out; subst this; simp)
        have hf := hrow.out.frozenAt n
        obtain ⟨hst, hgr⟩ := hrow.out.stored n (.string (x ++ s.extract k (k + 1)))
        have HST := As.mk (show (wr.setCell ⟨g, n, none⟩ (.string (x ++ s.extract k (k + 1)))).ownsRow w.heap.size 9 1 (.slice (some ⟨g, 0, none⟩) (n + 1) cap) (n + 1) ((ds ++ [x ++ s.extract k (k + 1)]).map Value.string) by
          have e : ((ds ++ [x]).map Value.string).set n (.string (x ++ s.extract k (k + 1))) = (ds ++ [x ++ s.extract k (k + 1)]).map Value.string := by have := hnd.out; subst this; simp
          rw [← e]; exact hst)
        have HB2 := As.mk (hB.out.grown hgr hB.out.size (fun j hj => by cases hj; exact (hrow.out.lt g rfl).1))
        have e1 : IntKind.i64.wrap (n : Int) = (n : Int) := IntWalk.i64_in _ (by omega)
        have e2 : IntKind.i64.wrap ((k : Int) + 1) = (k : Int) + 1 := IntWalk.i64_in _ (by omega)
        have e3 : (n : Int) < (n : Int) + 1 := by omega
        have hcd : ¬ 9223372036854775807 < x.size + 1 := by omega
        have e4 : (k : Int) ≤ (k : Int) + 1 := by omega
        have e5 : (k : Int) + 1 ≤ (s.size : Int) := by omega
        have e6 : (0 : Int) ≤ (k : Int) + 1 := by omega
        have e7 : ((k : Int) + 1).toNat = k + 1 := by omega
        clear hspl1 hb hsz hst hgr
        generalize hX : x ++ s.extract k (k + 1) = x' at *
        go_wp2_with fail
        refine wp_region_still_tail 17 (by kernel_rfl) (by kernel_rfl) ?_
        change wpStill _ _ (World.drew _) (fun a' => wpList _ _ _ _ a' (World.drew _)) _ _
        simp only [List.take_succ_cons, List.take_zero, List.drop_succ_cons, List.drop_zero]
        repeat still_step
        refine wpStill_nil ?_
        clear e1 e2 e3 e4 e5 e6 e7 hX
        go_wp2
        go_roundw
        case rel =>
          exact ⟨k + 1, n, cap, g, ds, x', by go_num, by omega, by omega, rfl, hnd, HSZ, hx2, ⟨by rw [HSPL.out, HX.out]⟩, HST, ⟨HB2.out.drew⟩⟩
        case measure => simp [intOf]; omega
    · obtain rfl : k = s.size := by omega
      have HF : As (ds ++ [x] = wordsOf s) := ⟨lists_inj (by rw [wordsOf_lists, hspl.out, List.drop_eq_nil_of_le (by simp), splOn_nil, lists_append]; rfl)⟩
      have hrow1 := hrow.out
      rw [HF.out] at hrow1
      have hlen : (wordsOf s).length = n + 1 := by rw [← HF.out]; have := hnd.out; simp; omega
      have hrow2 : wr.ownsRow w.heap.size 9 1 (.slice (some ⟨g, 0, none⟩) (n + 1) cap) (wordsOf s).length ((wordsOf s).map Value.string) := by rw [hlen]; exact hrow1
      obtain ⟨A', c', e', hc', hst'⟩ := StrsAt.of_row hrow2
      rw [hlen] at e' hc'
      cases e'
      have hstr := StrsAt.strs hst' (Nat.le_trans (wordsOf_le s) (by unfold maxRow; omega)) (fun y hy => Nat.le_trans (wordsOf_sizes hy) hz)
      have HSTR := As.mk hstr
      have HSN := As.mk (Sat.snap (P := fun _ _ => False) (W := wr) (fun _ _ h => h.elim))
      have HLEN := As.mk hlen
      have hn1 : n ≤ 1073741824 := by omega
      have HRT := As.mk (show right s = (wordsOf s).all word from rfl)
      have HB1 := hB
      clear hrow hrow1 hrow2 hst' hstr hlen HF hspl hsz hnd hB
      generalize hws : wordsOf s = ws at *
      have HWS := As.mk hws
      clear hws
      generalize Pers.snap (fun _ _ => False) wr = Q at *
      clear ds x hxs i0 hi hz0 hz1 hz2 HROW0
      go_wp2_with fail
      go_loopw [6] (fun i wx => ∃ k : Nat, i = .int .i64 k ∧ k ≤ n + 1 ∧ As (Below w.heap.size w wx) ∧ As (Sat Q wx) ∧ As ((ws.take k).all word = true)) (fun i _ => n + 1 - (intOf i).toNat)
      case atStart => exact ⟨0, rfl, Nat.zero_le _, HB1, HSN, ⟨rfl⟩⟩
      case round =>
        obtain ⟨k, rfl, hk2, hB, hS, hall⟩ := hrel
        by_cases hlt2 : k < n + 1
        · obtain ⟨y, hy⟩ : ∃ y, As (ws[k]? = some y) := ⟨_, ⟨List.getElem?_eq_getElem (by have := HLEN.out; omega)⟩⟩
          obtain ⟨b1, o1, e1, px, hzy⟩ := Row.str HSTR.out hy.out
          cases e1
          have d1 := hS.out _ _ px
          rw [Nat.zero_add] at d1
          have HW := As.mk (rword_calls y wr hzy)
          clear px
          cases hr : word y
          · rw [hr] at HW
            have HF := As.mk (show right s = false by
              rw [HRT.out, List.all_eq_false]
              exact ⟨y, List.mem_of_getElem? hy.out, by simp [hr]⟩)
            clear hr
            go_wp2_with (go_at_call 113; refine HW.out.mono ?_; rintro e w2 ⟨rfl, hb2⟩)
            go_ret2
            exact ⟨⟨_, _, _, by rw [HF.out]; rfl, fun h => by rw [HF.out] at h; cases h⟩, hB.out.trans (hb2.mono hB.out.size)⟩
          · rw [hr] at HW
            have HT := As.mk (show (ws.take (k + 1)).all word = true by rw [take_one hy.out, List.all_append, hall.out]; simp [hr])
            clear hr
            go_wp2_with (go_at_call 113; refine HW.out.mono ?_; rintro e w2 ⟨rfl, hb2⟩)
            go_roundw
            case rel => exact ⟨k + 1, by go_num, by omega, ⟨hB.out.trans (hb2.mono hB.out.size)⟩, ⟨hS.out.below hb2⟩, HT⟩
            case measure => simp [intOf]; omega
        · obtain rfl : k = n + 1 := by omega
          have HF := As.mk (show right s = true by have h := hall.out; rw [List.take_of_length_le (by have := HLEN.out; omega)] at h; rw [HRT.out, h])
          clear hall
          go_wp2_with fail
          go_ret2
          exact ⟨⟨_, _, _, by rw [HF.out]; rfl, fun _ => by rw [HWS.out]; exact ⟨HLEN.out.symm, hc', StrsAt.of HSTR.out hS.out⟩⟩, hB.out⟩

theorem rright_calls (s : ByteArray) (w : World) (hz : s.size ≤ maxStr) : Calls Tryz.prog 30 #[.string s] w fun e w' => e = .returned (.bool (right s)) ∧ Below w.heap.size w w' := by
  go_enter Tryz.func30, Tryz.ntmps30
  go_wp2_with (go_at_call 78; refine (rwords_calls s _ hz).mono ?_; rintro e w' ⟨⟨A, n, c, rfl, _⟩, hb⟩)
  go_ret
  exact ⟨rfl, hb⟩
end Go.Proofs.YtainigjbjfpoaaaGreatDoor

namespace Go.Proofs.YtainigjbjfpoaaaGreatDoor
open Go.RowKit Go.Shelf

/-- what ref09.With answers -/
def WithPost (xs ys : List ByteArray) (e : Ending) (w' : World) : Prop :=
  (bad ys = true ∧ e = .returned (.tuple #[.slice none 0 0, .int .i64 6])) ∨
  (bad ys = false ∧ 4096 < (addAll xs ys).length ∧ e = .returned (.tuple #[.slice none 0 0, .int .i64 19])) ∨
  (bad ys = false ∧ (addAll xs ys).length ≤ 4096 ∧ ∃ A c, e = .returned (.tuple #[.slice A (addAll xs ys).length c, .int .i64 0]) ∧ (addAll xs ys).length ≤ c ∧ StrsAt w'.heap.size w' A (addAll xs ys))

theorem rhasAt (A : Option Addr) (c : Nat) (xs : List ByteArray) (x : ByteArray) (w : World) (h : StrsAt w.heap.size w A xs) (hl : xs.length ≤ maxRow) (hz : ∀ s ∈ xs, s.size ≤ maxStr) :
    Calls Tryz.prog 31 #[.slice A xs.length c, .string x] w fun e w' => e = .returned (.bool (has xs x)) ∧ w = w' :=
  rhas_calls _ A c xs x w (StrsAt.strs h hl hz) (Sat.snap (fun _ _ h => h.elim))

theorem addAll_snoc {xs ys : List ByteArray} {k : Nat} {y : ByteArray} (h : ys[k]? = some y) : addAll xs (ys.take (k + 1)) = addOne (addAll xs (ys.take k)) y := by
  rw [take_one h]
  simp [addAll]
theorem addAll_mem_size {xs ys : List ByteArray} (h1 : ∀ s ∈ xs, s.size ≤ maxStr) (h2 : ∀ s ∈ ys, s.size ≤ maxStr) (k : Nat) : ∀ s ∈ addAll xs (ys.take k), s.size ≤ maxStr := fun s hs => by
  rcases addAll_mem.1 hs with h | h
  · exact h1 s h
  · exact h2 s (List.mem_of_mem_take h)
theorem bad_take {ys : List ByteArray} {k : Nat} {y : ByteArray} (h : ys[k]? = some y) (hb : bad (ys.take k) = false) (hr : right y = true) : bad (ys.take (k + 1)) = false := by
  rw [take_one h]
  unfold bad at *
  rw [List.any_append, hb]
  simp [hr]
theorem bad_at {ys : List ByteArray} {k : Nat} {y : ByteArray} (h : ys[k]? = some y) (hr : right y = false) : bad ys = true := by
  unfold bad
  rw [List.any_eq_true]
  exact ⟨y, List.mem_of_getElem? h, by simp [hr]⟩
theorem Row.sizes {P : Pers} {A : Option Addr} {xs : List ByteArray} (h : Strs P A xs) : ∀ s ∈ xs, s.size ≤ maxStr := fun s hs => by
  obtain ⟨i, hi⟩ := List.getElem?_of_mem hs
  obtain ⟨_, _, _, _, h⟩ := Row.str h hi
  exact h
theorem sift_swap {o : List ByteArray} {j : Nat} {z y : ByteArray} (hz : o[j]? = some z) : ((o.take (j + 1) ++ y :: o.drop (j + 1)).set (j + 1) z).set j y = o.take j ++ y :: o.drop j := by
  obtain ⟨hj, e⟩ := List.getElem?_eq_some_iff.1 hz
  rw [List.drop_eq_getElem_cons hj, e, take_one hz]
  have hl : (o.take j).length = j := by rw [List.length_take]; omega
  simp [hl]
theorem sift_at {o : List ByteArray} {j : Nat} {y : ByteArray} (hj : j ≤ o.length) : (o.take j ++ y :: o.drop j)[j]? = some y := by
  have hl : (o.take j).length = j := by rw [List.length_take]; omega
  rw [List.getElem?_append_right (by omega), hl]
  simp
theorem sift_before {o : List ByteArray} {j : Nat} {z y : ByteArray} (hz : o[j]? = some z) : (o.take (j + 1) ++ y :: o.drop (j + 1))[j]? = some z := by
  have hj := (List.getElem?_eq_some_iff.1 hz).1
  rw [List.getElem?_append_left (by simp; omega), List.getElem?_take_of_lt (by omega), hz]

theorem sifted {W : World} {base g n cap m : Nat} {o : List ByteArray} {y z : ByteArray} (h : W.ownsRow base 9 1 (.slice (some ⟨g, 0, none⟩) n cap) n ((o.take (m + 1) ++ y :: o.drop (m + 1)).map Value.string)) (hz : o[m]? = some z) (q : Nat) :
    (((W.drewN q).setCell ⟨g, m + 1, none⟩ (.string z)).setCell ⟨g, m, none⟩ (.string y)).ownsRow base 9 1 (.slice (some ⟨g, 0, none⟩) n cap) n ((o.take m ++ y :: o.drop m).map Value.string) ∧
    (W.drewN q).grownBy (((W.drewN q).setCell ⟨g, m + 1, none⟩ (.string z)).setCell ⟨g, m, none⟩ (.string y)) (some g) := by
  have h0 : (W.drewN q).ownsRow base 9 1 (.slice (some ⟨g, 0, none⟩) n cap) n ((o.take (m + 1) ++ y :: o.drop (m + 1)).map Value.string) := h
  obtain ⟨h1, k1⟩ := h0.stored (m + 1) (.string z)
  obtain ⟨h2, k2⟩ := h1.stored m (.string y)
  refine ⟨?_, k1.trans k2⟩
  rw [← sift_swap (y := y) hz, List.map_set, List.map_set]
  exact h2

set_option maxRecDepth 100000 in
set_option maxHeartbeats 8000000 in
theorem rwith_calls (P : Pers) (A B : Option Addr) (c d : Nat) (xs ys : List ByteArray) (w : World) (h1 : Strs P A xs) (h2 : Strs P B ys) (hs : Sat P w) (hl1 : xs.length ≤ 1073741824) (hl2 : ys.length ≤ 1073741824) :
    Calls Tryz.prog 12 #[.slice A xs.length c, .slice B ys.length d] w fun e w' => WithPost xs ys e w' ∧ Below w.heap.size w w' := by
  obtain ⟨i0, hi, hz0, hz1, hz2⟩ := info_parts infoStr
  have Z1 := As.mk (Row.sizes h1)
  have Z2 := As.mk (Row.sizes h2)
  have hrow0 : (w.alloc (.cells #[] 9)).ownsRow w.heap.size 9 1 (.slice (some ⟨w.heap.size, 0, none⟩) 0 0) 0 [] := World.ownsRow_lit w #[] 0 (Nat.le_refl _) (by decide) rfl
  have hB0 : Below w.heap.size w (w.alloc (.cells #[] 9)) := (Below.refl _ _).alloc (Nat.le_refl _) _
  obtain ⟨v1, W1, hrun, hrow1, hg1⟩ := append_run w.heap.size (.slice (some ⟨w.heap.size, 0, none⟩) 0 0) [] xs A c (w.alloc (.cells #[] 9)) hrow0 (StrsAt.of h1 (hs.alloc _)) (by simp; omega) (by simp) 22
  rw [List.nil_append] at hrow1
  have HB1 := As.mk (hB0.grown hg1 hB0.size (fun j hj => by cases hj; exact Nat.le_refl _))
  have HROW1 := As.mk hrow1
  have HS := As.mk hs
  have H2 := As.mk h2
  clear hrow0 hB0 hrow1 hg1 h1 h2 hs
  go_enter Tryz.func12, Tryz.ntmps12
  go_wp2_with (at_builtin; refine Lib.wpList_append_run _ rfl _ _ _ _ rfl _ _ rfl rfl _ _ hrun ?_)
  clear hrun
  go_loopw [7] (fun i wr => ∃ k : Nat, i = .int .i64 k ∧ k ≤ ys.length ∧ As (wr.ownsRow w.heap.size 9 1 v1 xs.length (xs.map Value.string)) ∧ As (Below w.heap.size w wr) ∧ As (bad (ys.take k) = false)) (fun i _ => ys.length - (intOf i).toNat)
  case atStart => exact ⟨0, rfl, Nat.zero_le _, HROW1, HB1, ⟨rfl⟩⟩
  case round =>
    obtain ⟨k, rfl, hk, hrow, hB, hbad⟩ := hrel
    by_cases hlt : k < ys.length
    · obtain ⟨y, hy⟩ : ∃ y, As (ys[k]? = some y) := ⟨_, ⟨List.getElem?_eq_getElem hlt⟩⟩
      obtain ⟨b1, o1, rfl, px, hzy⟩ := Row.str H2.out hy.out
      have d1 := (HS.out.below hB.out) _ _ px
      have HR := As.mk (rright_calls y wr hzy)
      clear px
      cases hr : right y
      · rw [hr] at HR
        have HF := As.mk (bad_at hy.out hr)
        clear hr
        go_wp2_with (go_at_call 30; refine HR.out.mono ?_; rintro e w2 ⟨rfl, hb2⟩)
        go_ret2
        exact ⟨.inl ⟨HF.out, rfl⟩, hB.out.trans (hb2.mono hB.out.size)⟩
      · rw [hr] at HR
        have HT := As.mk (bad_take hy.out hbad.out hr)
        clear hr
        go_wp2_with (go_at_call 30; refine HR.out.mono ?_; rintro e w2 ⟨rfl, hb2⟩)
        go_roundw
        case rel => exact ⟨k + 1, by go_num, by omega, ⟨own_below hrow.out hb2⟩, ⟨hB.out.trans (hb2.mono hB.out.size)⟩, HT⟩
        case measure => simp [intOf]; omega
    · obtain rfl : k = ys.length := by omega
      have hbd := hbad.out
      rw [List.take_length] at hbd
      have HBAD := As.mk hbd
      obtain ⟨A1, c1, rfl, hc1, _⟩ := StrsAt.of_row hrow.out
      have HROW2 := hrow
      have HB2 := hB
      clear hbd hbad hrow hB
      go_wp2_with fail
      go_loopw [6, 8] (fun v i wr => ∃ (k n c' : Nat) (A' : Option Addr) (o : List ByteArray), i = .int .i64 k ∧ k ≤ ys.length ∧ v = .slice A' n c' ∧ n ≤ xs.length + k ∧ As (n = o.length) ∧ As (o = addAll xs (ys.take k)) ∧ As (wr.ownsRow w.heap.size 9 1 (.slice A' n c') n (o.map Value.string)) ∧ As (Below w.heap.size w wr)) (fun _ i _ => ys.length - (intOf i).toNat)
      case atStart => exact ⟨0, xs.length, c1, A1, xs, rfl, Nat.zero_le _, rfl, Nat.le_refl _, ⟨rfl⟩, ⟨rfl⟩, HROW2, HB2⟩
      case round =>
        obtain ⟨k, n, c', A', o, rfl, hk, rfl, hn, hno, ho, hrow, hB⟩ := hrel
        by_cases hlt : k < ys.length
        · obtain ⟨y, hy⟩ : ∃ y, As (ys[k]? = some y) := ⟨_, ⟨List.getElem?_eq_getElem hlt⟩⟩
          obtain ⟨b1, o1, rfl, px, hzy⟩ := Row.str H2.out hy.out
          have d1 := (HS.out.below hB.out) _ _ px
          have hsz : ∀ s ∈ o, s.size ≤ maxStr := by rw [ho.out]; exact addAll_mem_size Z1.out Z2.out k
          have hrow2 := hrow.out
          rw [hno.out] at hrow2
          obtain ⟨A2, c2, e2, _, hst2⟩ := StrsAt.of_row hrow2
          obtain ⟨rfl, rfl⟩ : A' = A2 ∧ c' = c2 := by cases e2; exact ⟨rfl, rfl⟩
          have HR := As.mk (rhasAt A' c' o y wr hst2 (by have := hno.out; unfold maxRow; omega) hsz)
          rw [← hno.out] at HR
          have HA := As.mk (addAll_snoc (xs := xs) hy.out)
          rw [← ho.out] at HA
          clear px hsz hrow2 hst2 e2
          cases hr : has o y
          · rw [hr] at HR
            have HA2 := As.mk (show addAll xs (ys.take (k + 1)) = insT y o by rw [HA.out, addOne, hr]; rfl)
            have hrow1 := hrow.out
            have hB8 := hB.out.size
            clear hr
            go_wp2_with (first
              | (go_at_call 31; refine HR.out.mono ?_; rintro e w2 ⟨rfl, rfl⟩)
              | (at_builtin; refine wpList_append_own _ rfl _ _ 22 rfl w.heap.size 9 i0 (.string ⟨#[]⟩) 1 16 Tryz.underlying22 hi hz0 hz1 hz2 rfl (by decide) _ _ _ rfl (hrow1.alloc _) ⟨wr.heap.size, 0, none⟩ 1 1 [.string y] rfl rfl (cell_one_new _ _ _) (by simp [Value.oneCell']) (by unfold maxLen; omega) (by omega) (by simp; omega) ?_; intro v' w1 hown' hgrow _; obtain ⟨g', cap', rfl⟩ := ownsRow_slice hown'; have hown2 := As.mk hown'; have hgrow2 := As.mk hgrow; clear hown' hgrow))
            have HB3 := As.mk ((hB.out.alloc hB.out.size (.cells #[.string y] 9)).grown hgrow2.out (by have := hB.out.size; simp; omega) (fun j hj => (hrow1.lt j hj).1))
            have HOWN := As.mk (show w1.ownsRow w.heap.size 9 1 (.slice (some ⟨g', 0, none⟩) (n + 1) cap') (n + 1) ((o.take n ++ y :: o.drop n).map Value.string) by
              have e : o.take n ++ y :: o.drop n = o ++ [y] := by rw [hno.out]; simp
              rw [e, List.map_append]; exact hown2.out)
            have HP := As.mk (show insPos y o o.length = insPos y o n by rw [hno.out])
            have hn63 : n ≤ 2147483648 := by omega
            clear hown2 hgrow2 hrow1 hrow HR HA hB8 hB ho HROW1 HROW2 hc1
            go_loopw [9] (fun i wx => ∃ j : Nat, i = .int .i64 j ∧ j ≤ n ∧ As (insPos y o o.length = insPos y o j) ∧ As (wx.ownsRow w.heap.size 9 1 (.slice (some ⟨g', 0, none⟩) (n + 1) cap') (n + 1) ((o.take j ++ y :: o.drop j).map Value.string)) ∧ As (Below w.heap.size w wx)) (fun i _ => (intOf i).toNat)
            case atStart => exact ⟨n, by simp, Nat.le_refl _, HP, HOWN, HB3⟩
            case round =>
              obtain ⟨j, rfl, hj, hp, hrow, hB⟩ := hrel
              rcases Nat.eq_zero_or_pos j with hj0 | hj0
              · have hq : decide (0 < (j : Int)) = false := decide_eq_false (by omega)
                have hq2 : decide (0 < j) = false := decide_eq_false (by omega)
                have HI := As.mk (show insT y o = o.take j ++ y :: o.drop j by unfold insT; rw [hp.out, hj0]; rfl)
                clear hj0
                go_wp2
                go_quiet (fail)
                go_wp2
                go_roundw
                case rel => exact ⟨k + 1, n + 1, cap', some ⟨g', 0, none⟩, insT y o, by go_num, by omega, rfl, by omega, ⟨by rw [insT_length, hno.out]⟩, ⟨HA2.out.symm⟩, ⟨by rw [HI.out]; exact hrow.out⟩, ⟨pw_below_drewN' hB.out _⟩⟩
                case measure => simp [intOf]; omega
              · obtain ⟨m, rfl⟩ : ∃ m, j = m + 1 := ⟨j - 1, by omega⟩
                obtain ⟨z, hz⟩ : ∃ z, As (o[m]? = some z) := ⟨_, ⟨List.getElem?_eq_getElem (by have := hno.out; omega)⟩⟩
                have c1 := (hrow.out.cellAt (m + 1) (by omega)).trans (show ((o.take (m + 1) ++ y :: o.drop (m + 1)).map Value.string)[m + 1]? = some (.string y) by rw [List.getElem?_map, sift_at (by have := hno.out; omega)]; rfl)
                have c0 := (hrow.out.cellAt m (by omega)).trans (show ((o.take (m + 1) ++ y :: o.drop (m + 1)).map Value.string)[m]? = some (.string z) by rw [List.getElem?_map, sift_before hz.out]; rfl)
                have f1 := hrow.out.frozenAt (m + 1)
                have f0 := hrow.out.frozenAt m
                have e1 : IntKind.i64.wrap (m : Int) = (m : Int) := IntWalk.i64_in _ (by omega)
                have e3 : (m : Int) < (n : Int) + 1 := by omega
                have e4 : (m : Int) < (n : Int) := by omega
                have e5 : ((m : Int) + 1).toNat = m + 1 := by omega
                have e6 : (0 : Int) ≤ (m : Int) + 1 := by omega
                have e7 : decide (0 < (m : Int) + 1) = true := decide_eq_true (by omega)
                have e8 : (m : Int) + 1 < (n : Int) + 1 := by omega
                have HL : As (lessB y z = Op.bytesLess y.toList z.toList) := ⟨by rw [ByteArray.toList_eq, ByteArray.toList_eq]; rfl⟩
                have HPP := As.mk (show insPos y o (m + 1) = if lessB y z then insPos y o m else m + 1 by rw [insPos, hz.out]; rfl)
                cases hq : Op.bytesLess y.toList z.toList
                · have HI := As.mk (show insT y o = o.take (m + 1) ++ y :: o.drop (m + 1) by unfold insT; rw [hp.out, HPP.out, HL.out, hq]; rfl)
                  clear hj0
                  go_wp2
                  go_quiet (fail)
                  clear e1 e3 e4 e5 e6 e7 e8
                  go_wp2
                  go_roundw
                  case rel => exact ⟨k + 1, n + 1, cap', some ⟨g', 0, none⟩, insT y o, by go_num, by omega, rfl, by omega, ⟨by rw [insT_length, hno.out]⟩, ⟨HA2.out.symm⟩, ⟨by rw [HI.out]; exact hrow.out⟩, ⟨pw_below_drewN' hB.out _⟩⟩
                  case measure => simp [intOf]; omega
                · have HI := As.mk (show insPos y o o.length = insPos y o m by rw [hp.out, HPP.out, HL.out, hq]; rfl)
                  clear hj0
                  go_wp2
                  go_quiet (fail)
                  go_wp2
                  refine ⟨⟨m, rfl, by omega, HI, ⟨?_⟩, ⟨?_⟩⟩, by simp [intOf]⟩
                  · exact (sifted hrow.out hz.out nq).1
                  · exact (pw_below_drewN' hB.out nq).grown (sifted hrow.out hz.out nq).2 (pw_below_drewN' hB.out nq).size (fun j hj => by cases hj; exact (hrow.out.lt g' rfl).1)
          · rw [hr] at HR
            have HA2 := As.mk (show o = addAll xs (ys.take (k + 1)) by rw [HA.out, addOne, hr]; rfl)
            clear hr
            go_wp2_with (go_at_call 31; refine HR.out.mono ?_; rintro e w2 ⟨rfl, rfl⟩)
            go_roundw
            case rel => exact ⟨k + 1, n, c', A', o, by go_num, by omega, rfl, by omega, hno, HA2, hrow, hB⟩
            case measure => simp [intOf]; omega
        · obtain rfl : k = ys.length := by omega
          have HO := As.mk (show addAll xs ys = o by rw [ho.out, List.take_length])
          have hrow2 := hrow.out
          rw [hno.out] at hrow2
          obtain ⟨A2, c2, e2, hc2, hst2⟩ := StrsAt.of_row hrow2
          obtain ⟨rfl, rfl⟩ : A' = A2 ∧ c' = c2 := by cases e2; exact ⟨rfl, rfl⟩
          have HST := As.mk (And.intro hc2 hst2)
          clear ho hrow2 hrow e2 hc2 hst2
          by_cases hbig : 4096 < n
          · have hq : decide (4096 < (n : Int)) = true := decide_eq_true (by omega)
            have HBIG := As.mk hbig
            clear hbig
            go_wp2_with fail
            go_ret2
            exact ⟨.inr (.inl ⟨HBAD.out, by rw [HO.out, ← hno.out]; exact HBIG.out, rfl⟩), hB.out⟩
          · have hq : decide (4096 < (n : Int)) = false := decide_eq_false (by omega)
            have HBIG := As.mk hbig
            clear hbig
            go_wp2_with fail
            go_ret2
            exact ⟨.inr (.inr ⟨HBAD.out, by rw [HO.out, ← hno.out]; exact Nat.le_of_not_lt HBIG.out, A', c', by rw [HO.out, ← hno.out]; rfl, by rw [HO.out]; exact HST.out.1, by rw [HO.out]; exact HST.out.2⟩), hB.out⟩
end Go.Proofs.YtainigjbjfpoaaaGreatDoor
