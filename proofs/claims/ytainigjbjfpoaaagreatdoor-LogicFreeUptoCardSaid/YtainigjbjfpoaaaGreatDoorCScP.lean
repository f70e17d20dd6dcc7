/- Scopes: what binary search finds in texts that rise; sorted texts, none twice; what is in scope. No function is walked here. -/
/- scope.With, scope.New. -/
import Derived.Test.YtainigjbjfpoaaaGreatDoorCScope
import Derived.Test.YtainigjbjfpoaaaGreatDoorCInsP
import Derived.Lib.SlicesCompact
import Derived.Test.YtainigjbjfpoaaaGreatDoorCOwn2
import Derived.Test.YtainigjbjfpoaaaGreatDoorCRhas
import Derived.Test.YtainigjbjfpoaaaGreatDoorCAlive
namespace Go.Proofs.YtainigjbjfpoaaaGreatDoor
open Go.RowKit Go.Shelf Go.Maps

theorem compactUpTo_spec (d : Array (List UInt8)) (hs : ∀ i j, i ≤ j → j < d.size → d[i]! ≤ d[j]!) : ∀ m, m ≤ d.size → (Lib.compactUpTo d m).Pairwise (fun a b => a < b) ∧ (∀ x, x ∈ Lib.compactUpTo d m ↔ ∃ j, j < m ∧ d[j]! = x)
  | 0, _ => by
    have : Lib.compactUpTo d 0 = [] := rfl
    rw [this]
    exact ⟨List.Pairwise.nil, fun x => by simp⟩
  | m + 1, h => by
    obtain ⟨h1, h2⟩ := compactUpTo_spec d hs m (by omega)
    rw [Lib.compactUpTo_succ]
    cases hk : Lib.keeps d m
    · have hk2 : m ≠ 0 ∧ d[m]! = d[m - 1]! := by
        unfold Lib.keeps at hk
        have := of_decide_eq_false hk
        exact ⟨fun e => this (.inl e), Decidable.byContradiction fun e => this (.inr e)⟩
      rw [if_neg (by decide), List.append_nil]
      refine ⟨h1, fun x => (h2 x).trans ⟨fun ⟨j, hj, e⟩ => ⟨j, by omega, e⟩, fun ⟨j, hj, e⟩ => ?_⟩⟩
      rcases Nat.lt_or_ge j m with h3 | h3
      · exact ⟨j, h3, e⟩
      · obtain rfl : j = m := by omega
        exact ⟨j - 1, by omega, by rw [← hk2.2]; exact e⟩
    · rw [if_pos rfl]
      refine ⟨List.pairwise_append.2 ⟨h1, by simp, fun a ha b hb => ?_⟩, fun x => ?_⟩
      · obtain rfl : b = d[m]! := by simpa using hb
        obtain ⟨j, hj, rfl⟩ := (h2 a).1 ha
        have hne : d[m]! ≠ d[m - 1]! := by
          unfold Lib.keeps at hk
          rcases of_decide_eq_true hk with h4 | h4
          · omega
          · exact h4
        have h5 := hs j (m - 1) (by omega) (by omega)
        have h6 := hs (m - 1) m (by omega) (by omega)
        rcases Decidable.em (d[j]! < d[m]!) with h7 | h7
        · exact h7
        · have h8 : d[m]! ≤ d[j]! := List.not_lt.1 h7
          have h9 : d[m]! ≤ d[m - 1]! := List.le_trans h8 h5
          exact absurd (List.le_antisymm h9 h6) hne
      · rw [List.mem_append, h2 x]
        constructor
        · rintro (⟨j, hj, e⟩ | h3)
          · exact ⟨j, by omega, e⟩
          · exact ⟨m, by omega, (List.mem_singleton.1 h3).symm⟩
        · rintro ⟨j, hj, e⟩
          rcases Nat.lt_or_ge j m with h3 | h3
          · exact .inl ⟨j, h3, e⟩
          · obtain rfl : j = m := by omega
            exact .inr (by simp [e])
theorem compact_spec (zs : List (List UInt8)) (h : zs.Pairwise fun a b => a ≤ b) : (Lib.compact zs).Pairwise (fun a b => a < b) ∧ (∀ x, x ∈ Lib.compact zs ↔ x ∈ zs) := by
  have hs : ∀ i j, i ≤ j → j < zs.toArray.size → zs.toArray[i]! ≤ zs.toArray[j]! := fun i j hij hj => by
    have hj' : j < zs.length := by simpa using hj
    rw [getElem!_pos zs.toArray i (by simp; omega), getElem!_pos zs.toArray j (by simpa using hj')]
    simp only [List.getElem_toArray]
    rcases Nat.lt_or_ge i j with h1 | h1
    · exact List.pairwise_iff_getElem.1 h i j (by omega) hj' h1
    · have : i = j := by omega
      subst this
      exact List.le_refl _
  obtain ⟨h1, h2⟩ := compactUpTo_spec zs.toArray hs zs.length (by simp)
  refine ⟨h1, fun x => (h2 x).trans ?_⟩
  rw [List.mem_iff_getElem]
  constructor
  · rintro ⟨j, hj, e⟩
    rw [getElem!_pos zs.toArray j (by simpa using hj)] at e
    exact ⟨j, hj, by simpa using e⟩
  · rintro ⟨j, hj, e⟩
    exact ⟨j, hj, by rw [getElem!_pos zs.toArray j (by simpa using hj)]; simpa using e⟩
theorem bsGo_congr (f g : Nat → Bool) : ∀ (n lo hi : Nat), (∀ t, t < hi → f t = g t) → Lib.bsGo f n lo hi = Lib.bsGo g n lo hi
  | 0, lo, hi, h => rfl
  | n + 1, lo, hi, h => by
    unfold Lib.bsGo
    split
    · rename_i hlt
      rw [h ((lo + hi) / 2) (by omega)]
      split
      · exact bsGo_congr f g n _ _ h
      · exact bsGo_congr f g n _ _ (fun t ht => h t (by omega))
    · rfl

theorem srtc_rising (l : List ByteArray) : Rising (srtc l) := by
  unfold srtc srt
  have tr : ∀ a b c : List UInt8, decide (a ≤ b) = true → decide (b ≤ c) = true → decide (a ≤ c) = true := fun a b c h1 h2 => by simp only [decide_eq_true_eq] at *; exact List.le_trans h1 h2
  have tot : ∀ a b : List UInt8, (decide (a ≤ b) || decide (b ≤ a)) = true := fun a b => by simp only [Bool.or_eq_true, decide_eq_true_eq]; exact List.le_total a b
  have h := (List.pairwise_mergeSort tr tot (lists l)).imp (S := fun a b : List UInt8 => a ≤ b) fun {a b} h => by simpa using h
  have h1 := (compact_spec _ h).1
  exact List.pairwise_map.2 (h1.imp fun {a b} h => by simpa using h)
theorem srtc_mem {l : List ByteArray} {s : ByteArray} : s ∈ srtc l ↔ s ∈ l := by
  unfold srtc srt
  have tr : ∀ a b c : List UInt8, decide (a ≤ b) = true → decide (b ≤ c) = true → decide (a ≤ c) = true := fun a b c h1 h2 => by simp only [decide_eq_true_eq] at *; exact List.le_trans h1 h2
  have tot : ∀ a b : List UInt8, (decide (a ≤ b) || decide (b ≤ a)) = true := fun a b => by simp only [Bool.or_eq_true, decide_eq_true_eq]; exact List.le_total a b
  have h := (List.pairwise_mergeSort tr tot (lists l)).imp (S := fun a b : List UInt8 => a ≤ b) fun {a b} h => by simpa using h
  have h2 := (compact_spec _ h).2
  unfold texts
  rw [List.mem_map]
  constructor
  · rintro ⟨b, hb, rfl⟩
    rw [h2, List.mem_mergeSort, mem_lists] at hb
    exact hb
  · intro hs
    exact ⟨s.data.toList, by rw [h2, List.mem_mergeSort, mem_lists]; exact hs, rfl⟩
theorem srtc_free (l : List ByteArray) : srtc l = freeOf l := (srtc_rising l).ext (freeOf_rising l) fun s => by rw [srtc_mem, freeOf_mem]

theorem found_eq {l : List ByteArray} (h : Rising l) (x : ByteArray) : found l x = has l x := by
  obtain ⟨k, hk⟩ : ∃ k, k = (l.takeWhile fun y => lessB y x).length := ⟨_, rfl⟩
  have hkl : k ≤ l.length := by rw [hk]; exact (List.takeWhile_sublist _).length_le
  have hlow : ∀ t, t < k → lessB (l[t]?.getD ⟨#[]⟩) x = true := fun t ht => by
    rw [hk] at ht
    have h1 := List.all_takeWhile (p := fun y => lessB y x) (l := l)
    rw [List.all_eq_true] at h1
    have h2 := h1 _ (List.getElem_mem ht)
    rw [List.getElem?_eq_getElem (by omega)]
    have h3 : (l.takeWhile fun y => lessB y x)[t] = l[t]'(by omega) := (List.takeWhile_prefix _).getElem ht
    rw [h3] at h2
    exact h2
  have hat : ∀ (y : ByteArray), l[k]? = some y → lessB y x = false := fun y hy => by
    have h1 := List.dropWhile_eq_drop_findIdx_not (p := fun y => lessB y x) (xs := l)
    obtain ⟨hkl2, e⟩ := List.getElem?_eq_some_iff.1 hy
    have h4 : (l.dropWhile fun y => lessB y x) = l.drop k := by
      have := List.takeWhile_append_dropWhile (p := fun y => lessB y x) (l := l)
      have h5 := congrArg (List.drop k) this
      rw [List.drop_append_of_le_length (by omega), List.drop_eq_nil_of_le (by omega), List.nil_append] at h5
      exact h5
    have h6 : (l.dropWhile fun y => lessB y x).head? = some y := by rw [h4, List.head?_drop]; exact hy
    have h7 := List.head?_dropWhile_not (fun y => lessB y x) l
    rw [h6] at h7
    simpa using h7
  have hgr : ∀ i j (a b : ByteArray), i < j → l[i]? = some a → l[j]? = some b → a.data.toList < b.data.toList := fun i j a b hij ha hb => by
    obtain ⟨h1, e1⟩ := List.getElem?_eq_some_iff.1 ha
    obtain ⟨h2, e2⟩ := List.getElem?_eq_some_iff.1 hb
    have := List.pairwise_iff_getElem.1 h i j h1 h2 hij
    rw [e1, e2] at this
    exact this
  have hhi : ∀ t, k ≤ t → (decide (t < l.length) && lessB (l[t]?.getD ⟨#[]⟩) x) = false := fun t ht => by
    by_cases hl : t < l.length
    · rw [decide_eq_true hl, Bool.true_and]
      obtain ⟨a, ha⟩ : ∃ a, l[t]? = some a := ⟨_, List.getElem?_eq_getElem hl⟩
      rw [ha]
      rcases Nat.lt_or_ge k t with h1 | h1
      · obtain ⟨b, hb⟩ : ∃ b, l[k]? = some b := ⟨_, List.getElem?_eq_getElem (by omega)⟩
        have h2 := hat b hb
        have h3 := hgr k t b a h1 hb ha
        cases h4 : lessB ((some a).getD ⟨#[]⟩) x
        · rfl
        · have h5 := (lessB_iff _ _).1 h4
          have h6 : lessB b x = true := (lessB_iff _ _).2 (List.lt_trans h3 h5)
          rw [h2] at h6
          cases h6
      · obtain rfl : t = k := by omega
        exact hat a ha
    · rw [decide_eq_false hl, Bool.false_and]
  have hb : Lib.bsGo (fun t => Op.bytesLess ((l[t]?.getD ⟨#[]⟩)).toList x.toList) l.length 0 l.length = k := by
    rw [bsGo_congr _ (fun t => decide (t < l.length) && lessB (l[t]?.getD ⟨#[]⟩) x) _ _ _ (fun t ht => by rw [decide_eq_true ht, Bool.true_and, ByteArray.toList_eq, ByteArray.toList_eq]; rfl)]
    exact Lib.bsGo_spec _ k (fun t ht => by rw [decide_eq_true (by omega), Bool.true_and]; exact hlow t ht) hhi _ _ _ (by omega) (by omega) hkl
  unfold found
  rw [hb, Bool.eq_iff_iff, has_iff, decide_eq_true_eq]
  constructor
  · rintro ⟨h1, h2⟩
    rw [List.getElem?_eq_getElem h1] at h2
    rw [← h2]
    exact List.getElem_mem h1
  · intro hx
    obtain ⟨i, hi⟩ := List.getElem?_of_mem hx
    obtain ⟨hil, _⟩ := List.getElem?_eq_some_iff.1 hi
    have h1 : k ≤ i := by
      rcases Nat.lt_or_ge i k with h1 | h1
      · have h2 := hlow i h1
        rw [hi] at h2
        exact absurd ((lessB_iff x x).1 h2) (List.lt_irrefl _)
      · exact h1
    have h2 : ¬ k < i := fun h2 => by
      obtain ⟨b, hb2⟩ : ∃ b, l[k]? = some b := ⟨_, List.getElem?_eq_getElem (by omega)⟩
      have h3 := hgr k i b x h2 hb2 hi
      have h4 := hat b hb2
      rw [(lessB_iff b x).2 h3] at h4
      cases h4
    obtain rfl : i = k := by omega
    exact ⟨hil, by rw [hi]; rfl⟩

/-! ### a scope's layers -/
/-- each layer rises, and no name stands twice -/
structure ScOk (P : Pers) (a : Option Addr) (ls : List (List ByteArray)) : Prop where
  rep : ScRep P a ls
  rise : ∀ l ∈ ls, Rising l
  once : ls.flatten.Nodup
theorem ScOk.mono {P Q : Pers} (hp : PLe P Q) {a : Option Addr} {ls : List (List ByteArray)} (h : ScOk P a ls) : ScOk Q a ls := ⟨h.rep.mono hp, h.rise, h.once⟩
theorem layersN_eq : ∀ ls : List (List ByteArray), layersN ls = ls.flatten.length
  | [] => rfl
  | l :: ls => by simp [layersN, layersN_eq ls]
theorem hasIn_eq {P : Pers} {a : Option Addr} {ls : List (List ByteArray)} (h : ScOk P a ls) (x : ByteArray) : hasIn ls x = has ls.flatten x := by
  rw [Bool.eq_iff_iff, has_iff, List.mem_flatten, hasIn, List.any_eq_true]
  constructor
  · rintro ⟨l, hl, hf⟩
    rw [found_eq (h.rise l hl), has_iff] at hf
    exact ⟨l, hl, hf⟩
  · rintro ⟨l, hl, hx⟩
    exact ⟨l, hl, by rw [found_eq (h.rise l hl), has_iff]; exact hx⟩
/-- what With adds -/
def newOf (ls : List (List ByteArray)) (l : List ByteArray) : List ByteArray := (srtc l).filter fun s => !has ls.flatten s
theorem newOf_rising (ls : List (List ByteArray)) (l : List ByteArray) : Rising (newOf ls l) := List.Pairwise.sublist List.filter_sublist (srtc_rising l)
theorem newOf_mem {ls : List (List ByteArray)} {l : List ByteArray} {s : ByteArray} : s ∈ newOf ls l ↔ s ∈ l ∧ s ∉ ls.flatten := by
  unfold newOf
  rw [List.mem_filter, srtc_mem]
  have : (!has ls.flatten s) = true ↔ s ∉ ls.flatten := by rw [Bool.not_eq_true', Bool.eq_false_iff, ne_eq, has_iff]
  rw [this]
theorem Rising.nodup {a : List ByteArray} (ha : Rising a) : a.Nodup := ha.imp fun h e => by rw [e] at h; exact List.lt_irrefl _ h
theorem newOf_once {ls : List (List ByteArray)} (h : ls.flatten.Nodup) (l : List ByteArray) : (newOf ls l :: ls).flatten.Nodup := by
  rw [List.flatten_cons]
  exact List.nodup_append.2 ⟨(newOf_rising ls l).nodup, h, fun a ha b hb e => (newOf_mem.1 ha).2 (e ▸ hb)⟩
/-- the names in scope, in order -/
def scN (ls : List (List ByteArray)) : List ByteArray := freeOf ls.flatten
theorem scN_rising (ls : List (List ByteArray)) : Rising (scN ls) := freeOf_rising _
theorem scN_mem {ls : List (List ByteArray)} {s : ByteArray} : s ∈ scN ls ↔ s ∈ ls.flatten := freeOf_mem
theorem scN_length {ls : List (List ByteArray)} (h : ls.flatten.Nodup) : (scN ls).length = ls.flatten.length := by
  have h1 : (scN ls).Perm ls.flatten := (List.perm_ext_iff_of_nodup (scN_rising ls).nodup h).2 fun s => scN_mem
  exact h1.length_eq
theorem scN_new (ls : List (List ByteArray)) (l : List ByteArray) : scN (newOf ls l :: ls) = addAll (scN ls) l :=
  (scN_rising _).ext (addAll_rising (scN_rising _)) fun s => by
    rw [scN_mem, addAll_mem, scN_mem, List.flatten_cons, List.mem_append, newOf_mem]
    by_cases hs : s ∈ ls.flatten
    · simp [hs]
    · simp [hs]
theorem scN_nil : scN [] = [] := by
  have h : ∀ s, s ∉ scN [] := fun s hs => by simpa using scN_mem.1 hs
  cases hh : scN [] with
  | nil => rfl
  | cons a l => exact absurd (by rw [hh]; simp) (h a)
theorem layers_new (ls : List (List ByteArray)) (l : List ByteArray) (h : ls.flatten.Nodup) : layersN (newOf ls l :: ls) = (addAll (scN ls) l).length := by
  rw [layersN_eq, ← scN_length (newOf_once h l), scN_new]
end Go.Proofs.YtainigjbjfpoaaaGreatDoor

namespace Go.Proofs.YtainigjbjfpoaaaGreatDoor
open Go.RowKit Go.Shelf Go.Maps

/-- what With answers -/
def ScNew (P : Pers) (ls : List (List ByteArray)) (l : List ByteArray) (e : Ending) (w' : World) : Prop :=
  (bad l = true ∧ e = .returned (.tuple #[.pointer none, .int .i64 6])) ∨
  (bad l = false ∧ 4096 < (addAll (scN ls) l).length ∧ e = .returned (.tuple #[.pointer none, .int .i64 19])) ∨
  (bad l = false ∧ (addAll (scN ls) l).length ≤ 4096 ∧ ∃ b, e = .returned (.tuple #[.pointer (some ⟨b, 0, none⟩), .int .i64 0]) ∧ ScOk (P.snap w') (some ⟨b, 0, none⟩) (newOf ls l :: ls))

theorem no_string {W : World} {B : Nat} {a : Option Addr} {v : Value} {n : Int} {T : TypeId} (h : W.heap[B]? = some (.cells #[.pointer a, v, .int .i64 n] T)) (hv : ∃ A l c, v = .slice A l c) (j : Nat) (x : ByteArray) : W.cell? ⟨B, j, none⟩ ≠ some (.string x) := by
  rw [cell_of_row W B j _ T _ h]
  obtain ⟨A, l, c, rfl⟩ := hv
  match j with
  | 0 => simp
  | 1 => simp
  | 2 => simp
  | j + 3 => simp
/-- the layer's block, its own row, and what else is kept while With goes through the names -/
structure InWith (W8 : World) (B : Nat) (a : Option Addr) (W : World) (v : Value) (m : Nat) (xs : List ByteArray) : Prop where
  block : W.heap[B]? = some (.cells #[.pointer a, v, .int .i64 m] 82)
  row : W.ownsRow W8.heap.size 9 1 v xs.length (xs.map Value.string)
  kept : ∀ k, k < W8.heap.size → k ≠ B → W.heap[k]? = W8.heap[k]?
  size : W8.heap.size ≤ W.heap.size
  os : W.os = W8.os
  tape : W.tape = W8.tape
  output : W.output = W8.output
theorem InWith.slice {W8 : World} {B : Nat} {a : Option Addr} {W : World} {v : Value} {m : Nat} {xs : List ByteArray} (h : InWith W8 B a W v m xs) : ∃ A c, v = .slice A xs.length c ∧ xs.length ≤ c ∧ StrsAt W.heap.size W A xs := StrsAt.of_row h.row
theorem InWith.step {W8 : World} {B : Nat} {a : Option Addr} {W w1 : World} {v v' : Value} {m : Nat} {xs : List ByteArray} {x : ByteArray} {o : Obj} (h : InWith W8 B a W v m xs) (hB : B < W8.heap.size)
    (hown : w1.ownsRow W8.heap.size 9 1 v' (xs.length + 1) (xs.map Value.string ++ [.string x])) (hg : (W.alloc o).grownBy w1 v.ownBlock) :
    w1.heap[B]? = some (.cells #[.pointer a, v, .int .i64 m] 82) ∧ InWith W8 B a ((w1.setCell ⟨B, 1, none⟩ v').setCell ⟨B, 2, none⟩ (.int .i64 (m + 1 : Nat))) v' (m + 1) (xs ++ [x]) := by
  have hsz := h.size
  have hl : ∀ k, v.ownBlock = some k → W8.heap.size ≤ k := fun k hk => (h.row.lt k hk).1
  have hl' : ∀ k, v'.ownBlock = some k → W8.heap.size ≤ k := fun k hk => (hown.lt k hk).1
  have h1 : ∀ k, k < W8.heap.size → w1.heap[k]? = W.heap[k]? := fun k hk => (hg.block k (by simp; omega) (fun e => by have := hl k e.symm; omega)).trans (Below.heap_alloc _ _ _ (by omega))
  have hb1 : w1.heap[B]? = some (.cells #[.pointer a, v, .int .i64 m] 82) := (h1 B hB).trans h.block
  have hb2 := heap_setCell_same w1 B 1 _ _ v' hb1
  have hb3 := heap_setCell_same (w1.setCell ⟨B, 1, none⟩ v') B 2 _ _ (.int .i64 (m + 1 : Nat)) hb2
  have g1 : w1.grownBy (w1.setCell ⟨B, 1, none⟩ v') (some B) := ⟨rfl, rfl, rfl, by simp, fun k _ hk => heap_setCell_other w1 ⟨B, 1, none⟩ k v' (fun e => hk (by simp [e]))⟩
  have g2 : (w1.setCell ⟨B, 1, none⟩ v').grownBy ((w1.setCell ⟨B, 1, none⟩ v').setCell ⟨B, 2, none⟩ (.int .i64 (m + 1 : Nat))) (some B) := ⟨rfl, rfl, rfl, by simp, fun k _ hk => heap_setCell_other _ ⟨B, 2, none⟩ k _ (fun e => hk (by simp [e]))⟩
  have hne : v'.ownBlock = none ∨ v'.ownBlock ≠ some B := by
    cases e : v'.ownBlock with
    | none => exact .inl rfl
    | some k => exact .inr (fun e2 => by have := hl' k e; cases e2; omega)
  have r2 := (hown.kept g1 hne).kept g2 hne
  refine ⟨hb1, ⟨hb3, by simpa using r2, fun k hk hkB => ?_, ?_, ?_, ?_, ?_⟩⟩
  · rw [heap_setCell_other _ ⟨B, 2, none⟩ k _ hkB, heap_setCell_other _ ⟨B, 1, none⟩ k _ hkB]
    exact (h1 k hk).trans (h.kept k hk hkB)
  · have := hg.size
    simp at this ⊢
    omega
  · exact (hg.os.trans rfl).trans h.os
  · exact (hg.tape.trans rfl).trans h.tape
  · exact (hg.output.trans rfl).trans h.output
theorem InWith.below {W8 : World} {B : Nat} {a : Option Addr} {W : World} {v : Value} {m : Nat} {xs : List ByteArray} (h : InWith W8 B a W v m xs) (hB : B ≤ W8.heap.size) : Below B W8 W := ⟨h.os, h.tape, h.output, h.size, fun k hk => h.kept k (by omega) (by omega)⟩
theorem InWith.cell {W8 : World} {B : Nat} {a : Option Addr} {W : World} {v : Value} {m : Nat} {xs : List ByteArray} (h : InWith W8 B a W v m xs) {b o : Nat} {u : Value} (hb : b < W8.heap.size) (hne : b ≠ B) (hc : W8.cell? ⟨b, o, none⟩ = some u) : W.cell? ⟨b, o, none⟩ = some u :=
  (World.cell?_of_block (a := ⟨b, o, none⟩) (h.kept b hb hne)).trans hc
theorem InWith.sat {P : Pers} {w W8 : World} {a : Option Addr} {W : World} {v : Value} {m : Nat} {xs : List ByteArray} (h : InWith W8 w.heap.size a W v m xs) (hs : Sat P w) (hs8 : Sat P W8) : Sat P W := fun p u hp => by
  have h1 := hs.lt hp
  have h2 := hs8.lt hp
  exact (World.cell?_of_block (h.kept p.block h2 (by omega))).trans (hs8 p u hp)
theorem InWith.drewN {W8 : World} {B : Nat} {a : Option Addr} {W : World} {v : Value} {m : Nat} {xs : List ByteArray} (h : InWith W8 B a W v m xs) (q : Nat) : InWith W8 B a (W.drewN q) v m xs := ⟨h.block, h.row, h.kept, h.size, h.os, h.tape, h.output⟩
theorem filter_take {cs : List ByteArray} {f : ByteArray → Bool} {k : Nat} {x : ByteArray} (h : cs[k]? = some x) : (cs.take (k + 1)).filter f = (cs.take k).filter f ++ (if f x then [x] else []) := by
  rw [take_one h, List.filter_append]
  cases hf : f x <;> simp [hf]

set_option maxRecDepth 100000 in
set_option maxHeartbeats 8000000 in
theorem scWith_calls (P : Pers) (G : Glob P) (a A : Option Addr) (c : Nat) (ls : List (List ByteArray)) (l : List ByteArray) (w : World) (hsc : ScOk P a ls) (hl : Strs P A l) (hs : Sat P w) (hn : (scN ls).length ≤ 1073741824) :
    Calls Tryz.prog 21 #[.pointer a, .slice A l.length c] w fun e w' => ScNew P ls l e w' ∧ Below w.heap.size w w' := by
  obtain ⟨i0, hi, hz0, hz1, hz2⟩ := info_parts infoStr
  have HG := As.mk G
  have HSC := As.mk hsc
  have HL := As.mk hl
  have HS := As.mk hs
  have hlen := hl.len
  have hN : layersN ls ≤ 1073741824 := by rw [layersN_eq, ← scN_length hsc.once]; exact hn
  have HLEN := As.mk (fun W hs => scopeLen_calls P a ls W hsc.rep hs)
  clear G hsc hl hs hn
  go_enter Tryz.func21, Tryz.ntmps21
  go_upto_region 2 with (go_at_call 52; refine (HLEN.out _ HS.out).mono ?_; rintro e w' ⟨rfl, rfl⟩)
  refine wp_abs ?_
  intro w1 hw1
  have hblk1 : w1.heap[w.heap.size]? = some (.cells #[.pointer a, .slice none 0 0, .int .i64 (layersN ls)] 82) := by rw [hw1]; exact heap_alloc_new w _
  have hb01 : Below w.heap.size w w1 := by rw [hw1]; exact (Below.refl _ _).alloc (Nat.le_refl _) _
  have hz01 : w.heap.size < w1.heap.size := by rw [hw1]; simp
  have HBLK := As.mk hblk1
  have HB1 := As.mk hb01
  have HZ1 := As.mk hz01
  have HS1 := As.mk (HS.out.below hb01)
  clear hw1 hblk1 hb01 hz01
  go_wp2
  go_loopw [18] (fun i wr => ∃ k : Nat, i = .int .i64 k ∧ k ≤ l.length ∧ As (Below w1.heap.size w1 wr) ∧ As (bad (l.take k) = false)) (fun i _ => l.length - (intOf i).toNat)
  case atStart => exact ⟨0, rfl, Nat.zero_le _, ⟨Below.refl _ _⟩, ⟨rfl⟩⟩
  case round =>
    obtain ⟨k, rfl, hk, hB, hbad⟩ := hrel
    by_cases hlt : k < l.length
    · obtain ⟨y, hy⟩ : ∃ y, As (l[k]? = some y) := ⟨_, ⟨List.getElem?_eq_getElem hlt⟩⟩
      obtain ⟨b1, o1, rfl, px, hzy⟩ := Row.str HL.out hy.out
      have d1 := (HS1.out.below hB.out) _ _ px
      have HR := As.mk (right_calls P HG.out y wr hzy (HS1.out.below hB.out))
      clear px
      cases hr : right y
      · rw [hr] at HR
        have HF := As.mk (bad_at hy.out hr)
        clear hr
        go_wp2_with (go_at_call 53; refine HR.out.mono ?_; rintro e w2 ⟨rfl, hb2⟩)
        go_ret2
        exact ⟨.inl ⟨HF.out, rfl⟩, HB1.out.trans ((hB.out.trans (hb2.mono hB.out.size)).mono HB1.out.size)⟩
      · rw [hr] at HR
        have HT := As.mk (bad_take hy.out hbad.out hr)
        clear hr
        go_wp2_with (go_at_call 53; refine HR.out.mono ?_; rintro e w2 ⟨rfl, hb2⟩)
        go_roundw
        case rel => exact ⟨k + 1, by go_num, by omega, ⟨hB.out.trans (hb2.mono hB.out.size)⟩, HT⟩
        case measure => simp [intOf]; omega
    · obtain rfl : k = l.length := by omega
      have hbd := hbad.out
      rw [List.take_length] at hbd
      have HBAD := As.mk hbd
      clear hbd hbad
      go_wp2_with (first
        | (go_at_call 56; refine (values_calls2 _ _ _ _).mono ?_; rintro e w4 ⟨Bs, rfl, hBs, hcB, hb4⟩)
        | (go_at_call 54; refine (compact_calls _ v l hlen _ hrow).mono ?_; rintro e w6 ⟨a6, cp6, rfl, hst6, hbl6⟩)
        | (go_at_call 55; refine (sorted_calls Bs c A l hlen _ hBs hcB (StrsAt.of HL.out (((HS1.out.below hB.out)).below hb4))).mono ?_; rintro e w5 ⟨v, rfl, hrow, hb5⟩))
      have hb16 : Below w1.heap.size w1 w6 := hB.out.trans ((hb4.trans ((hbl6 _ hb5).mono hb4.size)).mono hB.out.size)
      have HBLK6 := As.mk ((hb16.block _ HZ1.out).trans HBLK.out)
      have HB6 := As.mk (HB1.out.trans (hb16.mono HB1.out.size))
      have HS6 := As.mk (HS1.out.below hb16)
      have hz6 : w.heap.size < w6.heap.size := Nat.lt_of_lt_of_le HZ1.out hb16.size
      have hcl : (srtc l).length ≤ l.length := by
        have := Lib.compact_length_le (srt l)
        simpa [srtc] using this
      have HNEW : As (newOf ls l = (srtc l).filter fun s => !has ls.flatten s) := ⟨rfl⟩
      have HHAS := As.mk (fun (x : ByteArray) (W : World) (hs : Sat P W) => scopeHas_calls P a ls x W HSC.out.rep hs)
      have HST6 := As.mk hst6
      have HQ := As.mk (fun x => hasIn_eq HSC.out x)
      clear hb16 hst6 hbl6 hrow hb5 hb4 hcB hBs hB
      obtain ⟨cs, hcs⟩ : ∃ cs, srtc l = cs := ⟨_, rfl⟩
      rw [hcs] at HNEW HST6 hcl ⊢
      clear hcs
      go_loopw [31] (fun i wr => ∃ (k m : Nat) (v : Value) (own : List ByteArray), i = .int .i64 k ∧ k ≤ cs.length ∧ m ≤ 1073741824 + k ∧ As (m = layersN ls + own.length) ∧ As (own = (cs.take k).filter fun s => !has ls.flatten s) ∧ As (InWith w6 w.heap.size a wr v m own)) (fun i _ => cs.length - (intOf i).toNat)
      case atStart => exact ⟨0, layersN ls, .slice none 0 0, [], rfl, Nat.zero_le _, by omega, ⟨rfl⟩, ⟨rfl⟩, ⟨⟨HBLK6.out, World.ownsRow_nil _ _ _ _, fun _ _ _ => rfl, Nat.le_refl _, rfl, rfl, rfl⟩⟩⟩
      case round =>
        obtain ⟨k, m, v, own, rfl, hk, hmk, hno, hown, hin⟩ := hrel
        by_cases hlt : k < cs.length
        · obtain ⟨x, hx⟩ : ∃ x, As (cs[k]? = some x) := ⟨_, ⟨List.getElem?_eq_getElem hlt⟩⟩
          obtain ⟨b6, o6, rfl, hb6, hc6⟩ := HST6.out k x hx.out
          have hne : b6 ≠ w.heap.size := fun e => by
            subst e
            exact no_string HBLK6.out ⟨_, _, _, rfl⟩ _ _ hc6
          have d1 := hin.out.cell hb6 hne hc6
          have HSW := As.mk (hin.out.sat HS.out HS6.out)
          have HH := As.mk (HHAS.out x wr HSW.out)
          rw [HQ.out x] at HH
          have HF := As.mk (filter_take (f := fun s => !has ls.flatten s) hx.out)
          rw [← hown.out] at HF
          have hol : own.length ≤ k := by rw [hown.out]; exact Nat.le_trans (List.length_filter_le _ _) (List.length_take_le _ _)
          clear hne hc6 hb6 hown
          cases hh : has ls.flatten x
          · rw [hh] at HH HF
            have HF2 := As.mk (show own ++ [x] = (cs.take (k + 1)).filter fun s => !has ls.flatten s from HF.out.symm)
            clear hh HF
            go_wp2_with (first
              | (go_at_call 57; refine HH.out.mono ?_; rintro e w2 ⟨rfl, q, rfl⟩; have hinq := As.mk (hin.out.drewN q); have j1 := cell_of_row _ _ 1 _ _ _ hinq.out.block; have hsq := hinq.out.size)
              | (at_builtin; refine wpList_append_own _ rfl _ _ 22 rfl w6.heap.size 9 i0 (.string ⟨#[]⟩) 1 16 Tryz.underlying22 hi hz0 hz1 hz2 rfl (by decide) _ _ _ rfl (hinq.out.row.alloc _) ⟨(wr.drewN q).heap.size, 0, none⟩ 1 1 [.string x] rfl rfl (cell_one_new _ _ _) (by simp [Value.oneCell']) (by unfold maxLen; omega) (by omega) (by simp; simp at hsq; omega) ?_; intro v' w1 hown' hgrow _; obtain ⟨g', cap', rfl⟩ := ownsRow_slice hown'; obtain ⟨hb1, hin2⟩ := hinq.out.step hz6 hown' hgrow; have k1 := cell_of_row _ _ 1 _ _ _ hb1; have k2 := cell_of_row _ _ 2 _ _ _ hb1; have f1 := frozen_of_row _ _ 1 _ _ hb1; have f2 := frozen_of_row _ _ 2 _ _ hb1; have HIN2 := As.mk hin2; clear hown' hgrow hb1 hin2))
            go_roundw
            case rel => exact ⟨k + 1, m + 1, _, own ++ [x], by go_num, by omega, by omega, ⟨by rw [hno.out]; simp; omega⟩, HF2, ⟨HIN2.out⟩⟩
            case measure => simp [intOf]; omega
          · rw [hh] at HH HF
            have HF2 := As.mk (show own = (cs.take (k + 1)).filter fun s => !has ls.flatten s by rw [HF.out]; simp)
            clear hh HF
            go_wp2_with (go_at_call 57; refine HH.out.mono ?_; rintro e w2 ⟨rfl, q, rfl⟩)
            go_roundw
            case rel => exact ⟨k + 1, m, v, own, by go_num, by omega, by omega, hno, HF2, ⟨hin.out.drewN _⟩⟩
            case measure => simp [intOf]; omega
        · obtain rfl : k = cs.length := by omega
          have HO := As.mk (show newOf ls l = own by rw [HNEW.out, hown.out, List.take_length])
          have HM := As.mk (show layersN (newOf ls l :: ls) = m by rw [HO.out, hno.out, layersN]; omega)
          have HA := As.mk (show (addAll (scN ls) l).length = m by rw [← layers_new ls l HSC.out.once, HM.out])
          have HBW := As.mk (HB6.out.trans (hin.out.below (Nat.le_of_lt hz6)))
          have j2 := cell_of_row _ _ 2 _ _ _ hin.out.block
          have hol : own.length ≤ cs.length := by rw [hown.out]; exact Nat.le_trans (List.length_filter_le _ _) (List.length_take_le _ _)
          clear hown
          by_cases hbig : 4096 < m
          · have hq : decide (4096 < (m : Int)) = true := decide_eq_true (by omega)
            have HBIG := As.mk hbig
            clear hbig
            go_wp2_with fail
            go_ret2
            exact ⟨.inr (.inl ⟨HBAD.out, by rw [HA.out]; exact HBIG.out, rfl⟩), HBW.out⟩
          · have hq : decide (4096 < (m : Int)) = false := decide_eq_false (by omega)
            have HBIG := As.mk hbig
            clear hbig
            go_wp2_with fail
            go_ret2
            refine ⟨.inr (.inr ⟨HBAD.out, by rw [HA.out]; exact Nat.le_of_not_lt HBIG.out, w.heap.size, rfl, ⟨?_, ?_, newOf_once HSC.out.once l⟩⟩), HBW.out⟩
            · obtain ⟨Ao, co, rfl, hco, hst⟩ := hin.out.slice
              have c0 : wr.cell? ⟨w.heap.size, 0, none⟩ = some (.pointer a) := cell_of_row _ _ 0 _ _ _ hin.out.block
              have c1 : wr.cell? ⟨w.heap.size, 1, none⟩ = some (.slice Ao own.length co) := cell_of_row _ _ 1 _ _ _ hin.out.block
              have c2 : wr.cell? ⟨w.heap.size, 2, none⟩ = some (.int .i64 m) := cell_of_row _ _ 2 _ _ _ hin.out.block
              have hst2 := StrsAt.strs hst (by unfold maxRow; omega) (fun s hs => by
                rw [← HO.out] at hs
                exact Row.sizes HL.out s (newOf_mem.1 hs).1)
              refine ScRep.cons (A := Ao) (c := co) (.inr c0) ?_ ?_ ?_ (HSC.out.rep.mono (Pers.le_snap _ _))
              · rw [HO.out]; exact .inr c1
              · rw [HM.out]; exact .inr c2
              · rw [HO.out]; exact hst2.mono (fun _ _ h => h.elim (fun h => h.elim) .inr) (fun _ _ _ h => h)
            · intro l' hl'
              rcases List.mem_cons.1 hl' with rfl | h
              · exact newOf_rising ls l
              · exact HSC.out.rise l' h

theorem ScNew.scN {P : Pers} {ls : List (List ByteArray)} {l : List ByteArray} {e : Ending} {w' : World} (h : ScNew P ls l e w') :
    (bad l = true ∧ e = .returned (.tuple #[.pointer none, .int .i64 6])) ∨
    (bad l = false ∧ 4096 < (addAll (Go.Proofs.YtainigjbjfpoaaaGreatDoor.scN ls) l).length ∧ e = .returned (.tuple #[.pointer none, .int .i64 19])) ∨
    (bad l = false ∧ (addAll (Go.Proofs.YtainigjbjfpoaaaGreatDoor.scN ls) l).length ≤ 4096 ∧ ∃ b ls', e = .returned (.tuple #[.pointer (some ⟨b, 0, none⟩), .int .i64 0]) ∧ ScOk (P.snap w') (some ⟨b, 0, none⟩) ls' ∧ Go.Proofs.YtainigjbjfpoaaaGreatDoor.scN ls' = addAll (Go.Proofs.YtainigjbjfpoaaaGreatDoor.scN ls) l) := by
  rcases h with h | h | ⟨h1, h2, b, h3, h4⟩
  · exact .inl h
  · exact .inr (.inl h)
  · exact .inr (.inr ⟨h1, h2, b, _, h3, h4, scN_new ls l⟩)

theorem scNew_calls (P : Pers) (G : Glob P) (A : Option Addr) (c : Nat) (l : List ByteArray) (w : World) (hl : Strs P A l) (hs : Sat P w) :
    Calls Tryz.prog 17 #[.slice A l.length c] w fun e w' => ScNew P [] l e w' ∧ Below w.heap.size w w' := by
  have H := As.mk (scWith_calls P G none A c [] l w ⟨.nil, fun _ h => by simp at h, List.nodup_nil⟩ hl hs (by rw [scN_nil]; decide))
  go_enter Tryz.func17, Tryz.ntmps17
  go_wp2_with fail
  refine H.out.mono ?_
  rintro e w' ⟨h | h | ⟨h1, h2, b, h3, h4⟩, hb⟩
  · have hh := h.2
    subst hh
    have HH := As.mk h
    have HB := As.mk hb
    clear h hb
    go_wp2_with fail
    go_ret2
    exact ⟨.inl ⟨HH.out.1, rfl⟩, HB.out⟩
  · have hh := h.2.2
    subst hh
    have HH := As.mk h
    have HB := As.mk hb
    clear h hb
    go_wp2_with fail
    go_ret2
    exact ⟨.inr (.inl ⟨HH.out.1, HH.out.2.1, rfl⟩), HB.out⟩
  · subst h3
    have HH := As.mk (show ScNew P [] l (.returned (.tuple #[.pointer (some ⟨b, 0, none⟩), .int .i64 0])) w' from .inr (.inr ⟨h1, h2, b, rfl, h4⟩))
    have HB := As.mk hb
    clear h1 h2 h4 hb
    go_wp2_with fail
    go_ret2
    exact ⟨HH.out, HB.out⟩
end Go.Proofs.YtainigjbjfpoaaaGreatDoor
