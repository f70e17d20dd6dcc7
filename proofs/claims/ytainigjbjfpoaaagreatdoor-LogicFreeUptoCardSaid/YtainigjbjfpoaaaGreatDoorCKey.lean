/- FEEL's keywords; a name's words; names.Right. -/
/- names.Keyword, Word, Words, Right. -/
import Derived.Test.YtainigjbjfpoaaaGreatDoorCMap
import Derived.Test.YtainigjbjfpoaaaGreatDoorCUtf2
namespace Go.Proofs.YtainigjbjfpoaaaGreatDoor
open Go.RowKit Go.Shelf Go.Maps

attribute [local go_sem] Oper.semAt_some

def keywords : List ByteArray := [bs [97, 110, 100], bs [98, 101, 116, 119, 101, 101, 110], bs [101, 108, 115, 101], bs [101, 118, 101, 114, 121], bs [102, 97, 108, 115, 101], bs [102, 111, 114], bs [102, 117, 110, 99, 116, 105, 111, 110], bs [105, 102], bs [105, 110], bs [110, 111, 116], bs [110, 117, 108, 108], bs [111, 114], bs [114, 101, 116, 117, 114, 110], bs [115, 97, 116, 105, 115, 102, 105, 101, 115], bs [115, 111, 109, 101], bs [116, 104, 101, 110], bs [116, 114, 117, 101]]
theorem keywords_len : keywords.length = 17 := rfl

theorem cell_second (w : World) (o : Obj) (v : Value) (t : TypeId) : ((w.alloc o).alloc (.cells #[v] t)).cell? ⟨w.heap.size + 1, 0, none⟩ = some v := by
  have h := (Boxed.new (w.alloc o) t v).cell
  rw [World.size_alloc] at h
  exact h
theorem cell_first (w : World) (cs : Array Value) (t : TypeId) (o : Obj) (j : Nat) : ((w.alloc (.cells cs t)).alloc o).cell? ⟨w.heap.size, j, none⟩ = cs[j]? := by
  have h := World.cell?_alloc_mark w cs t (0, 0) j
  have hB := (Below.refl _ (w.alloc (.cells cs t))).alloc (Nat.le_refl _) o
  rw [hB.cell (p := ⟨w.heap.size, j, none⟩) (by simp)]
  exact h

set_option maxRecDepth 100000 in
set_option maxHeartbeats 1000000 in
/-- names.All -/
theorem all_calls (w : World) : Calls Tryz.prog 179 #[] w fun e w' => ∃ Bs A, e = .returned (.func (.func 89) #[] #[.pointer (some ⟨Bs, 0, none⟩)]) ∧
    Bs < w'.heap.size ∧ w'.cell? ⟨Bs, 0, none⟩ = some (.slice A keywords.length 17) ∧ StrsAt w'.heap.size w' A keywords ∧ Below w.heap.size w w' := by
  go_enter Tryz.func179, Tryz.ntmps179
  go_wp2_with (go_at_call 56; refine (values_calls _ _ _ _).mono ?_; rintro e w' ⟨rfl, rfl⟩)
  go_ret
  refine ⟨w.heap.size + 1, some ⟨w.heap.size, 0, none⟩, by simp, by simp, by rw [keywords_len]; exact cell_second .., fun j x hj => ⟨w.heap.size, 0, rfl, by simp; omega, ?_⟩, ((Below.refl _ _).alloc (Nat.le_refl _) _).alloc (by simp) _⟩
  rw [Nat.zero_add, cell_first]
  have : (keywords.map Value.string)[j]? = some (.string x) := by rw [List.getElem?_map, hj]; rfl
  rw [← this]
  simp [keywords, bs]

/-- a text that a map's key may be -/
abbrev Short := { s : ByteArray // s.size ≤ maxLen }
theorem keywords_short : ∀ s ∈ keywords, s.size ≤ maxLen := by
  intro s hs
  simp only [keywords, List.mem_cons, List.not_mem_nil, or_false] at hs
  rcases hs with rfl | rfl | rfl | rfl | rfl | rfl | rfl | rfl | rfl | rfl | rfl | rfl | rfl | rfl | rfl | rfl | rfl <;> decide
def keywordsS : List Short := keywords.pmap Subtype.mk keywords_short
theorem keywordsS_map : keywordsS.map Subtype.val = keywords := by simp [keywordsS, List.map_pmap]

/-- the map of those that came -/
def kwf (pre : List ByteArray) (s : ByteArray) : Option Bool := if has pre s then some true else none
theorem kwf_snoc (pre : List Short) (x : Short) : (fun t => if t = x.1 then some true else kwf (pre.map Subtype.val) t) = kwf ((pre ++ [x]).map Subtype.val) := by
  funext t
  by_cases e : t = x.1
  · rw [if_pos e]
    unfold kwf
    rw [if_pos (has_iff.2 (by simp [e]))]
  · rw [if_neg e]
    unfold kwf
    have : has (pre.map Subtype.val) t = has ((pre ++ [x]).map Subtype.val) t := by
      rw [Bool.eq_iff_iff, has_iff, has_iff, List.map_append, List.mem_append]
      simp [e]
    rw [this]

set_option maxRecDepth 100000 in
set_option maxHeartbeats 2000000 in
/-- names.keywords -/
theorem keywords_calls (w : World) : Calls Tryz.prog 162 #[] w fun e w' => ∃ b n, e = .returned (.map (some b)) ∧ MapOf Bo w' b n (kwf keywords) ∧ Below w.heap.size w w' := by
  refine (callsIn_wide (n := 6)).1 ?_
  have hmm := @run_makeMap Tryz.prog
  refine callsIn_of_wp_marks Tryz.func162 rfl trivial ?_ rfl
  simp only [Tryz.ntmps162, List.size_toArray, List.length_nil, Nat.reduceSub, Array.replicate_succ, Array.replicate_zero, List.push_toArray, List.append_toArray, List.nil_append, List.cons_append]
  have hm0 := MapOf.made Bo w
  have hF : Fence.wide.fn 179 := trivial
  have cS := (Boxed.new (w.alloc (.map #[] 0)) 55 (.map (some w.heap.size))).cell
  rw [World.size_alloc] at cS
  have hB0 : Below w.heap.size w ((w.alloc (.map #[] 0)).alloc (.cells #[.map (some w.heap.size)] 55)) := ((Below.refl _ w).alloc (Nat.le_refl _) _).alloc (by simp) _
  gi_wp2_with (gi_at_call 179; refine ((callsIn_wide (n := 5)).2 (all_calls _)).mono ?_; rintro e W0 ⟨Bs, A, rfl, hBs, cN, hI, hB⟩)
  have hB1 := hB0.trans (hB.mono (by simp; omega))
  have cW := (hB.cell (p := ⟨w.heap.size + 1, 0, none⟩) (by simp)).trans cS
  have hm1 := hm0.alloc (.cells #[.map (some w.heap.size)] 55) |>.below (by simp; omega) hB
  have hsz := hB.size
  simp at hsz
  refine wpIn_rangeFunc_ownG rfl (by omega) (gf := 89) (lb := #[.pointer (some ⟨Bs, 0, none⟩)]) rfl trivial (enters_of Tryz.func89 (by kernel_rfl) rfl)
    (values_stopsC Subtype.val Fence.wide 5 trivial rfl (by omega) Bs 17 A keywordsS (by decide) W0 hBs cN (by rw [keywordsS_map]; exact hI)) (fun h k a v hv => k a v (h a v hv)) (fun W l o o' _ h hc _ => Cells.putObj o' h hc) (Below.refl _ _) (fun _ => rfl)
    (fun pre W => (W.cell? ⟨w.heap.size + 1, 0, none⟩ = some (.map (some w.heap.size)) ∧ MapOf Bo W w.heap.size pre.length (kwf (pre.map Subtype.val))) ∧ Below w.heap.size w W)
    (fun _ _ _ => False)
    (OwnFrom.and (fun s A B row hs hg hr => ⟨cell_kept hs.1 hg (fun r e => (hr r e).2), hs.2.kept hg (fun e => by have h5 := (hr _ e.symm).1; omega)⟩) (ownFrom_below (Nat.le_refl _) (by omega)))
    (fun _ _ _ _ _ hs _ _ => hs)
    ⟨⟨cW, hm1⟩, hB1⟩
    (fun x => { tmps := #[.map none, .pointer (some ⟨w.heap.size + 1, 0, none⟩), .string x.1, .map (some w.heap.size), .func (.func 89) #[] #[.pointer (some ⟨Bs, 0, none⟩)], .string x.1, undef, undef, undef], defers := [] }) ?assign ?body ?done ?stop
  case assign =>
    intro l x W K hK
    gi_wp2
    exact hK
  case body =>
    rintro l pre x W ⟨⟨hc, hown⟩, hB⟩ hlt
    obtain ⟨w1, hrun, hown1, hg1⟩ := hown.store (s := x.1) (a := true) (by have h5 : pre.length < 17 := hlt; exact Nat.lt_of_lt_of_le h5 (by decide)) x.2 trivial
    have hrun1 : (Instr.mapUpdate 55 (.map (some w.heap.size)) (.string x.1) (.bool true)).run Tryz.prog W = .ok () w1 := hrun
    clear hrun
    gi_wp2
    obtain ⟨D, ⟨es, ck, hh, _⟩, _⟩ := hown
    refine ⟨KeepsFrom.of_grownBy hg1 (fun j e => by cases e; omega), Cells.map hh hg1,
      ⟨cell_kept hc hg1 (fun r e => by cases e; exact ⟨_, hh, rfl⟩), ?_⟩, hB.grown hg1 hB.size (fun k e => by cases e; exact Nat.le_refl _)⟩
    rw [← kwf_snoc, List.length_append]
    exact hown1
  case done =>
    rintro D ys W hD rfl ⟨⟨hc, hown⟩, hB⟩ hK
    rw [keywordsS_map] at hown
    gi_wp2
    refine ⟨by simp, .inl ⟨_, _, rfl, run_takeDeferred hK, ?_⟩⟩
    refine ⟨_, results_tmp rfl _ _ _, _, _, rfl, hown.kept (grownBy_putObj' _ D _) (fun e => by cases e; omega), hB.trans (belowK_b (w := w) (Nat.le_refl _) W D _ _ (by omega) hK rfl rfl)⟩
  case stop =>
    rintro D c pre W _ _ h _
    exact h.elim
end Go.Proofs.YtainigjbjfpoaaaGreatDoor

namespace Go.Proofs.YtainigjbjfpoaaaGreatDoor
open Go.RowKit Go.Shelf Go.Maps

theorem kwf_has (pre : List ByteArray) (s : ByteArray) : (kwf pre s).getD false = has pre s := by
  unfold kwf
  cases has pre s <;> rfl

theorem keyword_calls (s : ByteArray) (w : World) (hs : s.size ≤ maxLen) : Calls Tryz.prog 143 #[.string s] w fun e w' => e = .returned (.bool (has keywords s)) ∧ Below w.heap.size w w' := by
  go_enter Tryz.func143, Tryz.ntmps143
  go_wp2_with (go_at_call 162; refine (keywords_calls _).mono ?_; rintro e w' ⟨b, n, rfl, hm, hb⟩; have hL : (Instr.lookup 55 (.map (some b)) (.string s) false).run Tryz.prog w' = .ok (.bool ((kwf keywords s).getD false)) w' := hm.look hs; rw [kwf_has] at hL)
  go_ret
  exact ⟨rfl, hb⟩

/-- a word that is no keyword -/
def word (s : ByteArray) : Bool := made first next s && !has keywords s

theorem word_calls (P : Pers) (G : Glob P) (s : ByteArray) (w : World) (hz : s.size ≤ maxStr) (hs : Sat P w) : Calls Tryz.prog 119 #[.string s] w fun e w' => e = .returned (.bool (word s)) ∧ Below w.heap.size w w' := by
  have hz1 : s.size ≤ maxLen := Nat.le_trans hz (by decide)
  have HM := As.mk (fun w (hs : Sat P w) => made_calls P G first next 141 142 s w hz hs (enters_of Tryz.func141 (by kernel_rfl) rfl) (enters_of Tryz.func142 (by kernel_rfl) rfl) first_calls next_calls)
  go_enter Tryz.func119, Tryz.ntmps119
  cases hm : made first next s
  · go_wp2_with (go_at_call 140; refine (HM.out _ hs).mono ?_; rintro e w' ⟨rfl, hb⟩; rw [hm])
    go_ret
    exact ⟨by simp [word, hm], hb⟩
  · go_wp2_with (first | (go_at_call 140; refine (HM.out _ hs).mono ?_; rintro e w' ⟨rfl, hb⟩; rw [hm]) | (go_at_call 143; refine (keyword_calls _ _ hz1).mono ?_; rintro e w2 ⟨rfl, hb2⟩))
    go_ret
    exact ⟨by simp [word, hm], Below.then hb hb2⟩

theorem word1_calls (P : Pers) (G : Glob P) (s : ByteArray) (w : World) (hz : s.size ≤ maxStr) (hs : Sat P w) : Calls Tryz.prog 118 #[.string s] w fun e w' => e = .returned (.bool (!word s)) ∧ Below w.heap.size w w' := by
  go_enter Tryz.func118, Tryz.ntmps118
  go_wp2_with (go_at_call 119; refine (word_calls P G s _ hz hs).mono ?_; rintro e w' ⟨rfl, hb⟩)
  go_ret
  exact ⟨by simp, hb⟩

def space : ByteArray := ⟨#[32]⟩
/-- a name's words -/
def wordsOf (s : ByteArray) : List ByteArray := Lib.splitB space 0 (Lib.countB s space) s
theorem splitB_sizes (sep : ByteArray) : ∀ (k : Nat) (s x : ByteArray), x ∈ Lib.splitB sep 0 k s → x.size ≤ s.size
  | 0, s, x, h => by rw [Lib.splitB_zero, List.mem_singleton] at h; rw [h]; exact Nat.le_refl _
  | k + 1, s, x, h => by
    rcases Lib.indexB_cases s sep with h0 | ⟨i, h0, _⟩
    · rw [Lib.splitB_miss _ _ _ _ h0, List.mem_singleton] at h
      rw [h]; exact Nat.le_refl _
    · rw [Lib.splitB_hit _ _ _ _ i h0, List.mem_cons] at h
      rcases h with rfl | h
      · rw [ByteArray.size_extract]; omega
      · have := splitB_sizes sep k _ x h
        rw [ByteArray.size_extract] at this
        omega
theorem wordsOf_sizes {s x : ByteArray} (h : x ∈ wordsOf s) : x.size ≤ s.size := splitB_sizes _ _ _ _ h
theorem wordsOf_length (s : ByteArray) : (wordsOf s).length = Lib.countB s space + 1 := Lib.splitB_all space (by decide) 0 _ s rfl
theorem wordsOf_le (s : ByteArray) : (wordsOf s).length ≤ s.size + 1 := by
  have := Lib.countB_le space (by decide) _ s (Nat.le_refl _)
  rw [wordsOf_length]
  omega

/-- is it a name? -/
def right (s : ByteArray) : Bool := (wordsOf s).all word

set_option maxRecDepth 100000 in
set_option maxHeartbeats 1000000 in
theorem words_calls (P : Pers) (G : Glob P) (s : ByteArray) (w : World) (hz : s.size ≤ maxStr) (hs : Sat P w) : Calls Tryz.prog 87 #[.string s] w fun e w' => (∃ A n c, e = .returned (.tuple #[.slice A n c, .bool (right s)])) ∧ Below w.heap.size w w' := by
  obtain ⟨m, hm⟩ := G.m
  have hz1 : s.size ≤ 1073741824 := hz
  have hsp : Calls Tryz.prog 117 #[.string s, .string ⟨#[32]⟩] w fun e w' => e = .returned (.slice (some ⟨w.heap.size, 0, none⟩) (wordsOf s).length (wordsOf s).length) ∧ w' = w.alloc (.cells ((wordsOf s).map Value.string).toArray 9) := by
    rw [wordsOf_length]
    exact Tryz.strings_Split s space m w (by omega) (hs _ _ hm) (by decide)
  have hB : Below w.heap.size w (w.alloc (.cells ((wordsOf s).map Value.string).toArray 9)) := (Below.refl _ w).alloc (Nat.le_refl _) _
  obtain ⟨Q, hQ⟩ : ∃ Q, Q = P.put w.heap.size 0 ((wordsOf s).map Value.string) := ⟨_, rfl⟩
  have hPQ : PLe P Q := hQ ▸ Pers.le_put _ _ _ _
  have hsQ : Sat Q (w.alloc (.cells ((wordsOf s).map Value.string).toArray 9)) := by
    rw [hQ]
    refine Sat.put (hs.alloc _) fun j v hj => ?_
    rw [Nat.zero_add, World.cell?_alloc_mark]
    simpa using hj
  have hrow : Strs Q (some ⟨w.heap.size, 0, none⟩) (wordsOf s) := by
    refine Row.made ((wordsOf s).map fun x => [.string x]) (by have := wordsOf_le s; unfold maxRow; omega) (by simp) (fun i x cs hx hc => ?_) (fun i cs j v hc hv => ?_)
    · rw [List.getElem?_map, hx] at hc
      cases hc
      exact ⟨rfl, Nat.le_trans (wordsOf_sizes (List.mem_of_getElem? hx)) hz⟩
    · rw [List.getElem?_map] at hc
      cases hx : (wordsOf s)[i]? with
      | none => rw [hx] at hc; cases hc
      | some x =>
        rw [hx] at hc
        cases hc
        cases j with
        | succ j => simp at hv
        | zero =>
          simp at hv
          rw [hQ]
          have := Pers.put_at P w.heap.size 0 ((wordsOf s).map Value.string) (j := i) (v := v) (by rw [List.getElem?_map, hx, ← hv]; rfl)
          simpa using this
  have C := As.mk (containsFuncStr_calls Q (fun x => !word x) 118 #[] (some ⟨w.heap.size, 0, none⟩) (wordsOf s).length (wordsOf s) _ hrow hsQ (enters_of Tryz.func118 (by kernel_rfl) rfl)
    (fun x w' _ hx hs' => word1_calls P G x w' hx (hs'.le hPQ)))
  have HS := As.mk hsp
  have HB := As.mk hB
  clear hsp hrow hsQ hB hPQ hs hm
  go_enter Tryz.func87, Tryz.ntmps87
  have ha : right s = !(wordsOf s).any fun x => !word x := by rw [right, List.all_eq_not_any_not]
  cases h : (wordsOf s).any fun x => !word x
  all_goals
    rw [h] at ha
    go_wp2_with (first | (go_at_call 117; refine HS.out.mono ?_; rintro e w' ⟨rfl, rfl⟩) | (go_at_call 95; refine C.out.mono ?_; rintro e w2 ⟨rfl, hb2⟩; rw [h]))
    go_ret2
    refine ⟨⟨_, _, _, by rw [ha]; rfl⟩, Below.then HB.out hb2⟩

theorem right_calls (P : Pers) (G : Glob P) (s : ByteArray) (w : World) (hz : s.size ≤ maxStr) (hs : Sat P w) : Calls Tryz.prog 53 #[.string s] w fun e w' => e = .returned (.bool (right s)) ∧ Below w.heap.size w w' := by
  go_enter Tryz.func53, Tryz.ntmps53
  go_wp2_with (go_at_call 87; refine (words_calls P G s _ hz hs).mono ?_; rintro e w' ⟨⟨A, n, c, rfl⟩, hb⟩)
  go_ret
  exact ⟨rfl, hb⟩
end Go.Proofs.YtainigjbjfpoaaaGreatDoor
