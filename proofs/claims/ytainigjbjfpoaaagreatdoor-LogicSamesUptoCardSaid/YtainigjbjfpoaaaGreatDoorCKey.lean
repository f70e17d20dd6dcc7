/- FEEL's keywords; a name's words; names.Right. -/
import Derived.Test.YtainigjbjfpoaaaGreatDoorCMap
import Derived.Test.YtainigjbjfpoaaaGreatDoorCUtf3
namespace Go.Proofs.YtainigjbjfpoaaaGreatDoor
open Go.RowKit Go.Shelf Go.Maps

attribute [local go_sem] Oper.semAt_some

def keywords : List ByteArray := [bs [97, 110, 100], bs [98, 101, 116, 119, 101, 101, 110], bs [101, 108, 115, 101], bs [101, 118, 101, 114, 121], bs [102, 97, 108, 115, 101], bs [102, 111, 114], bs [102, 117, 110, 99, 116, 105, 111, 110], bs [105, 102], bs [105, 110], bs [110, 111, 116], bs [110, 117, 108, 108], bs [111, 114], bs [114, 101, 116, 117, 114, 110], bs [115, 97, 116, 105, 115, 102, 105, 101, 115], bs [115, 111, 109, 101], bs [116, 104, 101, 110], bs [116, 114, 117, 101]]
theorem keywords_len : keywords.length = 17 := rfl

theorem cell_second (w : World) (o : Obj) (v : Value) (t : TypeId) : ((w.alloc o).alloc (.cells #[v] t)).cell? ⟨w.heap.size + 1, 0, none⟩ = some v := by
  have h := (Boxed.new (w.alloc o) t v).cell
  rw [World.size_alloc] at h
  exact h
theorem cell_first (w : World) (cs : Array Value) (t : TypeId) (o : Obj) (j : Nat) : ((w.alloc (.cells cs t)).alloc o).cell? ⟨w.heap.size, j, none⟩ = cs[j]? := by
  have h := World.cell?_alloc_mark w cs t (0, 0) j
  have hB := (Below.refl _ (w.alloc (.cells cs t))).alloc (Nat.le_refl _) o
  rw [hB.cell (p := ⟨w.heap.size, j, none⟩) (by simp)]
  exact h

set_option maxRecDepth 100000 in
set_option maxHeartbeats 1000000 in
/-- names.All -/
theorem all_calls (w : World) : Calls Tryz.prog 179 #[] w fun e w' => ∃ Bs A, e = .returned (.func (.func 89) #[] #[.pointer (some ⟨Bs, 0, none⟩)]) ∧
    Bs < w'.heap.size ∧ w'.cell? ⟨Bs, 0, none⟩ = some (.slice A keywords.length 17) ∧ StrsAt w'.heap.size w' A keywords ∧ Below w.heap.size w w' := by
  go_enter Tryz.func179, Tryz.ntmps179
  go_wp2_with (go_at_call 56; refine (values_calls _ _ _ _).mono ?_; rintro e w' ⟨rfl, rfl⟩)
  go_ret
  refine ⟨w.heap.size + 1, some ⟨w.heap.size, 0, none⟩, by simp, by simp, by rw [keywords_len]; exact cell_second .., fun j x hj => ⟨w.heap.size, 0, rfl, by simp; omega, ?_⟩, ((Below.refl _ _).alloc (Nat.le_refl _) _).alloc (by simp) _⟩
  rw [Nat.zero_add, cell_first]
  have : (keywords.map Value.string)[j]? = some (.string x) := by rw [List.getElem?_map, hj]; rfl
  rw [← this]
  simp [keywords, bs]

/-- a text that a map's key may be -/
abbrev Short := { s : ByteArray // s.size ≤ maxLen }
theorem keywords_short : ∀ s ∈ keywords, s.size ≤ maxLen := by
  intro s hs
  simp only [keywords, List.mem_cons, List.not_mem_nil, or_false] at hs
  rcases hs with rfl | rfl | rfl | rfl | rfl | rfl | rfl | rfl | rfl | rfl | rfl | rfl | rfl | rfl | rfl | rfl | rfl <;> decide
def keywordsS : List Short := keywords.pmap Subtype.mk keywords_short
theorem keywordsS_map : keywordsS.map Subtype.val = keywords := by simp [keywordsS, List.map_pmap]

/-- the map of those that came -/
def kwf (pre : List ByteArray) (s : ByteArray) : Option Bool := if has pre s then some true else none
theorem kwf_snoc (pre : List Short) (x : Short) : (fun t => if t = x.1 then some true else kwf (pre.map Subtype.val) t) = kwf ((pre ++ [x]).map Subtype.val) := by
  funext t
  by_cases e : t = x.1
  · rw [if_pos e]
    unfold kwf
    rw [if_pos (has_iff.2 (by simp [e]))]
  · rw [if_neg e]
    unfold kwf
    have : has (pre.map Subtype.val) t = has ((pre ++ [x]).map Subtype.val) t := by
      rw [Bool.eq_iff_iff, has_iff, has_iff, List.map_append, List.mem_append]
      simp [e]
    rw [this]

set_option maxRecDepth 100000 in
set_option maxHeartbeats 2000000 in
/-- names.keywords -/
theorem keywords_calls (w : World) : Calls Tryz.prog 162 #[] w fun e w' => ∃ b n, e = .returned (.map (some b)) ∧ MapOf Bo w' b n (kwf keywords) ∧ Below w.heap.size w w' := by
  refine (callsIn_wide (n := 6)).1 ?_
  have hmm := @run_makeMap Tryz.prog
  refine callsIn_of_wp_marks Tryz.func162 rfl trivial ?_ rfl
  simp only [Tryz.ntmps162, List.size_toArray, List.length_nil, Nat.reduceSub, Array.replicate_succ, Array.replicate_zero, List.push_toArray, List.append_toArray, List.nil_append, List.cons_append]
  have hm0 := MapOf.made Bo w
  have hF : Fence.wide.fn 179 := trivial
  have cS := (Boxed.new (w.alloc (.map #[] 0)) 55 (.map (some w.heap.size))).cell
  rw [World.size_alloc] at cS
  have hB0 : Below w.heap.size w ((w.alloc (.map #[] 0)).alloc (.cells #[.map (some w.heap.size)] 55)) := ((Below.refl _ w).alloc (Nat.le_refl _) _).alloc (by simp) _
  gi_wp2_with (gi_at_call 179; refine ((callsIn_wide (n := 5)).2 (all_calls _)).mono ?_; rintro e W0 ⟨Bs, A, rfl, hBs, cN, hI, hB⟩)
  have hB1 := hB0.trans (hB.mono (by simp; omega))
  have cW := (hB.cell (p := ⟨w.heap.size + 1, 0, none⟩) (by simp)).trans cS
  have hm1 := hm0.alloc (.cells #[.map (some w.heap.size)] 55) |>.below (by simp; omega) hB
  have hsz := hB.size
  simp at hsz
  refine wpIn_rangeFunc_ownG rfl (by omega) (gf := 89) (lb := #[.pointer (some ⟨Bs, 0, none⟩)]) rfl trivial (enters_of Tryz.func89 (by kernel_rfl) rfl)
    (values_stopsC Subtype.val Fence.wide 5 trivial rfl (by omega) Bs 17 A keywordsS (by decide) W0 hBs cN (by rw [keywordsS_map]; exact hI)) (fun h k a v hv => k a v (h a v hv)) (fun W l o o' _ h hc _ => Cells.putObj o' h hc) (Below.refl _ _) (fun _ => rfl)
    (fun pre W => (W.cell? ⟨w.heap.size + 1, 0, none⟩ = some (.map (some w.heap.size)) ∧ MapOf Bo W w.heap.size pre.length (kwf (pre.map Subtype.val))) ∧ Below w.heap.size w W)
    (fun _ _ _ => False)
    (OwnFrom.and (fun s A B row hs hg hr => ⟨cell_kept hs.1 hg (fun r e => (hr r e).2), hs.2.kept hg (fun e => by have h5 := (hr _ e.symm).1; omega)⟩) (ownFrom_below (Nat.le_refl _) (by omega)))
    (fun _ _ _ _ _ hs _ _ => hs)
    ⟨⟨cW, hm1⟩, hB1⟩
    (fun x => { tmps := #[.map none, .pointer (some ⟨w.heap.size + 1, 0, none⟩), .string x.1, .map (some w.heap.size), .func (.func 89) #[] #[.pointer (some ⟨Bs, 0, none⟩)], .string x.1, undef, undef, undef], defers := [] }) ?assign ?body ?done ?stop
  case assign =>
    intro l x W K hK
    gi_wp2
    exact hK
  case body =>
    rintro l pre x W ⟨⟨hc, hown⟩, hB⟩ hlt
    obtain ⟨w1, hrun, hown1, hg1⟩ := hown.store (s := x.1) (a := true) (by have h5 : pre.length < 17 := hlt; exact Nat.lt_of_lt_of_le h5 (by decide)) x.2 trivial
    have hrun1 : (Instr.mapUpdate 55 (.map (some w.heap.size)) (.string x.1) (.bool true)).run Tryz.prog W = .ok () w1 := hrun
    clear hrun
    gi_wp2
    obtain ⟨D, ⟨es, ck, hh, _⟩, _⟩ := hown
    refine ⟨KeepsFrom.of_grownBy hg1 (fun j e => by cases e; omega), Cells.map hh hg1,
      ⟨cell_kept hc hg1 (fun r e => by cases e; exact ⟨_, hh, rfl⟩), ?_⟩, hB.grown hg1 hB.size (fun k e => by cases e; exact Nat.le_refl _)⟩
    rw [← kwf_snoc, List.length_append]
    exact hown1
  case done =>
    rintro D ys W hD rfl ⟨⟨hc, hown⟩, hB⟩ hK
    rw [keywordsS_map] at hown
    gi_wp2
    refine ⟨by simp, .inl ⟨_, _, rfl, run_takeDeferred hK, ?_⟩⟩
    refine ⟨_, results_tmp rfl _ _ _, _, _, rfl, hown.kept (grownBy_putObj' _ D _) (fun e => by cases e; omega), hB.trans (belowK_b (w := w) (Nat.le_refl _) W D _ _ (by omega) hK rfl rfl)⟩
  case stop =>
    rintro D c pre W _ _ h _
    exact h.elim
end Go.Proofs.YtainigjbjfpoaaaGreatDoor
