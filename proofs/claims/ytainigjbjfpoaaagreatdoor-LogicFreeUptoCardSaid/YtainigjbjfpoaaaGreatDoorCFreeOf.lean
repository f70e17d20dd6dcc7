/- Names in order, none twice: what a walk over a map's keys, sorted, gives. No function of the program is met here. -/
/- expr.Free: the names that an expression needs, in order. -/
import Derived.Test.YtainigjbjfpoaaaGreatDoorCFind
import Derived.Sort.KeysCollected
import Derived.Maps.RangeWalk
import Derived.Test.YtainigjbjfpoaaaGreatDoorCFind2
namespace Go.Proofs.YtainigjbjfpoaaaGreatDoor
open Go.RowKit Go.Shelf Go.Maps

def nub : List ByteArray → List ByteArray
  | [] => []
  | s :: l => if has (nub l) s then nub l else s :: nub l
theorem nub_mem {l : List ByteArray} {s : ByteArray} : s ∈ nub l ↔ s ∈ l := by
  induction l with
  | nil => rfl
  | cons t l ih =>
    unfold nub
    cases h : has (nub l) t
    · rw [if_neg (by decide), List.mem_cons, List.mem_cons, ih]
    · rw [if_pos rfl, ih, List.mem_cons]
      refine ⟨Or.inr, fun e => e.elim (fun e => ?_) id⟩
      subst e
      exact ih.1 (has_iff.1 h)
theorem nub_nodup (l : List ByteArray) : (nub l).Nodup := by
  induction l with
  | nil => exact List.nodup_nil
  | cons t l ih =>
    unfold nub
    cases h : has (nub l) t
    · rw [if_neg (by decide)]
      exact List.nodup_cons.2 ⟨fun h' => (by rw [has_iff.2 h'] at h; cases h), ih⟩
    · rw [if_pos rfl]; exact ih
theorem nub_le (l : List ByteArray) : (nub l).length ≤ l.length := nodup_le _ _ (nub_nodup l) (fun _ h => nub_mem.1 h)
theorem ofList_inj {a b : ByteArray} : a.data.toList = b.data.toList ↔ a = b := by
  rw [ByteArray.ext_iff, Array.toList_inj]
theorem mem_lists {l : List ByteArray} {x : List UInt8} : x ∈ lists l ↔ (⟨x.toArray⟩ : ByteArray) ∈ l := by
  unfold lists
  rw [List.mem_map]
  constructor
  · rintro ⟨a, ha, rfl⟩
    exact ha
  · intro h
    exact ⟨_, h, rfl⟩
theorem lists_nodup {l : List ByteArray} (h : l.Nodup) : (lists l).Nodup := List.pairwise_map.2 (h.imp fun hne e => hne (ofList_inj.1 e))
/-- the names in order, none twice -/
def freeOf (l : List ByteArray) : List ByteArray := texts ((lists (nub l)).mergeSort leB)
theorem sort_of_mem {ss : List (List UInt8)} {l : List ByteArray} (hn : ss.Nodup) (hm : ∀ x, x ∈ ss ↔ (⟨x.toArray⟩ : ByteArray) ∈ l) : texts (ss.mergeSort leB) = freeOf l := by
  unfold freeOf
  rw [mergeSort_of_perm ((List.perm_ext_iff_of_nodup hn (lists_nodup (nub_nodup l))).2 fun x => by rw [hm, mem_lists, nub_mem])]
theorem freeOf_mem {l : List ByteArray} {s : ByteArray} : s ∈ freeOf l ↔ s ∈ l := by
  unfold freeOf texts
  rw [List.mem_map]
  constructor
  · rintro ⟨b, hb, rfl⟩
    rw [List.mem_mergeSort, mem_lists, nub_mem] at hb
    exact hb
  · intro h
    exact ⟨s.data.toList, by rw [List.mem_mergeSort, mem_lists, nub_mem]; exact h, rfl⟩
theorem freeOf_ext {l k : List ByteArray} (h : ∀ s, s ∈ l ↔ s ∈ k) : freeOf l = freeOf k := by
  unfold freeOf
  rw [mergeSort_of_perm ((List.perm_ext_iff_of_nodup (lists_nodup (nub_nodup l)) (lists_nodup (nub_nodup k))).2 fun x => by rw [mem_lists, mem_lists, nub_mem, nub_mem, h])]
theorem freeOf_length (l : List ByteArray) : (freeOf l).length = (nub l).length := by simp [freeOf, texts]
theorem freeOf_le (l : List ByteArray) : (freeOf l).length ≤ l.length := by rw [freeOf_length]; exact nub_le l
theorem freeOf_nodup (l : List ByteArray) : (freeOf l).Nodup := by
  unfold freeOf texts
  refine List.pairwise_map.2 (((List.mergeSort_perm _ _).nodup_iff.2 (lists_nodup (nub_nodup l))).imp fun {a b} hne e => hne ?_)
  have := congrArg (fun s : ByteArray => s.data.toList) e
  simpa using this
theorem freeOf_sorted (l : List ByteArray) : (freeOf l).Pairwise fun a b => a.data.toList ≤ b.data.toList := by
  unfold freeOf texts
  have tr : ∀ a b c : List UInt8, leB a b = true → leB b c = true → leB a c = true := fun a b c h1 h2 => by simp only [leB, decide_eq_true_eq] at *; exact List.le_trans h1 h2
  have tot : ∀ a b : List UInt8, (leB a b || leB b a) = true := fun a b => by simp only [leB, Bool.or_eq_true, decide_eq_true_eq]; exact List.le_total a b
  refine List.pairwise_map.2 ((List.pairwise_mergeSort tr tot _).imp fun {a b} h => ?_)
  simpa [leB] using h

/-- what the map of those found has -/
theorem FdMap.data {W : World} {b : Nat} {l : List ByteArray} (h : FdMap W b l) : ∃ D : DataW Unit, W.ownsMap Tryz.prog 9 (plainElem Tryz.prog 4) b l.length D ∧ ∀ x, Maps.has D (.string x) = true ↔ (⟨x.toArray⟩ : ByteArray) ∈ l := by
  obtain ⟨D, ho, hf⟩ := h
  refine ⟨D, ho, fun x => ?_⟩
  have hx : keyLit ⟨x.toArray⟩ = .string x := by simp [keyLit]
  have h1 := hf ⟨x.toArray⟩
  rw [hx] at h1
  cases hh : has l ⟨x.toArray⟩
  · have h2 : Maps.has D (.string x) = false := Maps.has_false_of_atKey (fun d => by rw [h1]; unfold fnd; rw [hh]; rfl)
    rw [h2]
    refine ⟨fun h => (by cases h), fun h => ?_⟩
    rw [has_iff.2 h] at hh
    cases hh
  · have h2 : Maps.has D (.string x) = true := Maps.has_true_of_atKey (y := .lit (.bool true)) (fun d => by rw [h1]; unfold fnd; rw [hh]; rfl)
    rw [h2]
    exact ⟨fun _ => has_iff.1 hh, fun _ => rfl⟩
theorem BdMap.made (W : World) (n : Nat) (hn : W.heap.size = n) : BdMap (W.alloc (.map #[] 0)) n [] := by
  subst hn
  exact (MapOf.made Io W).cast rfl (by funext s; rfl)
theorem FdMap.made (W : World) (n : Nat) (hn : W.heap.size = n) : FdMap (W.alloc (.map #[] 0)) n [] := by
  subst hn
  exact (MapOf.made Bo W).cast rfl (by funext s; rfl)
theorem free_start (w0 : World) (n : Nat) (hn : w0.heap.size = n) (ty : TypeId) : let W := ((w0.alloc (.map #[] 0)).alloc (.map #[] 0)).alloc (.cells #[.map (some n), .map (some (n + 1))] ty)
    BdMap W n [] ∧ FdMap W (n + 1) [] ∧ W.cell? ⟨n + 1 + 1, 0, none⟩ = some (.map (some n)) ∧ W.cell? ⟨n + 1 + 1, 1, none⟩ = some (.map (some (n + 1))) ∧ Below n w0 W := by
  subst hn
  intro W
  have hc : ∀ j, W.cell? ⟨w0.heap.size + 1 + 1, j, none⟩ = (#[Value.map (some w0.heap.size), Value.map (some (w0.heap.size + 1))] : Array Value)[j]? := fun j => by
    have h := World.cell?_alloc_mark ((w0.alloc (.map #[] 0)).alloc (.map #[] 0)) #[.map (some w0.heap.size), .map (some (w0.heap.size + 1))] ty (0, 0) j
    simpa using h
  exact ⟨((BdMap.made w0 _ rfl).alloc _).alloc _, (FdMap.made (w0.alloc (.map #[] 0)) _ (by simp)).alloc _, hc 0, hc 1, (((Below.refl _ _).alloc (Nat.le_refl _) _).alloc (by simp) _).alloc (by simp; omega) _⟩
/-- a row of one's own, as texts -/
theorem StrsAt.of_row {n₀ : Nat} {W : World} {v : Value} {zs : List ByteArray} (h : W.ownsRow n₀ 9 1 v zs.length (zs.map Value.string)) : ∃ A c, v = .slice A zs.length c ∧ zs.length ≤ c ∧ StrsAt W.heap.size W A zs := by
  have h' := h
  rcases h.2 with ⟨rfl, hz⟩ | ⟨g, cap, cur, rfl, hbase, hb, r1, r2, r3, r4⟩
  · have : zs = [] := List.eq_nil_of_length_eq_zero hz
    subst this
    exact ⟨none, 0, rfl, Nat.le_refl _, StrsAt.nil _ _ _⟩
  · refine ⟨some ⟨g, 0, none⟩, cap, rfl, by omega, fun j x hj => ⟨g, 0, rfl, (Array.getElem?_eq_some_iff.1 hb).1, ?_⟩⟩
    have hjl : j < zs.length := by
      rcases Nat.lt_or_ge j zs.length with h | h
      · exact h
      · rw [List.getElem?_eq_none h] at hj; cases hj
    have h2 := h'.cellAt j (by simpa using hjl)
    rw [Nat.zero_add]
    refine h2.trans ?_
    rw [List.getElem?_map, hj]; rfl
end Go.Proofs.YtainigjbjfpoaaaGreatDoor

namespace Go.Proofs.YtainigjbjfpoaaaGreatDoor
open Go.RowKit Go.Shelf Go.Maps

/-- a map's bool, not looked into -/
structure BoolV where
  b : Bool

set_option maxRecDepth 100000 in
set_option maxHeartbeats 4000000 in
theorem exFree_calls (P : Pers) (x : Ex) (cs : List Value) (w : World) (hx : Ex.Rep P x cs) (hs : Sat P w) (hw : x.wt ≤ 1099511627776) :
    Calls Tryz.prog 73 #[.agg cs.toArray] w fun e w' => (∃ A c, e = .returned (.slice A (freeOf (Ex.fv x [])).length c) ∧ (freeOf (Ex.fv x [])).length ≤ c ∧ StrsAt w'.heap.size w' A (freeOf (Ex.fv x []))) ∧ Below w.heap.size w w' := by
  have hmm := @run_makeMap Tryz.prog
  obtain ⟨i0, hi, hz0, hz1, hz2⟩ := info_parts infoStr
  have HX := As.mk hx
  obtain ⟨A2, c2, A3, c3, rfl, l2, r2, l3, r3, z1, zk⟩ := hx.open
  have hle := Ex.fv_wt _ x [] (Nat.le_refl _)
  have HF := As.mk (fun (W : World) (fb bb bf : Nat) (hbf : bb ≠ bf) => find_calls P fb bb bf hbf x.sz x _ [] [] W (Nat.le_refl _) (by simp; omega) (by simp; omega) HX.out)
  have hS0 := As.mk (hs.alloc (.cells #[.int .i64 x.k, .string x.s, .slice A2 x.ns.length c2, .slice A3 x.l.length c3] 25))
  have HB0 := As.mk ((Below.refl _ w).alloc (Nat.le_refl _) (.cells #[.int .i64 x.k, .string x.s, .slice A2 x.ns.length c2, .slice A3 x.l.length c3] 25))
  obtain ⟨s1, s2, s3, s4, s5⟩ := free_start (w.alloc (.cells #[.int .i64 x.k, .string x.s, .slice A2 x.ns.length c2, .slice A3 x.l.length c3] 25)) (w.heap.size + 1) (by simp) 115
  have HS1 := As.mk s1
  have HS2 := As.mk s2
  have HS3 := As.mk s3
  have HS4 := As.mk s4
  have HS5 := As.mk s5
  have HSS := As.mk (hS0.out.below (HS5.out.mono (by simp)))
  clear hx r2 r3 zk z1 hs s1 s2 s3 s4 s5
  go_enter Tryz.func73, Tryz.ntmps73
  go_wp2_with (first
    | (go_at_call 99
       refine (HF.out _ (w.heap.size + 1 + 1 + 1) (w.heap.size + 1) (w.heap.size + 1 + 1) (by omega) HSS.out HS3.out HS4.out HS1.out HS2.out).mono ?_
       rintro e w2 ⟨⟨v, rfl⟩, _, hF2, hK2⟩
       have q1 := hK2.cells _ _ HS4.out
       have hB2 : As (Below w.heap.size w w2) := ⟨(HB0.out.trans (HS5.out.mono (by omega))).trans (hK2.below _ (by omega) (by omega) (by simp; omega))⟩
       obtain ⟨D, hown, hD⟩ := FdMap.data hF2
       have hDs := hown.size_le
       rw [List.nil_append] at hown hDs
       have HD := As.mk hD
       clear hD hF2 hK2)
    | (at_range; refine wpList_range_own _ rfl _ 55 rfl 9 4 strKeyed Tryz.underlying55 (plainElem Tryz.prog 4) (w.heap.size + 1 + 1) _ D rfl hown ?_; intro w3 hrg3 hg3 hs3
       have hB3 := As.mk (hB2.out.grown hg3 hB2.out.size (fun j hj => by cases hj))
       clear hs3))
  have hnn := hDs
  obtain ⟨n, hn⟩ : ∃ n, As ((Ex.fv x []).length = n) := ⟨_, ⟨rfl⟩⟩
  rw [hn.out] at hrg3 hDs
  have hbl : w.heap.size + 1 + 1 < w2.heap.size := hown.lt
  have hle2 : As (n ≤ 1099511627776) := ⟨by rw [← hn.out]; omega⟩
  clear hnn hown q1
  have HOWN3 := As.mk hrg3
  go_frame
  go_loopw [4] (fun v wr => ∃ (left : Lit → Bool) (cnt : Nat) (ss : List (List UInt8)), As (wr.ranges Tryz.prog 9 (plainElem Tryz.prog 4) (w.heap.size + 1 + 1) w2.heap.size n D left cnt) ∧ As (ss.length + cnt ≤ Maps.size D) ∧ As (wr.ownsRow w2.heap.size 9 1 v ss.length (ss.map encStr)) ∧ As (Collected D left ss) ∧ As (Below w.heap.size w wr))
    (fun _ wr => wr.rangeLeft (w.heap.size + 1 + 1) w2.heap.size)
  case atStart => exact ⟨_, _, [], HOWN3, ⟨by simp⟩, ⟨World.ownsRow_nil _ _ _ _⟩, ⟨Collected.start D⟩, hB3⟩
  case round =>
    obtain ⟨left, cnt, ss, hrg, hcs, hrow, hC, hnx⟩ := hrel
    clear hrg3 hg3
    go_wp2_with (at_next; refine wpList_next_ranges _ rfl _ rfl 9 strKeyed (plainElem Tryz.prog 4) encStr (fun c : BoolV => Value.bool c.b) (fun key kl hk => by obtain ⟨x, hx, _⟩ := Maps.keyOf_str Tryz.underlying9 hk; exact ⟨x, hx⟩) (fun v y hv => by obtain ⟨c, rfl, _⟩ := plainElem_bool_inv Tryz.underlying4 hv; exact ⟨⟨c⟩, rfl⟩) (w.heap.size + 1 + 1) w2.heap.size n _ _ _ rfl hrg.out ?_ ?_)
    · intro _ hl0
      have hHD := HD.out
      have hfin : texts (ss.mergeSort leB) = freeOf (Ex.fv x []) := sort_of_mem hC.out.1 (fun y => by
        rw [hC.out.2 y, hl0, hHD y]
        simp)
      have hlenF : (freeOf (Ex.fv x [])).length = ss.length := by rw [← hfin]; simp
      have hcells : (freeOf (Ex.fv x [])).map Value.string = (ss.mergeSort leB).map encStr := by rw [← hfin, texts_enc]
      have HFin := As.mk (And.intro hlenF hcells)
      clear hHD hfin hlenF hcells
      rcases hrow.out.2 with ⟨rfl, hz⟩ | ⟨g, cap, cur, rfl, hbase, hb, h1, h2, h3, h4⟩
      · have hss : ss = [] := List.eq_nil_of_length_eq_zero hz
        subst hss
        have hz2 := hrow.out
        have HZ2 := As.mk hz2
        clear hz2
        go_wp2_with (go_at_call 29; refine (Tryz.slices_Sort_string_none none 0 _).mono ?_; rintro e w' ⟨rfl, rfl⟩)
        go_ret
        have := StrsAt.of_row (zs := freeOf (Ex.fv x [])) (by rw [HFin.out.1, HFin.out.2]; simpa using HZ2.out)
        rw [HFin.out.1] at this
        obtain ⟨A, c, e, hc, hst⟩ := this
        exact ⟨⟨A, c, by rw [HFin.out.1, ← e]; rfl, by rw [HFin.out.1]; exact hc, hst⟩, hnx.out⟩
      · have hH : Go.Sort.Holds encStr wr g 0 ss.toArray := holds_of_block hb (by simpa using h4)
        have hgl : g < wr.heap.size := (Array.getElem?_eq_some_iff.1 hb).1
        have cS := Tryz.slices_Sort_string g 0 cap ss wr hH hgl (by have := hcs.out; have := hle2.out; omega)
        have HB9 := As.mk (And.intro hbase (And.intro hb (And.intro h1 (And.intro h2 h3))))
        clear hbase hb h1 h2 h3 h4 hH hgl
        go_wp2_with (go_at_call 29; refine cS.mono ?_; rintro e w' ⟨rfl, nn, os, rfl⟩)
        go_ret
        obtain ⟨hbase, hb, h1, h2, h3⟩ := HB9.out
        have ho := ownsRow_sorted (w := wr) (n := nn) (os := os) (cap := cap) (ss := ss) (ts := ss.mergeSort leB) (by simp) hbase hb h1 h2 h3
        have := StrsAt.of_row (zs := freeOf (Ex.fv x [])) (by rw [HFin.out.1, HFin.out.2]; exact ho)
        rw [HFin.out.1] at this
        obtain ⟨A, c, e, hc, hst⟩ := this
        exact ⟨⟨A, c, by rw [HFin.out.1, ← e]; rfl, by rw [HFin.out.1]; exact hc, hst⟩, hnx.out.grown (grownBy_sorted _) hnx.out.size (fun j hj => by cases hj; omega)⟩
    · intro x1 c1 kl yd yp w4 cnt2 hkey hlk hv hat hrg2 hlt hg2 hs2 hen
      obtain ⟨x', ex, rfl, _⟩ := Maps.keyOf_str Tryz.underlying9 hkey
      obtain rfl : x1 = x' := encStr_inj ex
      have hrow2 := hrow.out.kept hg2 (Or.inr (row_ne_iter hrow.out hrg.out).symm)
      have HB2 := As.mk (hnx.out.grown hg2 hnx.out.size (fun j hj => by cases hj; omega))
      have hbl4 : w2.heap.size ≤ w4.heap.size := by have := hg2.size; have := hrg.out.lt; omega
      have HST := As.mk (hC.out.step hlk hat)
      have HLT := As.mk (And.intro hlt (hrg.out.left_eq))
      have HRG2 := As.mk hrg2
      have HCS := hcs.out
      have HLE := hle2.out
      clear hs2 hkey hlk hv hat hlt hg2 hrg2 hrow hrg hnx hC hcs
      go_wp2_with (at_builtin; refine wpList_append_own _ rfl _ _ 22 rfl w2.heap.size 9 i0 (.string ⟨#[]⟩) 1 16 Tryz.underlying22 hi hz0 hz1 hz2 rfl (by decide) _ _ _ rfl (hrow2.alloc _) ⟨w4.heap.size, 0, none⟩ 1 1 [encStr x1] rfl rfl (cell_one_new _ _ _) (by simp [Value.oneCell', encStr]) (by unfold maxLen; omega) (by omega) (by simp; omega) ?_; intro v' w5 hown' hg5 _)
      have hrg5 := (HRG2.out.alloc _).kept hg5 (row_ne_low hrow2 hbl) (row_ne_iter hrow2 HRG2.out)
      go_roundw
      case rel =>
        refine ⟨_, cnt2, ss ++ [x1], ⟨hrg5⟩, ⟨by simp; have := HLT.out.1; omega⟩, ⟨by simpa using hown'⟩, HST, ⟨?_⟩⟩
        exact (HB2.out.alloc HB2.out.size _).grown hg5 (by have := HB2.out.size; simp; omega) (fun j hj => by have := (hrow2.lt j hj).1; omega)
      case measure => rw [hrg5.left_eq, HLT.out.2]; exact HLT.out.1
end Go.Proofs.YtainigjbjfpoaaaGreatDoor
