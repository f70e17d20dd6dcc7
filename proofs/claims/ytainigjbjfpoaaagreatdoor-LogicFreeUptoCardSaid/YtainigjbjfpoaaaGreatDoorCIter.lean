/- slices.Values, AppendSeq, Collect, Sorted, Compact of texts: a new slice with the texts, sorted, none twice. -/
import Derived.Test.YtainigjbjfpoaaaGreatDoorCSlices
import Derived.Test.YtainigjbjfpoaaaGreatDoorCUtf
import Derived.Test.YtainigjbjfpoaaaGreatDoorShelf
import Derived.RangeFuncBox
import Derived.RangeFuncLeaves
import Derived.RangeFuncNested
import Derived.Shelf.Abstract
import Derived.OwnWalkIn
import Derived.TacticsInMore
import Derived.LoopNIn
import Derived.LoopIn
import Derived.Maps.AppendAt
import Derived.Sort.OwnSorted
import Derived.Lib.OwnBridge
namespace Go.Proofs.YtainigjbjfpoaaaGreatDoor
open Go.RowKit Go.Shelf

attribute [local go_sem] Oper.semAt_some

theorem take_one {α : Type} {zs : List α} {k : Nat} {x : α} (h : zs[k]? = some x) : zs.take (k + 1) = zs.take k ++ [x] := by rw [List.take_add_one, h]; rfl

/-- the slice value holds the texts, in a block below n₀, or there are none -/
def StrsAt (n₀ : Nat) (W : World) (A : Option Addr) (zs : List ByteArray) : Prop :=
  ∀ j x, zs[j]? = some x → ∃ b o, A = some ⟨b, o, none⟩ ∧ b < n₀ ∧ W.cell? ⟨b, o + j, none⟩ = some (.string x)
theorem StrsAt.below {n₀ : Nat} {V W : World} (h : Below n₀ V W) {A : Option Addr} {zs : List ByteArray} (hs : StrsAt n₀ V A zs) : StrsAt n₀ W A zs := fun j x hj =>
  let ⟨b, o, e, hb, hc⟩ := hs j x hj
  ⟨b, o, e, hb, (h.cell (p := ⟨b, o + j, none⟩) hb).trans hc⟩
theorem StrsAt.of {P : Pers} {w : World} {A : Option Addr} {zs : List ByteArray} (h : Strs P A zs) (hs : Sat P w) : StrsAt w.heap.size w A zs := fun j x hj => by
  obtain ⟨b, o, e, p, _⟩ := Row.str h hj
  exact ⟨b, o, e, hs.lt p, hs _ _ p⟩

set_option maxRecDepth 100000 in
set_option maxHeartbeats 2000000 in
/-- the closure of slices.Values -/
theorem values1_in {α : Type} (en : α → ByteArray) (F : Fence) (n : Nat) (h7 : F.fn 89) (hro : F.round = none) (hn : 1 ≤ n) (l Bs cap : Nat) (A : Option Addr) (zs : List α) (Kp : World → World → Prop) (hKr : ∀ W, Kp W W) (hKt : ∀ {A B C}, Kp A B → Kp B C → Kp A C) (hreach : zs.length ≤ 9223372036854775807) (J Jx : List α → World → Prop)
    (hY : ∀ pre x W, J pre W → pre.length < zs.length → YieldAt F (n - 1) Tryz.prog l #[.string (en x)] W fun e W' =>
      (e = .returned (.bool true) ∧ J (pre ++ [x]) W' ∧ Kp W W') ∨ (e = .returned (.bool false) ∧ Jx (pre ++ [x]) W'))
    (W : World) (hBs : W.cell? ⟨Bs, 0, none⟩ = some (.slice A zs.length cap)) (hc : ∀ V, Kp W V → ∀ j x, zs[j]? = some x → ∃ b o, A = some ⟨b, o, none⟩ ∧ V.cell? ⟨b, o + j, none⟩ = some (.string (en x))) (h0 : J [] W) :
    CallsIn F n Tryz.prog 89 #[.func (.yield l) #[] #[], .pointer (some ⟨Bs, 0, none⟩)] W fun e W' => (∃ v, e = .returned v) ∧
      ((∃ ys, ys = zs ∧ J ys W') ∨ (∃ pre, pre <+: zs ∧ Jx pre W')) := by
  have HC := As.mk hc
  clear hc
  refine callsIn_of_wp Tryz.func89 rfl h7 ?_ hro
  simp only [Tryz.ntmps89, List.size_toArray, List.length_cons, List.length_nil, Nat.reduceAdd, Nat.reduceSub, Array.replicate_succ, Array.replicate_zero, List.push_toArray, List.append_toArray, List.nil_append, List.cons_append]
  gi_wp2
  gi_loopw [7] (fun i wr => ∃ k : Nat, k ≤ zs.length ∧ i = .int .i64 k ∧ J (zs.take k) wr ∧ Kp W wr)
    (fun i _ => zs.length - (intOf i).toNat)
  case atStart => exact ⟨0, Nat.zero_le _, rfl, by simpa using h0, hKr _⟩
  case round =>
    obtain ⟨k, hk, rfl, hJs, hnx⟩ := hrel
    by_cases hlt : k < zs.length
    · obtain ⟨x, hx⟩ : ∃ x, As (zs[k]? = some x) := ⟨zs[k], ⟨List.getElem?_eq_getElem hlt⟩⟩
      obtain ⟨b, o, rfl, hcx⟩ := HC.out _ hnx k x hx.out
      obtain ⟨fn, tmps, assign, body, hy, hR⟩ := hY _ x wr hJs (by rw [List.length_take]; omega)
      gi_wp2
      refine hR.mono ?_
      rintro e W3 (⟨rfl, hJ3, hk3⟩ | ⟨rfl, hJx3⟩)
      · gi_wp2
        go_roundw
        case rel => exact ⟨k + 1, by omega, by simp, by rw [take_one hx.out]; exact hJ3, hKt hnx hk3⟩
        case measure => simp [intOf]; omega
      · gi_wp2
        refine bodyPost_ret (results_none rfl _ _ _) rfl ?_
        exact ⟨⟨_, rfl⟩, .inr ⟨_, by rw [← take_one hx.out]; exact List.take_prefix _ _, hJx3⟩⟩
    · obtain rfl : k = zs.length := by omega
      gi_wp2
      go_end0
      exact ⟨⟨_, rfl⟩, .inl ⟨_, List.take_length, hJs⟩⟩

set_option maxHeartbeats 1000000 in
theorem values_in (F : Fence) (n : Nat) (h5 : F.fn 56) (hro : F.round = none) (a : Option Addr) (len cap : Nat) (w : World) :
    CallsIn F n Tryz.prog 56 #[.slice a len cap] w fun e w' => e = .returned (.func (.func 89) #[] #[.pointer (some ⟨w.heap.size, 0, none⟩)]) ∧ w' = w.alloc (.cells #[.slice a len cap] 22) := by
  refine callsIn_of_wp Tryz.func56 rfl h5 ?_ hro
  simp only [Tryz.ntmps56, List.size_toArray, List.length_cons, List.length_nil, Nat.reduceAdd, Nat.reduceSub, Array.replicate_succ, Array.replicate_zero, List.push_toArray, List.append_toArray, List.nil_append, List.cons_append]
  gi_wp2
  go_ret
  exact ⟨rfl, rfl⟩
/-- slices.Values -/
theorem values_calls (a : Option Addr) (len cap : Nat) (w : World) :
    Calls Tryz.prog 56 #[.slice a len cap] w fun e w' => e = .returned (.func (.func 89) #[] #[.pointer (some ⟨w.heap.size, 0, none⟩)]) ∧ w' = w.alloc (.cells #[.slice a len cap] 22) :=
  (callsIn_wide (n := 3)).1 (values_in Fence.wide 3 trivial rfl a len cap w)

theorem values_stops {α : Type} (en : α → ByteArray) (F : Fence) (n : Nat) (h7 : F.fn 89) (hro : F.round = none) (hn : 1 ≤ n) (Bs n₀ cap : Nat) (A : Option Addr) (zs : List α) (hreach : zs.length ≤ 9223372036854775807) (w : World) (hBs : Bs < w.heap.size) (hn₀ : n₀ ≤ w.heap.size)
    (hc : w.cell? ⟨Bs, 0, none⟩ = some (.slice A zs.length cap)) (hI : StrsAt n₀ w A (zs.map en)) :
    SeqStopsK F n Tryz.prog 89 #[.pointer (some ⟨Bs, 0, none⟩)] (fun x : α => #[Value.string (en x)]) (Below n₀) (fun ys => ys = zs) (fun pre => pre <+: zs) zs.length w := fun l J Jx W hW _ _ hY h0 =>
  values1_in en F n h7 hro hn l Bs cap A zs (Below n₀) (Below.refl _) (fun h k => h.trans k) hreach J Jx hY W ((hW.cell (p := ⟨Bs, 0, none⟩) hBs).trans hc)
    (fun V hV j x hj => let ⟨b, o, e, _, h⟩ := (hI.below (hW.mono hn₀)).below hV j (en x) (by rw [List.getElem?_map, hj]; rfl); ⟨b, o, e, h⟩) h0

/-- all cells are kept -/
def Cells (A B : World) : Prop := ∀ a v, A.cell? a = some v → B.cell? a = some v
theorem Cells.refl (W : World) : Cells W W := fun _ _ h => h
theorem Cells.putObj {W : World} {l : Nat} {o : Obj} (o' : Obj) (h : W.heap[l]? = some o) (hc : o.isCells = false) : Cells W (W.putObj l o') := fun a v hv => by
  have hne : l ≠ a.block := by
    rintro rfl
    unfold World.cell? at hv
    rw [h] at hv
    cases o <;> simp [Obj.isCells] at hc hv
  rw [World.cell?_of_block (World.putObj_heap_other (Ne.symm hne))]
  exact hv
theorem Cells.map {W W' : World} {b : Nat} {es : Array MapEntry} {ck : Nat} (h : W.heap[b]? = some (.map es ck)) (hg : W.grownBy W' (some b)) : Cells W W' := fun a v hv => by
  have hne : b ≠ a.block := by
    rintro rfl
    unfold World.cell? at hv
    rw [h] at hv
    simp at hv
  have hlt : a.block < W.heap.size := by
    rcases Nat.lt_or_ge a.block W.heap.size with h' | h'
    · exact h'
    · unfold World.cell? at hv
      rw [Array.getElem?_eq_none h'] at hv
      simp at hv
  rw [World.cell?_of_block (hg.block a.block hlt (fun e => hne (by cases e; rfl)))]
  exact hv
theorem values_stopsC {α : Type} (en : α → ByteArray) (F : Fence) (n : Nat) (h7 : F.fn 89) (hro : F.round = none) (hn : 1 ≤ n) (Bs cap : Nat) (A : Option Addr) (zs : List α) (hreach : zs.length ≤ 9223372036854775807) (w : World) (hBs : Bs < w.heap.size)
    (hc : w.cell? ⟨Bs, 0, none⟩ = some (.slice A zs.length cap)) (hI : StrsAt w.heap.size w A (zs.map en)) :
    SeqStopsK F n Tryz.prog 89 #[.pointer (some ⟨Bs, 0, none⟩)] (fun x : α => #[Value.string (en x)]) Cells (fun ys => ys = zs) (fun pre => pre <+: zs) zs.length w := fun l J Jx W hW _ _ hY h0 =>
  values1_in en F n h7 hro hn l Bs cap A zs Cells Cells.refl (fun h k a v hv => k a v (h a v hv)) hreach J Jx hY W ((hW.cell (p := ⟨Bs, 0, none⟩) hBs).trans hc)
    (fun V hV j x hj => let ⟨b, o, e, _, h⟩ := (hI.below hW) j (en x) (by rw [List.getElem?_map, hj]; rfl); ⟨b, o, e, hV _ _ h⟩) h0

theorem infoStr : (Tryz.prog.info? 9).map (fun i => (i.zero, i.size, i.bytes)) = some (some (.string ⟨#[]⟩), 1, 16) := by kernel_rfl

set_option maxRecDepth 100000 in
set_option maxHeartbeats 2000000 in
/-- slices.AppendSeq onto nil, of whatever iterator that reads below n₀ -/
theorem appendSeq_in (F : Fence) (n : Nat) (h3 : F.fn 120) (hro : F.round = none) (hn : 3 ≤ n) (gf : Nat) (lb : Array Value) (hgf : F.fn gf) (eg : ∀ args w, (callFunc gf args).run Tryz.prog w = .ok (.enter gf args) w)
    (zs : List ByteArray) (hlen : zs.length ≤ maxLen) (hbytes : zs.length * 16 ≤ 140737488355328) (w : World)
    (hseq : SeqStopsK F (n - 1) Tryz.prog gf lb (fun x : ByteArray => #[Value.string x]) (Below w.heap.size) (fun ys => ys = zs) (fun pre => pre <+: zs) zs.length w) :
    CallsIn F n Tryz.prog 120 #[.slice none 0 0, .func (.func gf) #[] lb] w fun e W' => ∃ v, e = .returned v ∧ W'.ownsRow w.heap.size 9 1 v zs.length (zs.map Value.string) ∧ Below w.heap.size w W' := by
  have h1 : 1 ≤ n := by omega
  obtain ⟨i0, hi, hz0, hz1, hz2⟩ := info_parts infoStr
  refine callsIn_of_wp_marks Tryz.func120 rfl h3 ?_ hro
  simp only [Tryz.ntmps120, List.size_toArray, List.length_cons, List.length_nil, Nat.reduceAdd, Nat.reduceSub, Array.replicate_succ, Array.replicate_zero, List.push_toArray, List.append_toArray, List.nil_append, List.cons_append]
  gi_wp2
  have bO := Boxed.new w 22 (.slice none 0 0)
  have hB0 : Below w.heap.size w (w.alloc (.cells #[.slice none 0 0] 22)) := (Below.refl _ w).alloc (Nat.le_refl _) _
  refine wpIn_rangeFunc_ownG hro h1 (gf := gf) (lb := lb) rfl hgf eg
    hseq belowK_t (belowK_b (by simp)) hB0 (fun _ => rfl)
    (fun pre W => (∃ v, Boxed W w.heap.size 22 v ∧ W.ownsRow w.heap.size 9 1 v pre.length (pre.map Value.string) ∧ True) ∧ Below w.heap.size w W)
    (fun _ _ _ => False)
    (OwnFrom.and (Own.from (holdsRow_own w.heap.size w.heap.size 22 9 1 (fun pre : List ByteArray => pre.length) (fun pre => pre.map Value.string) (fun _ _ => True)) _) (ownFrom_below (Nat.le_refl _) (by simp)))
    (fun _ _ _ _ _ hs _ _ => hs)
    ⟨⟨_, bO, World.ownsRow_nil _ _ _ _, trivial⟩, hB0⟩
    (fun x => { tmps := #[.slice none 0 0, .func (.func gf) #[] lb, .pointer (some ⟨w.heap.size, 0, none⟩), undef, .slice none 0 0, .string x, .func (.func gf) #[] lb, .string x, undef, undef, undef, undef, undef], defers := [] }) ?assign ?body ?done ?stop
  case assign =>
    intro l x W K hK
    gi_wp2
    exact hK
  case body =>
    rintro l pre x W ⟨⟨v, hv, hrow, _⟩, hB⟩ hlt
    have hc := hv.cell
    gi_wp2_with (gi_at_builtin; refine wpListIn_append_own _ rfl _ _ 22 rfl w.heap.size 9 i0 (.string ⟨#[]⟩) 1 16 Tryz.underlying22 hi hz0 hz1 hz2 rfl (by decide) _ _ _ rfl (hrow.alloc _) ⟨W.heap.size, 0, none⟩ 1 1 [.string x] rfl rfl (cell_one_new _ _ _) (by simp [Value.oneCell']) (by omega) (by omega) (by have := hB.size; simp; omega) ?_; intro v' w1 hown' hgrow _; obtain ⟨g', cap', rfl⟩ := ownsRow_succ hown'; obtain ⟨hv1, hv2, hr2, hk2, hb2⟩ := hv.appended (by decide) hrow hB.size (Nat.le_refl _) hown' hgrow; have hc1 := hv1.cell; have hf1 := hv1.frozen)
    exact ⟨hk2.from _, hb2, ⟨_, hv2, by simpa using hr2, trivial⟩, hB.trans hb2⟩
  case done =>
    rintro D ys W hD rfl ⟨⟨v, hv, hrow, _⟩, hB⟩ hK
    have hc := hv.cell
    gi_wp2
    refine ⟨by simp, .inl ⟨_, _, rfl, run_takeDeferred hK, ?_⟩⟩
    exact ⟨_, results_tmp rfl _ _ _, v, rfl, ownsRow_putObj hrow _ hK rfl, hB.trans (belowK_b (w := w) (Nat.le_refl _) W D _ _ (by simp at hD; omega) hK rfl rfl)⟩
  case stop =>
    rintro D c pre W _ _ h _
    exact h.elim
set_option maxHeartbeats 1000000 in
theorem collect_in (F : Fence) (n : Nat) (h8 : F.fn 88) (h3 : F.fn 120) (hro : F.round = none) (hn : 4 ≤ n) (gf : Nat) (lb : Array Value) (hgf : F.fn gf) (eg : ∀ args w, (callFunc gf args).run Tryz.prog w = .ok (.enter gf args) w)
    (zs : List ByteArray) (hlen : zs.length ≤ maxLen) (hbytes : zs.length * 16 ≤ 140737488355328) (w : World)
    (hseq : SeqStopsK F (n - 1 - 1) Tryz.prog gf lb (fun x : ByteArray => #[Value.string x]) (Below w.heap.size) (fun ys => ys = zs) (fun pre => pre <+: zs) zs.length w) :
    CallsIn F n Tryz.prog 88 #[.func (.func gf) #[] lb] w fun e W' => ∃ v, e = .returned v ∧ W'.ownsRow w.heap.size 9 1 v zs.length (zs.map Value.string) ∧ Below w.heap.size w W' := by
  have h1 : 1 ≤ n := by omega
  refine callsIn_of_wp Tryz.func88 rfl h8 ?_ hro
  simp only [Tryz.ntmps88, List.size_toArray, List.length_cons, List.length_nil, Nat.reduceAdd, Nat.reduceSub, Array.replicate_succ, Array.replicate_zero, List.push_toArray, List.append_toArray, List.nil_append, List.cons_append]
  gi_wp2_with (gi_at_call 120; refine (appendSeq_in F (n - 1) h3 hro (by omega) gf lb hgf eg zs hlen hbytes _ hseq).mono ?_; rintro e W ⟨v, rfl, hrow, hb⟩)
  go_ret
  exact ⟨v, rfl, hrow, hb⟩

/-- the bytes of texts -/
def lists (zs : List ByteArray) : List (List UInt8) := zs.map (·.data.toList)
@[simp] theorem lists_length (zs : List ByteArray) : (lists zs).length = zs.length := by simp [lists]
theorem lists_enc (zs : List ByteArray) : (lists zs).map encStr = zs.map Value.string := Lib.map_encStr zs
def texts (bs : List (List UInt8)) : List ByteArray := bs.map fun b => ⟨b.toArray⟩
@[simp] theorem texts_length (bs : List (List UInt8)) : (texts bs).length = bs.length := by simp [texts]
theorem texts_enc (bs : List (List UInt8)) : (texts bs).map Value.string = bs.map encStr := by simp [texts, Function.comp_def]
/-- texts in order -/
def srt (zs : List ByteArray) : List (List UInt8) := (lists zs).mergeSort fun x y => decide (x ≤ y)
@[simp] theorem srt_length (zs : List ByteArray) : (srt zs).length = zs.length := by simp [srt]

set_option maxRecDepth 100000 in
set_option maxHeartbeats 2000000 in
/-- slices.Sorted of what slices.Values has given -/
theorem sorted_calls (Bs cap : Nat) (A : Option Addr) (zs : List ByteArray) (hlen : zs.length ≤ maxRow) (w : World) (hBs : Bs < w.heap.size)
    (hc : w.cell? ⟨Bs, 0, none⟩ = some (.slice A zs.length cap)) (hI : StrsAt w.heap.size w A zs) :
    Calls Tryz.prog 55 #[.func (.func 89) #[] #[.pointer (some ⟨Bs, 0, none⟩)]] w fun e w' => ∃ v, e = .returned v ∧ w'.ownsRow w.heap.size 9 1 v zs.length ((srt zs).map encStr) ∧ Below w.heap.size w w' := by
  have hlen' := maxRow_le hlen
  have hbytes : zs.length * 16 ≤ 140737488355328 := by omega
  have C := (callsIn_wide (n := 5)).1 (collect_in Fence.wide 5 trivial trivial rfl (by omega) 89 #[.pointer (some ⟨Bs, 0, none⟩)] trivial (enters_of Tryz.func89 (by kernel_rfl) rfl) zs (by simp [maxLen]; omega) hbytes w
    (values_stops id Fence.wide 3 trivial rfl (by omega) Bs w.heap.size cap A zs (by omega) w hBs (Nat.le_refl _) hc (by simpa using hI)))
  clear hc hI
  go_enter Tryz.func55, Tryz.ntmps55
  go_wp2_with (go_at_call 88; refine C.mono ?_; rintro e W ⟨v, rfl, hrow, hb⟩)
  rw [← lists_enc] at hrow
  rcases hrow.2 with ⟨rfl, hz⟩ | ⟨gb, cap, cur, rfl, hbase, hgb, r1, r2, r3, r4⟩
  · have hzs : zs = [] := List.eq_nil_of_length_eq_zero hz
    subst hzs
    go_wp2_with (go_at_call 29; refine (Tryz.slices_Sort_string_none none 0 W).mono ?_; rintro e w' ⟨rfl, rfl⟩)
    go_ret
    exact ⟨.slice none 0 0, rfl, by simpa [srt, lists] using hrow, hb⟩
  · have hH : Go.Sort.Holds encStr W gb 0 (lists zs).toArray := holds_of_block hgb (by rw [lists_length]; simpa using r4)
    have hgl : gb < W.heap.size := (Array.getElem?_eq_some_iff.1 hgb).1
    have cS := Tryz.slices_Sort_string gb 0 cap (lists zs) W hH hgl (by simp; omega)
    rw [lists_length] at cS
    go_wp2_with (go_at_call 29; refine cS.mono ?_; rintro e w' ⟨rfl, nn, os, rfl⟩)
    go_ret
    refine ⟨_, rfl, ?_, hb.grown (grownBy_sorted _) hb.size (fun j hj => by cases hj; exact hbase)⟩
    have := ownsRow_sorted (w := W) (n := nn) (os := os) (cap := cap) (ss := lists zs) (ts := srt zs) (by simp) hbase hgb (by simpa using r1) r2 r3
    rw [lists_length] at this
    exact this

/-- texts in order, none twice -/
def srtc (zs : List ByteArray) : List ByteArray := texts (Lib.compact (srt zs))

set_option maxRecDepth 100000 in
/-- slices.Compact of what slices.Sorted has given -/
theorem compact_calls (n₀ : Nat) (v : Value) (zs : List ByteArray) (hlen : zs.length ≤ maxRow) (w : World) (hrow : w.ownsRow n₀ 9 1 v zs.length ((srt zs).map encStr)) :
    Calls Tryz.prog 54 #[v] w fun e w' => ∃ a cap, e = .returned (.slice a (srtc zs).length cap) ∧ StrsAt w'.heap.size w' a (srtc zs) ∧ (∀ V, Below n₀ V w → Below n₀ V w') := by
  have hle : (Lib.compact (srt zs)).length ≤ zs.length := by simpa using Lib.compact_length_le (srt zs)
  have hlen' := maxRow_le hlen
  rcases hrow.2 with ⟨rfl, hz⟩ | ⟨gb, cap, cur, rfl, hbase, hgb, r1, r2, r3, r4⟩
  · have hzs : zs = [] := List.eq_nil_of_length_eq_zero hz
    subst hzs
    refine (Tryz.slices_Compact_string_empty none 0 w).mono ?_
    rintro e w' ⟨rfl, rfl⟩
    exact ⟨none, 0, by simp [srtc, srt, lists, texts, Lib.compact, Lib.compactUpTo], fun j x hj => by simp [srtc, srt, lists, texts, Lib.compact, Lib.compactUpTo] at hj, fun _ h => h⟩
  · have hH : Go.Sort.Holds encStr w gb 0 (srt zs).toArray := holds_of_block hgb (by rw [srt_length]; simpa using r4)
    have C := Tryz.slices_Compact_string gb 0 cap (srt zs) w hH (by simp; omega) (by simpa using r1)
    rw [srt_length] at C
    refine C.mono ?_
    rintro e w' ⟨rfl, q, rfl⟩
    have ho := Lib.ownsRow_putRow (q := q) (k := (Lib.compact (srt zs)).length) (ys := Lib.compact (srt zs) ++ List.replicate (zs.length - (Lib.compact (srt zs)).length) []) hrow (by simp; omega) hle
    rw [List.take_left, ← texts_enc] at ho
    refine ⟨some ⟨gb, 0, none⟩, cap, by simp [srtc], fun j x hj => ?_, fun V h => Lib.below_putRow h hbase⟩
    have hjl : j < (srtc zs).length := by
      rcases Nat.lt_or_ge j (srtc zs).length with h | h
      · exact h
      · rw [List.getElem?_eq_none h] at hj; cases hj
    refine ⟨gb, 0, rfl, ?_, ?_⟩
    · have : gb < w.heap.size := (Array.getElem?_eq_some_iff.1 hgb).1
      simpa [Go.Sort.putRow, Go.Sort.mapBlock, Go.Sort.ahead] using this
    · have h2 := ho.cellAt j (by simpa [srtc] using hjl)
      rw [Nat.zero_add]
      refine h2.trans ?_
      have h3 : ((texts (Lib.compact (srt zs))).map Value.string)[j]? = some (.string x) := by rw [List.getElem?_map]; rw [show (texts (Lib.compact (srt zs)))[j]? = some x from hj]; rfl
      rw [← h3]
end Go.Proofs.YtainigjbjfpoaaaGreatDoor
