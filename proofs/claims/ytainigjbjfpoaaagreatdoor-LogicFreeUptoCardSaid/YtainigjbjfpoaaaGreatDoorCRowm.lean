/- expr.one, rows: what each kind of expression asks. -/
/- what the map of rows answers -/
/- expr.own: what is wrong with an expression itself. -/
import Derived.Test.YtainigjbjfpoaaaGreatDoorCIMap
import Derived.Test.YtainigjbjfpoaaaGreatDoorCKey
import Derived.Test.YtainigjbjfpoaaaGreatDoorCNum
import Derived.Test.YtainigjbjfpoaaaGreatDoorCSlices
import Derived.Laws.EntriesVeiled
namespace Go.Proofs.YtainigjbjfpoaaaGreatDoor
open Go.RowKit Go.Shelf Go.Maps

theorem one_calls (a : Option Addr) (len cap : Nat) (w : World) :
    Calls Tryz.prog 147 #[.slice a len cap] w fun e w' => e = .returned (.func (.func 166) #[] #[.pointer (some ⟨w.heap.size, 0, none⟩)]) ∧ w' = w.alloc (.cells #[.slice a len cap] 22) := by
  go_enter Tryz.func147, Tryz.ntmps147
  go_wp2
  go_ret
  exact ⟨rfl, rfl⟩

theorem one1_calls (P : Pers) (B cap : Nat) (A : Option Addr) (xs : List ByteArray) (s : ByteArray) (w : World) (hB : P ⟨B, 0, none⟩ (.slice A xs.length cap)) (h : Strs P A xs) (hs : Sat P w) :
    Calls Tryz.prog 166 #[.string s, .pointer (some ⟨B, 0, none⟩)] w fun e w' => e = .returned (.bool (has xs s)) ∧ Below w.heap.size w w' := by
  have hc := hs _ _ hB
  have C := As.mk (containsStr_calls P A cap xs s w h hs)
  clear hB h hs
  go_enter Tryz.func166, Tryz.ntmps166
  go_wp2_with (go_at_call 74; refine C.out.mono ?_; rintro e w' ⟨rfl, rfl⟩)
  go_ret
  exact ⟨rfl, Below.refl _ _⟩

theorem rows1_calls (s : ByteArray) (w : World) : Calls Tryz.prog 148 #[.string s] w fun e w' => e = .returned (.bool true) ∧ Below w.heap.size w w' := by
  go_enter Tryz.func148, Tryz.ntmps148
  go_wp2
  go_ret
  exact ⟨rfl, Below.refl _ _⟩

/-- a world on the way, and cells that it holds -/
structure Hd (w W : World) (l : List (Addr × Value)) : Prop where
  below : Below w.heap.size w W
  held : ∀ p ∈ l, W.cell? p.1 = some p.2
theorem Hd.start (w : World) : Hd w w [] := ⟨Below.refl _ _, by simp⟩
theorem cell_block {W : World} {a : Addr} {v : Value} (h : W.cell? a = some v) : a.block < W.heap.size := World.block_lt_of_cell? W _ h
theorem Hd.alloc {w W : World} {l : List (Addr × Value)} (h : Hd w W l) (o : Obj) : Hd w (W.alloc o) l :=
  ⟨h.below.alloc h.below.size o, fun p hp => by
    have hc := h.held p hp
    exact (World.cell?_of_block (Below.heap_alloc W o _ (cell_block hc))).trans hc⟩
theorem Hd.row {w W : World} {l : List (Addr × Value)} (h : Hd w W l) (cs : List Value) (t : TypeId) : Hd w (W.alloc (.cells cs.toArray t)) ((List.range cs.length).map (fun j => (⟨W.heap.size, j, none⟩, cs[j]?.getD undef)) ++ l) :=
  ⟨h.below.alloc h.below.size _, fun p hp => by
    rcases List.mem_append.1 hp with hp | hp
    · obtain ⟨j, hj, rfl⟩ := List.mem_map.1 hp
      rw [List.mem_range] at hj
      rw [World.cell?_alloc_mark]
      simp [hj]
    · exact (h.alloc (.cells cs.toArray t)).held p hp⟩
theorem Hd.put {w W W' : World} {m e : TypeId} {b n : Nat} {f : Int → Option Value} {l : List (Addr × Value)} (h : Hd w W l) (hm : IMap m e W b n f) (hb : w.heap.size ≤ b) (hg : W.grownBy W' (some b)) : Hd w W' l := by
  obtain ⟨D, ⟨es, ck, hh, _⟩, _⟩ := hm.own
  exact ⟨h.below.grown hg h.below.size (fun k e => by cases e; exact hb), fun p hp => Cells.map hh hg _ _ (h.held p hp)⟩

theorem one_calls2 {w W : World} {l : List (Addr × Value)} (h : Hd w W l) (cs : List Value) (a : Option Addr) (len cap : Nat) :
    Calls Tryz.prog 147 #[.slice a len cap] (W.alloc (.cells cs.toArray 9)) fun e w' => e = .returned (.func (.func 166) #[] #[.pointer (some ⟨W.heap.size + 1, 0, none⟩)]) ∧
      Hd w w' ((⟨W.heap.size + 1, 0, none⟩, .slice a len cap) :: ((List.range cs.length).map (fun j => (⟨W.heap.size, j, none⟩, cs[j]?.getD undef)) ++ l)) ∧ (∀ {m e b n f}, IMap m e W b n f → IMap m e w' b n f) ∧ w' = (W.alloc (.cells cs.toArray 9)).alloc (.cells #[.slice a len cap] 22) := by
  refine (one_calls _ _ _ _).mono ?_
  rintro e w' ⟨rfl, rfl⟩
  refine ⟨by simp, ?_, fun h => (h.alloc _).alloc _, rfl⟩
  have := (h.row cs 9).row [.slice a len cap] 22
  simpa using this

theorem rows_map : Tryz.prog.underlying 139 = some (.map 3 158) := Tryz.underlying139

theorem IMap.made' {m e : TypeId} (W : World) (n : Nat) (hn : W.heap.size = n) (hm : Tryz.prog.underlying m = some (.map 3 e)) : IMap m e (W.alloc (.map #[] 0)) n 0 (fun _ => none) := hn ▸ IMap.made W hm

set_option maxRecDepth 100000 in
theorem upon_insert {o : Oper} {a : Act} {K : Act → World → Prop} {Q : Exit → Act → World → Prop} {m e : TypeId} {W : World} {b n : Nat} {f : Int → Option Value} {k : Int} {v : Value} (h : IMap m e W b n f) (hn : n < maxLen) (hk : (Lit.int .i64 k).wf = true)
    (hK : ∀ w', IMap m e w' b (n + 1) (fun t => if t = k then some v else f t) → W.grownBy w' (some b) → K (a.put o.dst undef) w') :
    Oper.upon Tryz.prog o a K Q ((Sem.run Tryz.prog (Instr.mapUpdate m (.map (some b)) (.int .i64 k) v) W).andThen fun _ w' => Result.ok Next.skip w') := by
  obtain ⟨w', hrun, h1, h2⟩ := h.store hn hk v
  rw [hrun]
  exact hK w' h1 h2

/-- the goal is an operation's end -/
theorem upon_goal {o : Oper} {a : Act} {K : Act → World → Prop} {Q : Exit → Act → World → Prop} {r : Result Next} (h : Oper.upon Tryz.prog o a K Q r) : Oper.upon Tryz.prog o a K Q r := h

/-- what one asks for -/
def oneOf0 : List ByteArray := [⟨#[]⟩]
def oneOf1 : List ByteArray := [⟨#[116, 114, 117, 101]⟩, ⟨#[102, 97, 108, 115, 101]⟩, ⟨#[110, 117, 108, 108]⟩]
def oneOf2 : List ByteArray := [⟨#[111, 114]⟩, ⟨#[97, 110, 100]⟩, ⟨#[61]⟩, ⟨#[33, 61]⟩, ⟨#[60]⟩, ⟨#[60, 61]⟩, ⟨#[62]⟩, ⟨#[62, 61]⟩, ⟨#[43]⟩, ⟨#[45]⟩, ⟨#[42]⟩, ⟨#[47]⟩, ⟨#[42, 42]⟩]
def oneOf3 : List ByteArray := [⟨#[91, 93]⟩, ⟨#[91, 41]⟩, ⟨#[40, 93]⟩, ⟨#[40, 41]⟩]
def oneOf4 : List ByteArray := [⟨#[60]⟩, ⟨#[60, 61]⟩, ⟨#[62]⟩, ⟨#[62, 61]⟩]
/-- the map that rows makes -/
def rowF (B0 B1 B2 B3 B4 : Nat) (t : Int) : Option Value :=
  if t = 19 then some (.agg #[.int .i64 1, .bool false, .bool false, .func (.func 166) #[] #[.pointer (some ⟨B4, 0, none⟩)]]) else
  if t = 18 then some (.agg #[.int .i64 2, .bool false, .bool false, .func (.func 166) #[] #[.pointer (some ⟨B3, 0, none⟩)]]) else
  if t = 17 then some (.agg #[.int .i64 (-1), .bool false, .bool true, .func (.func 166) #[] #[.pointer (some ⟨B0, 0, none⟩)]]) else
  if t = 16 then some (.agg #[.int .i64 (-1), .bool false, .bool false, .func (.func 166) #[] #[.pointer (some ⟨B0, 0, none⟩)]]) else
  if t = 15 then some (.agg #[.int .i64 1, .bool false, .bool true, .func (.func 166) #[] #[.pointer (some ⟨B0, 0, none⟩)]]) else
  if t = 14 then some (.agg #[.int .i64 2, .bool true, .bool false, .func (.func 148) #[] #[]]) else
  if t = 13 then some (.agg #[.int .i64 2, .bool true, .bool false, .func (.func 148) #[] #[]]) else
  if t = 12 then some (.agg #[.int .i64 2, .bool true, .bool false, .func (.func 148) #[] #[]]) else
  if t = 11 then some (.agg #[.int .i64 3, .bool false, .bool false, .func (.func 166) #[] #[.pointer (some ⟨B0, 0, none⟩)]]) else
  if t = 10 then some (.agg #[.int .i64 (-2), .bool false, .bool false, .func (.func 166) #[] #[.pointer (some ⟨B0, 0, none⟩)]]) else
  if t = 9 then some (.agg #[.int .i64 2, .bool false, .bool false, .func (.func 166) #[] #[.pointer (some ⟨B0, 0, none⟩)]]) else
  if t = 8 then some (.agg #[.int .i64 1, .bool true, .bool false, .func (.func 148) #[] #[]]) else
  if t = 7 then some (.agg #[.int .i64 2, .bool false, .bool false, .func (.func 166) #[] #[.pointer (some ⟨B0, 0, none⟩)]]) else
  if t = 6 then some (.agg #[.int .i64 3, .bool false, .bool false, .func (.func 166) #[] #[.pointer (some ⟨B0, 0, none⟩)]]) else
  if t = 5 then some (.agg #[.int .i64 2, .bool false, .bool false, .func (.func 166) #[] #[.pointer (some ⟨B2, 0, none⟩)]]) else
  if t = 4 then some (.agg #[.int .i64 1, .bool false, .bool false, .func (.func 166) #[] #[.pointer (some ⟨B0, 0, none⟩)]]) else
  if t = 3 then some (.agg #[.int .i64 0, .bool true, .bool false, .func (.func 148) #[] #[]]) else
  if t = 2 then some (.agg #[.int .i64 0, .bool false, .bool false, .func (.func 166) #[] #[.pointer (some ⟨B1, 0, none⟩)]]) else
  if t = 1 then some (.agg #[.int .i64 0, .bool false, .bool false, .func (.func 148) #[] #[]]) else
  if t = 0 then some (.agg #[.int .i64 0, .bool false, .bool false, .func (.func 149) #[] #[]]) else
  none

/-- the cells that its functions read -/
def OneAt (W : World) (B : Nat) (xs : List ByteArray) : Prop := ∃ r, W.cell? ⟨B, 0, none⟩ = some (.slice (some ⟨r, 0, none⟩) xs.length xs.length) ∧ ∀ j x, xs[j]? = some x → W.cell? ⟨r, j, none⟩ = some (.string x)
theorem OneAt.of {w W : World} {l : List (Addr × Value)} (h : Hd w W l) (B r : Nat) (xs : List ByteArray) (h1 : (⟨B, 0, none⟩, .slice (some ⟨r, 0, none⟩) xs.length xs.length) ∈ l) (h2 : ∀ j, j < xs.length → (⟨r, j, none⟩, (xs.map Value.string)[j]?.getD undef) ∈ l) : OneAt W B xs :=
  ⟨r, h.held _ h1, fun j x hj => by
    have hjl : j < xs.length := by
      rcases Nat.lt_or_ge j xs.length with h | h
      · exact h
      · rw [List.getElem?_eq_none h] at hj; cases hj
    have := h.held _ (h2 j hjl)
    simpa [hj] using this⟩
theorem mem_row (r : Nat) (cs : List Value) (l : List (Addr × Value)) (j : Nat) (h : j < cs.length) : ((⟨r, j, none⟩ : Addr), cs[j]?.getD undef) ∈ (List.range cs.length).map (fun j => ((⟨r, j, none⟩ : Addr), cs[j]?.getD undef)) ++ l :=
  List.mem_append_left _ (List.mem_map.2 ⟨j, List.mem_range.2 h, rfl⟩)

set_option maxRecDepth 100000 in
set_option maxHeartbeats 4000000 in
theorem rows_calls (w : World) : Calls Tryz.prog 125 #[] w fun e w' => ∃ b n B0 B1 B2 B3 B4, e = .returned (.map (some b)) ∧ IMap 139 158 w' b n (rowF B0 B1 B2 B3 B4) ∧
    OneAt w' B0 oneOf0 ∧ OneAt w' B1 oneOf1 ∧ OneAt w' B2 oneOf2 ∧ OneAt w' B3 oneOf3 ∧ OneAt w' B4 oneOf4 ∧ Below w.heap.size w w' := by
  have hmm := @run_makeMap Tryz.prog
  have hC := As.mk (Hd.start w)
  go_enter Tryz.func125, Tryz.ntmps125
  go_wp2_with (first
    | (go_at_call 147; refine (one_calls2 hC.out _ _ _ _).mono ?_; rintro e w' ⟨rfl, hC1, hT1, rfl⟩; replace hC := As.mk hC1; try replace hM := As.mk (hT1 hM.out)
       clear hC1 hT1)
    | (with_reducible refine upon_goal ?_
       first
         | (refine upon_insert hM.out (by decide) (by decide) ?_
            intro w1 hM1 hg1
            replace hC := As.mk (hC.out.put hM.out hle hg1)
            replace hM := As.mk hM1
            clear hM1 hg1
            rename_i K hK
            refine hK _ _ ?_
            clear hK K)
         | (have hle : w.heap.size ≤ w.heap.size + 1 + 1 := by omega
            refine upon_insert (IMap.made' _ _ (by simp) rows_map) (by decide) (by decide) ?_
            intro w1 hM1 hg1
            have hM := As.mk hM1
            replace hC := As.mk ((hC.out.alloc _).put (IMap.made' _ _ (by simp) rows_map) hle hg1)
            clear hM1 hg1
            rename_i K hK
            refine hK _ _ ?_
            clear hK K)))
  have hc := hC.out
  go_ret
  exact ⟨_, _, _, _, _, _, _, rfl, hM.out, OneAt.of hc _ _ oneOf0 (List.mem_cons_of_mem _ (List.mem_append_right _ (List.mem_cons_of_mem _ (List.mem_append_right _ (List.mem_cons_of_mem _ (List.mem_append_right _ (List.mem_cons_of_mem _ (List.mem_append_right _ (List.mem_cons_self))))))))) (fun j hj => List.mem_cons_of_mem _ (List.mem_append_right _ (List.mem_cons_of_mem _ (List.mem_append_right _ (List.mem_cons_of_mem _ (List.mem_append_right _ (List.mem_cons_of_mem _ (List.mem_append_right _ (List.mem_cons_of_mem _ (mem_row _ _ _ j hj)))))))))), OneAt.of hc _ _ oneOf1 (List.mem_cons_of_mem _ (List.mem_append_right _ (List.mem_cons_of_mem _ (List.mem_append_right _ (List.mem_cons_of_mem _ (List.mem_append_right _ (List.mem_cons_self))))))) (fun j hj => List.mem_cons_of_mem _ (List.mem_append_right _ (List.mem_cons_of_mem _ (List.mem_append_right _ (List.mem_cons_of_mem _ (List.mem_append_right _ (List.mem_cons_of_mem _ (mem_row _ _ _ j hj)))))))), OneAt.of hc _ _ oneOf2 (List.mem_cons_of_mem _ (List.mem_append_right _ (List.mem_cons_of_mem _ (List.mem_append_right _ (List.mem_cons_self))))) (fun j hj => List.mem_cons_of_mem _ (List.mem_append_right _ (List.mem_cons_of_mem _ (List.mem_append_right _ (List.mem_cons_of_mem _ (mem_row _ _ _ j hj)))))), OneAt.of hc _ _ oneOf3 (List.mem_cons_of_mem _ (List.mem_append_right _ (List.mem_cons_self))) (fun j hj => List.mem_cons_of_mem _ (List.mem_append_right _ (List.mem_cons_of_mem _ (mem_row _ _ _ j hj)))), OneAt.of hc _ _ oneOf4 (List.mem_cons_self) (fun j hj => List.mem_cons_of_mem _ (mem_row _ _ _ j hj)), hc.below⟩
end Go.Proofs.YtainigjbjfpoaaaGreatDoor

namespace Go.Proofs.YtainigjbjfpoaaaGreatDoor
open Go.RowKit Go.Shelf Go.Maps

/-- parts, is S a name, are there Names, what S is else -/
def rowTab : List (Int × Bool × Bool × Nat) := [(0, false, false, 5), (0, false, false, 6), (0, false, false, 1), (0, true, false, 6), (1, false, false, 0), (2, false, false, 2), (3, false, false, 0), (2, false, false, 0), (1, true, false, 6), (2, false, false, 0), (-2, false, false, 0), (3, false, false, 0), (2, true, false, 6), (2, true, false, 6), (2, true, false, 6), (1, false, true, 0), (-1, false, false, 0), (-1, false, true, 0), (2, false, false, 3), (1, false, false, 4)]
def parts (k : Int) : Int := (rowTab[k.toNat]?.getD (0, false, false, 0)).1
def isName (k : Int) : Bool := (rowTab[k.toNat]?.getD (0, false, false, 0)).2.1
def hasNames (k : Int) : Bool := (rowTab[k.toNat]?.getD (0, false, false, 0)).2.2.1
def sRight (k : Int) (s : ByteArray) : Bool :=
  match (rowTab[k.toNat]?.getD (0, false, false, 0)).2.2.2 with
  | 0 => has oneOf0 s
  | 1 => has oneOf1 s
  | 2 => has oneOf2 s
  | 3 => has oneOf3 s
  | 4 => has oneOf4 s
  | 5 => canonical s
  | _ => true

/-- a row's function answers so, in whatever world that keeps P -/
def Answers (P : Pers) (v : Value) (k : Int) : Prop := ∃ g cap, v = .agg #[.int .i64 (parts k), .bool (isName k), .bool (hasNames k), .func (.func g) #[] cap] ∧
  (∀ args w, (callFunc g args).run Tryz.prog w = .ok (.enter g args) w) ∧
  ∀ s w, s.size ≤ maxStr → Sat P w → Calls Tryz.prog g (#[.string s] ++ cap) w fun e w' => e = .returned (.bool (sRight k s)) ∧ Below w.heap.size w w'
structure RowsOk (P : Pers) (f : Int → Option Value) : Prop where
  there : ∀ k : Nat, k < 20 → ∃ v, f k = some v ∧ Answers P v k
  none : ∀ k : Int, (k < 0 ∨ 20 ≤ k) → f k = none

theorem Answers.one {P : Pers} {W : World} {B : Nat} {xs : List ByteArray} (hP : ∀ a v, W.cell? a = some v → P a v) (h : OneAt W B xs) (hl : xs.length ≤ 20) (hx : ∀ x ∈ xs, x.size ≤ 20) (k : Int) (hk : ∀ s, sRight k s = has xs s) :
    Answers P (.agg #[.int .i64 (parts k), .bool (isName k), .bool (hasNames k), .func (.func 166) #[] #[.pointer (some ⟨B, 0, none⟩)]]) k := by
  obtain ⟨r, h1, h2⟩ := h
  refine ⟨_, _, rfl, enters_of Tryz.func166 (by kernel_rfl) rfl, fun s w hs hw => ?_⟩
  have hrow : Strs P (some ⟨r, 0, none⟩) xs := by
    refine Row.made (xs.map fun x => [.string x]) (by unfold maxRow; omega) (by simp) (fun i x cs hi hc => ?_) (fun i cs j v hc hv => ?_)
    · rw [List.getElem?_map, hi] at hc
      cases hc
      exact ⟨rfl, Nat.le_trans (hx x (List.mem_of_getElem? hi)) (by decide)⟩
    · rw [List.getElem?_map] at hc
      cases hi : xs[i]? with
      | none => rw [hi] at hc; cases hc
      | some x =>
        rw [hi] at hc
        cases hc
        cases j with
        | succ j => simp at hv
        | zero =>
          simp at hv
          rw [← hv]
          have := hP _ _ (h2 i x hi)
          simpa using this
  rw [hk]
  exact one1_calls P B xs.length (some ⟨r, 0, none⟩) xs s w (hP _ _ h1) hrow hw

theorem rows_ok {P : Pers} (G : Glob P) {W : World} {B0 B1 B2 B3 B4 : Nat} (hP : ∀ a v, W.cell? a = some v → P a v) (h0 : OneAt W B0 oneOf0) (h1 : OneAt W B1 oneOf1) (h2 : OneAt W B2 oneOf2) (h3 : OneAt W B3 oneOf3) (h4 : OneAt W B4 oneOf4) : RowsOk P (rowF B0 B1 B2 B3 B4) := by
  have hall : ∀ k : Int, (∀ s, sRight k s = true) → Answers P (.agg #[.int .i64 (parts k), .bool (isName k), .bool (hasNames k), .func (.func 148) #[] #[]]) k := fun k hk =>
    ⟨_, _, rfl, enters_of Tryz.func148 (by kernel_rfl) rfl, fun s w _ _ => by rw [hk]; exact rows1_calls s w⟩
  refine ⟨fun k hk => ?_, fun k hk => ?_⟩
  · have hk' : k = 0 ∨ k = 1 ∨ k = 2 ∨ k = 3 ∨ k = 4 ∨ k = 5 ∨ k = 6 ∨ k = 7 ∨ k = 8 ∨ k = 9 ∨ k = 10 ∨ k = 11 ∨ k = 12 ∨ k = 13 ∨ k = 14 ∨ k = 15 ∨ k = 16 ∨ k = 17 ∨ k = 18 ∨ k = 19 := by omega
    rcases hk' with rfl | rfl | rfl | rfl | rfl | rfl | rfl | rfl | rfl | rfl | rfl | rfl | rfl | rfl | rfl | rfl | rfl | rfl | rfl | rfl
    · exact ⟨_, rfl, ⟨_, _, rfl, enters_of Tryz.func149 (by kernel_rfl) rfl, fun s w hs hw => canonical_calls P G s w hs hw⟩⟩
    · exact ⟨_, rfl, hall 1 (fun _ => rfl)⟩
    · exact ⟨_, rfl, Answers.one hP h1 (by decide) (by decide) 2 (fun _ => rfl)⟩
    · exact ⟨_, rfl, hall 3 (fun _ => rfl)⟩
    · exact ⟨_, rfl, Answers.one hP h0 (by decide) (by decide) 4 (fun _ => rfl)⟩
    · exact ⟨_, rfl, Answers.one hP h2 (by decide) (by decide) 5 (fun _ => rfl)⟩
    · exact ⟨_, rfl, Answers.one hP h0 (by decide) (by decide) 6 (fun _ => rfl)⟩
    · exact ⟨_, rfl, Answers.one hP h0 (by decide) (by decide) 7 (fun _ => rfl)⟩
    · exact ⟨_, rfl, hall 8 (fun _ => rfl)⟩
    · exact ⟨_, rfl, Answers.one hP h0 (by decide) (by decide) 9 (fun _ => rfl)⟩
    · exact ⟨_, rfl, Answers.one hP h0 (by decide) (by decide) 10 (fun _ => rfl)⟩
    · exact ⟨_, rfl, Answers.one hP h0 (by decide) (by decide) 11 (fun _ => rfl)⟩
    · exact ⟨_, rfl, hall 12 (fun _ => rfl)⟩
    · exact ⟨_, rfl, hall 13 (fun _ => rfl)⟩
    · exact ⟨_, rfl, hall 14 (fun _ => rfl)⟩
    · exact ⟨_, rfl, Answers.one hP h0 (by decide) (by decide) 15 (fun _ => rfl)⟩
    · exact ⟨_, rfl, Answers.one hP h0 (by decide) (by decide) 16 (fun _ => rfl)⟩
    · exact ⟨_, rfl, Answers.one hP h0 (by decide) (by decide) 17 (fun _ => rfl)⟩
    · exact ⟨_, rfl, Answers.one hP h3 (by decide) (by decide) 18 (fun _ => rfl)⟩
    · exact ⟨_, rfl, Answers.one hP h4 (by decide) (by decide) 19 (fun _ => rfl)⟩
  · unfold rowF
    rw [if_neg (by omega), if_neg (by omega), if_neg (by omega), if_neg (by omega), if_neg (by omega), if_neg (by omega), if_neg (by omega), if_neg (by omega), if_neg (by omega), if_neg (by omega), if_neg (by omega), if_neg (by omega), if_neg (by omega), if_neg (by omega), if_neg (by omega), if_neg (by omega), if_neg (by omega), if_neg (by omega), if_neg (by omega), if_neg (by omega)]
end Go.Proofs.YtainigjbjfpoaaaGreatDoor

namespace Go.Proofs.YtainigjbjfpoaaaGreatDoor
open Go.RowKit Go.Shelf Go.Maps

theorem own1_calls (P : Pers) (G : Glob P) (s : ByteArray) (w : World) (hz : s.size ≤ maxStr) (hs : Sat P w) : Calls Tryz.prog 164 #[.string s] w fun e w' => e = .returned (.bool (!right s)) ∧ Below w.heap.size w w' := by
  go_enter Tryz.func164, Tryz.ntmps164
  go_wp2_with (go_at_call 53; refine (right_calls P G s _ hz hs).mono ?_; rintro e w' ⟨rfl, hb⟩)
  go_ret
  exact ⟨by simp, hb⟩

def bad (ns : List ByteArray) : Bool := ns.any fun s => !right s
/-- does a name stand twice? -/
def twice (ns : List ByteArray) : Bool := decide ((srtc ns).length < ns.length)

/-- what is wrong with an expression itself, that may be a test, or not -/
def ownErr (x : Ex) (test : Bool) : Nat :=
  if x.k < 0 ∨ 20 ≤ x.k then 2
  else if (0 ≤ parts x.k ∧ (x.l.length : Int) ≠ parts x.k) ∨ (parts x.k = -2 ∧ x.l.length = 0) then 17
  else if (x.k = 17 ∧ x.ns.length ≠ x.l.length) ∨ (hasNames x.k = false ∧ 0 < x.ns.length) then 17
  else if sRight x.k x.s = false ∨ (x.k = 19 ∧ test = false) then 17
  else if (isName x.k = true ∧ right x.s = false) ∨ bad x.ns = true then 6
  else if twice x.ns = true then 8
  else if x.k = 1 then utfErr x.s else 0

set_option maxRecDepth 100000 in
set_option maxHeartbeats 4000000 in
theorem own_none (P : Pers) (b n : Nat) (f : Int → Option Value) (hf : RowsOk P f) (x : Ex) (cs : List Value) (test : Bool) (w : World) (hx : Ex.Rep P x cs) (hm : IMap 139 158 w b n f) (hk : x.k < 0 ∨ 20 ≤ x.k) :
    Calls Tryz.prog 146 #[.map (some b), .agg cs.toArray, .bool test] w fun e w' => e = .returned (.int .i64 (ownErr x test)) ∧ Below w.heap.size w w' := by
  obtain ⟨A2, c2, A3, c3, rfl, l2, r2, l3, r3, z1, zk⟩ := hx.open
  have hL := (hm.alloc (.cells #[.int .i64 x.k, .string x.s, .slice A2 x.ns.length c2, .slice A3 x.l.length c3] 25)).look (Tryz.zeroValue158 _) zk.wf
  rw [hf.none _ hk] at hL
  have HO := As.mk (show ownErr x test = 2 by rw [ownErr, if_pos hk])
  clear hx hf hm hk
  go_enter Tryz.func146, Tryz.ntmps146
  go_wp2_with fail
  go_ret
  exact ⟨by rw [HO.out]; rfl, ((Below.refl _ _).alloc (Nat.le_refl _) _).alloc (by simp) _⟩

/-- the kinds, by what the code asks of them -/
theorem kinds (k : Int) (h : 0 ≤ k ∧ k < 20) :
    (k = 17 ∧ parts k = -1 ∧ hasNames k = true ∧ isName k = false) ∨ (k = 15 ∧ parts k = 1 ∧ hasNames k = true ∧ isName k = false) ∨ (k = 10 ∧ parts k = -2 ∧ hasNames k = false ∧ isName k = false) ∨
    (k = 16 ∧ parts k = -1 ∧ hasNames k = false ∧ isName k = false) ∨ (k = 19 ∧ parts k = 1 ∧ hasNames k = false ∧ isName k = false) ∨ (k = 1 ∧ parts k = 0 ∧ hasNames k = false ∧ isName k = false) ∨
    ((k ≠ 1 ∧ k ≠ 17 ∧ k ≠ 19) ∧ (0 ≤ parts k ∧ parts k ≤ 3) ∧ hasNames k = false ∧ isName k = true) ∨ ((k ≠ 1 ∧ k ≠ 17 ∧ k ≠ 19) ∧ (0 ≤ parts k ∧ parts k ≤ 3) ∧ hasNames k = false ∧ isName k = false) := by
  have hk : k = 0 ∨ k = 1 ∨ k = 2 ∨ k = 3 ∨ k = 4 ∨ k = 5 ∨ k = 6 ∨ k = 7 ∨ k = 8 ∨ k = 9 ∨ k = 10 ∨ k = 11 ∨ k = 12 ∨ k = 13 ∨ k = 14 ∨ k = 15 ∨ k = 16 ∨ k = 17 ∨ k = 18 ∨ k = 19 := by omega
  rcases hk with rfl | rfl | rfl | rfl | rfl | rfl | rfl | rfl | rfl | rfl | rfl | rfl | rfl | rfl | rfl | rfl | rfl | rfl | rfl | rfl <;> decide

end Go.Proofs.YtainigjbjfpoaaaGreatDoor
