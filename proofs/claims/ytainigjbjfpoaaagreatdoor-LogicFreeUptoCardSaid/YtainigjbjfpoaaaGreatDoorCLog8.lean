/- logic.deep, Check, Depth. -/
/- logic.Depth. -/
import Derived.Test.YtainigjbjfpoaaaGreatDoorCLog5
namespace Go.Proofs.YtainigjbjfpoaaaGreatDoor
open Go.RowKit Go.Shelf Go.Maps

/-- is one deeper than so much? -/
def loDeeper : Nat → Lo → Bool
  | 0, _ => true
  | n + 1, x => x.l.any (loDeeper n)

set_option maxRecDepth 100000 in
set_option maxHeartbeats 1000000 in
theorem loDeep_calls : ∀ (n : Nat) (P : Pers) (x : Lo) (cs : List Value) (w : World), n ≤ 1000 → Lo.Rep P x cs → Sat P w →
    Calls Tryz.prog 26 #[.agg cs.toArray, .int .i64 n] w fun e w' => e = .returned (.bool (loDeeper n x)) ∧ Below w.heap.size w w' := by
  intro n
  induction n with
  | zero =>
    intro P x cs w hn hx hs
    obtain ⟨A3, c3, A4, c4, A6, c6, A7, c7, A8, c8, A9, c9, A10, c10, rfl, l3, r3, l4, r4, l6, r6, l7, r7, l8, r8, l9, r9, l10, r10, z2, z5, zk, zk2⟩ := hx.open
    go_enter Tryz.func26, Tryz.ntmps26
    go_wp2
    go_ret
    exact ⟨rfl, ((Below.refl _ _).alloc (Nat.le_refl _) _).alloc (by simp) _⟩
  | succ n ih =>
    intro P x cs w hn hx hs
    obtain ⟨A3, c3, A4, c4, A6, c6, A7, c7, A8, c8, A9, c9, A10, c10, rfl, l3, r3, l4, r4, l6, r6, l7, r7, l8, r8, l9, r9, l10, r10, z2, z5, zk, zk2⟩ := hx.open
    have hB : Below w.heap.size w ((w.alloc (.cells #[.int .i64 x.k, .int .i64 x.e.k, .string x.e.s, .slice A3 x.e.ns.length c3, .slice A4 x.e.l.length c4, .string x.pol, .slice A6 x.inp.length c6, .slice A7 x.out.length c7, .slice A8 x.ru.length c8, .slice A9 x.ns.length c9, .slice A10 x.l.length c10] 29)).alloc (.cells #[.int .i64 (n + 1 : Nat)] 3)) := ((Below.refl _ _).alloc (Nat.le_refl _) _).alloc (by simp) _
    have hQs : Sat (P.put (w.heap.size + 1) 0 [.int .i64 (n + 1 : Nat)]) ((w.alloc (.cells #[.int .i64 x.k, .int .i64 x.e.k, .string x.e.s, .slice A3 x.e.ns.length c3, .slice A4 x.e.l.length c4, .string x.pol, .slice A6 x.inp.length c6, .slice A7 x.out.length c7, .slice A8 x.ru.length c8, .slice A9 x.ns.length c9, .slice A10 x.l.length c10] 29)).alloc (.cells #[.int .i64 (n + 1 : Nat)] 3)) :=
      Sat.put ((hs.alloc _).alloc _) fun j v hj => by rw [Nat.zero_add, cell_last]; simpa using hj
    have hpq : PLe P (P.put (w.heap.size + 1) 0 [.int .i64 (n + 1 : Nat)]) := Pers.le_put _ _ _ _
    have hcl : ∀ (y : Lo) (cy : List Value) (w' : World), Lo.Rep (P.put (w.heap.size + 1) 0 [.int .i64 (n + 1 : Nat)]) y cy → Sat (P.put (w.heap.size + 1) 0 [.int .i64 (n + 1 : Nat)]) w' → Calls Tryz.prog 61 #[.agg cy.toArray, .pointer (some ⟨w.heap.size + 1, 0, none⟩)] w' fun e w'' => e = .returned (.bool (loDeeper n y)) ∧ Below w'.heap.size w' w'' := by
      intro y cy w' hy hs'
      have IH := As.mk (fun W h => ih _ y _ W (by omega) hy h)
      obtain ⟨B3, d3, B4, d4, B6, d6, B7, d7, B8, d8, B9, d9, B10, d10, rfl, _⟩ := hy.open
      have hc : w'.cell? ⟨w.heap.size + 1, 0, none⟩ = some (.int .i64 (n + 1 : Nat)) := hs' _ _ (by simpa using Pers.put_at P (w.heap.size + 1) 0 [.int .i64 (n + 1 : Nat)] (j := 0) rfl)
      have hsP := As.mk hs'
      have hlt : w.heap.size + 1 < w'.heap.size := cell_block hc
      clear hs hs' hQs hB hx hy r3 r4 r6 r7 r8 r9 r10
      go_enter Tryz.func61, Tryz.ntmps61
      go_wp2_with (go_at_call 26; refine (IH.out _ (hsP.out.alloc _)).mono ?_; rintro e w2 ⟨rfl, hb⟩)
      go_ret
      exact ⟨rfl, Below.then ((Below.refl _ _).alloc (Nat.le_refl _) _) hb⟩
    have C := As.mk (containsFuncLo_calls _ (loDeeper n) 61 #[.pointer (some ⟨w.heap.size + 1, 0, none⟩)] A10 c10 x.l _ (Los.mono hpq r10) hQs (enters_of Tryz.func61 (by kernel_rfl) rfl) (fun y cy w' _ hy hs' => hcl y cy w' hy hs'))
    clear hcl hQs hx hs r3 r4 r6 r7 r8 r9 r10 ih
    go_enter Tryz.func26, Tryz.ntmps26
    go_wp2_with (go_at_call 60; refine C.out.mono ?_; rintro e w2 ⟨rfl, hb⟩)
    go_ret
    exact ⟨rfl, Below.then hB hb⟩

/-- what is wrong with a logic -/
def loErr (x : Lo) : Nat := if loDeeper 30 x then 9 else Lo.err x

set_option maxRecDepth 100000 in
set_option maxHeartbeats 1000000 in
theorem logicCheck_calls (P : Pers) (G : Glob P) (x : Lo) (cs : List Value) (w : World) (hx : Lo.Rep P x cs) (hs : Sat P w) :
    Calls Tryz.prog 9 #[.agg cs.toArray] w fun e w' => e = .returned (.int .i64 (loErr x)) ∧ Below w.heap.size w w' := by
  have HD := As.mk (fun w hs => loDeep_calls 30 P x cs w (by omega) hx hs)
  have HC := As.mk (fun w hs => loCheck_calls P G x.sz x cs w (Nat.le_refl _) hx hs)
  have HE := As.mk (loErr.eq_1 x)
  obtain ⟨A3, c3, A4, c4, A6, c6, A7, c7, A8, c8, A9, c9, A10, c10, rfl, l3, r3, l4, r4, l6, r6, l7, r7, l8, r8, l9, r9, l10, r10, z2, z5, zk, zk2⟩ := hx.open
  have HB := As.mk ((Below.refl _ w).alloc (Nat.le_refl _) (.cells #[.int .i64 x.k, .int .i64 x.e.k, .string x.e.s, .slice A3 x.e.ns.length c3, .slice A4 x.e.l.length c4, .string x.pol, .slice A6 x.inp.length c6, .slice A7 x.out.length c7, .slice A8 x.ru.length c8, .slice A9 x.ns.length c9, .slice A10 x.l.length c10] 29))
  have HS := As.mk (hs.alloc (.cells #[.int .i64 x.k, .int .i64 x.e.k, .string x.e.s, .slice A3 x.e.ns.length c3, .slice A4 x.e.l.length c4, .string x.pol, .slice A6 x.inp.length c6, .slice A7 x.out.length c7, .slice A8 x.ru.length c8, .slice A9 x.ns.length c9, .slice A10 x.l.length c10] 29))
  have HK : As (∀ j v, [.int .i64 x.k, .int .i64 x.e.k, .string x.e.s, .slice A3 x.e.ns.length c3, .slice A4 x.e.l.length c4, .string x.pol, .slice A6 x.inp.length c6, .slice A7 x.out.length c7, .slice A8 x.ru.length c8, .slice A9 x.ns.length c9, .slice A10 x.l.length c10][j]? = some v → (w.alloc (.cells #[.int .i64 x.k, .int .i64 x.e.k, .string x.e.s, .slice A3 x.e.ns.length c3, .slice A4 x.e.l.length c4, .string x.pol, .slice A6 x.inp.length c6, .slice A7 x.out.length c7, .slice A8 x.ru.length c8, .slice A9 x.ns.length c9, .slice A10 x.l.length c10] 29)).cell? ⟨w.heap.size, j, none⟩ = some v) := ⟨fun j v h => by rw [World.cell?_alloc_mark]; simpa using h⟩
  have hz0 : w.heap.size < (w.alloc (.cells #[.int .i64 x.k, .int .i64 x.e.k, .string x.e.s, .slice A3 x.e.ns.length c3, .slice A4 x.e.l.length c4, .string x.pol, .slice A6 x.inp.length c6, .slice A7 x.out.length c7, .slice A8 x.ru.length c8, .slice A9 x.ns.length c9, .slice A10 x.l.length c10] 29)).heap.size := by simp
  clear hx hs r3 r4 r6 r7 r8 r9 r10
  cases hd : loDeeper 30 x
  · rw [hd] at HD HE
    go_enter Tryz.func9, Tryz.ntmps9
    go_wp2_with (first
      | (go_at_call 26; refine (HD.out _ HS.out).mono ?_; rintro e w1 ⟨rfl, hb1⟩; have k := fun j v h => (bcell hb1 _ _ hz0).trans (HK.out j v h); have q0 := k 0 _ rfl; have q1 := k 1 _ rfl; have q2 := k 2 _ rfl; have q3 := k 3 _ rfl; have q4 := k 4 _ rfl; have q5 := k 5 _ rfl; have q6 := k 6 _ rfl; have q7 := k 7 _ rfl; have q8 := k 8 _ rfl; have q9 := k 9 _ rfl; have q10 := k 10 _ rfl; have hB1 := As.mk (Below.then HB.out hb1); have hs1 := As.mk (HS.out.below hb1); clear k hb1)
      | (go_at_call 27; refine (HC.out _ hs1.out).mono ?_; rintro e w2 ⟨rfl, hb2⟩))
    go_ret
    exact ⟨by rw [HE.out]; rfl, Below.then hB1.out hb2⟩
  · rw [hd] at HD HE
    go_enter Tryz.func9, Tryz.ntmps9
    go_wp2_with (go_at_call 26; refine (HD.out _ HS.out).mono ?_; rintro e w1 ⟨rfl, hb1⟩)
    go_ret
    exact ⟨by rw [HE.out]; rfl, Below.then HB.out hb1⟩
end Go.Proofs.YtainigjbjfpoaaaGreatDoor

namespace Go.Proofs.YtainigjbjfpoaaaGreatDoor
open Go.RowKit Go.Shelf Go.Maps

mutual
/-- how deep one is -/
def Lo.depth : Lo → Nat
  | ⟨_, _, _, _, _, _, _, l⟩ => Lo.depths l + 1
def Lo.depths : List Lo → Nat
  | [] => 0
  | x :: xs => max (Lo.depth x) (Lo.depths xs)
end
theorem Lo.depth_eq (x : Lo) : Lo.depth x = Lo.depths x.l + 1 := by cases x; rw [Lo.depth]
theorem Lo.depths_le {x : Lo} : ∀ {l : List Lo}, x ∈ l → Lo.depth x ≤ Lo.depths l
  | y :: l, h => by
    rw [Lo.depths]
    rcases List.mem_cons.1 h with rfl | h
    · omega
    · have := Lo.depths_le h; omega
theorem Lo.depths_take (l : List Lo) : ∀ k, (hk : k < l.length) → Lo.depths (l.take (k + 1)) = max (Lo.depths (l.take k)) (Lo.depth l[k]) := by
  induction l with
  | nil => intro k hk; simp at hk
  | cons x l ih =>
    intro k hk
    cases k with
    | zero => simp [Lo.depths]
    | succ k =>
      have := ih k (by simpa using hk)
      simp only [List.take_succ_cons, Lo.depths, List.getElem_cons_succ]
      rw [this]
      omega
theorem Lo.depths_take_le (l : List Lo) (k : Nat) : Lo.depths (l.take k) ≤ Lo.depths l := by
  induction l generalizing k with
  | nil => simp
  | cons x l ih =>
    cases k with
    | zero => simp [Lo.depths]
    | succ k =>
      have := ih k
      simp only [List.take_succ_cons, Lo.depths]
      omega

set_option maxRecDepth 100000 in
set_option maxHeartbeats 2000000 in
theorem depth_calls (P : Pers) : ∀ (m : Nat) (x : Lo) (cs : List Value) (w : World), x.sz ≤ m → Lo.depth x ≤ 4611686018427387904 → Lo.Rep P x cs → Sat P w →
    Calls Tryz.prog 11 #[.agg cs.toArray] w fun e w' => e = .returned (.int .i64 (Lo.depth x)) ∧ Below w.heap.size w w' := by
  intro m
  induction m with
  | zero => intro x cs w h; cases x; simp [Lo.sz] at h
  | succ m ih =>
    intro x cs w hn hd hx hs
    have IH := As.mk (fun (y : Lo) (hy : y ∈ x.l) cy w hr hs => ih y cy w (by have := Lo.lt_of_mem hy; omega) (by have := Lo.depths_le hy; have := Lo.depth_eq x; omega) hr hs)
    have HQ := As.mk (Lo.depth_eq x)
    obtain ⟨A3, c3, A4, c4, A6, c6, A7, c7, A8, c8, A9, c9, A10, c10, rfl, l3, r3, l4, r4, l6, r6, l7, r7, l8, r8, l9, r9, l10, r10, z2, z5, zk, zk2⟩ := hx.open
    have HR := As.mk r10
    have hlen := r10.len
    have HB := As.mk ((Below.refl _ w).alloc (Nat.le_refl _) (.cells #[.int .i64 x.k, .int .i64 x.e.k, .string x.e.s, .slice A3 x.e.ns.length c3, .slice A4 x.e.l.length c4, .string x.pol, .slice A6 x.inp.length c6, .slice A7 x.out.length c7, .slice A8 x.ru.length c8, .slice A9 x.ns.length c9, .slice A10 x.l.length c10] 29))
    have HS := As.mk (hs.alloc (.cells #[.int .i64 x.k, .int .i64 x.e.k, .string x.e.s, .slice A3 x.e.ns.length c3, .slice A4 x.e.l.length c4, .string x.pol, .slice A6 x.inp.length c6, .slice A7 x.out.length c7, .slice A8 x.ru.length c8, .slice A9 x.ns.length c9, .slice A10 x.l.length c10] 29))
    have hdd : Lo.depths x.l < 4611686018427387904 := by have := HQ.out; omega
    have HD := As.mk (Lo.depths_take_le x.l)
    clear ih hx hs r3 r4 r6 r7 r8 r9 r10 hd
    go_enter Tryz.func11, Tryz.ntmps11
    go_wp2
    go_loopw [3, 9] (fun d i wr => ∃ (k D : Nat), i = .int .i64 k ∧ d = .int .i64 D ∧ k ≤ x.l.length ∧ As (D = Lo.depths (x.l.take k)) ∧ As (Below w.heap.size w wr) ∧ As (Sat P wr)) (fun _ i _ => x.l.length - (intOf i).toNat)
    case atStart => exact ⟨0, 0, rfl, rfl, Nat.zero_le _, ⟨rfl⟩, HB, HS⟩
    case round =>
      obtain ⟨k, D, rfl, rfl, hk, hD, hBr, hsr⟩ := hrel
      have hDl : D < 4611686018427387904 := by have := HD.out k; have := hD.out; omega
      by_cases hlt : k < x.l.length
      · have hd2 := Lo.depths_take x.l k hlt
        rw [← hD.out] at hd2
        obtain ⟨y, hy⟩ : ∃ y, As (x.l[k] = y) := ⟨_, ⟨rfl⟩⟩
        rw [hy.out] at hd2
        have hym : y ∈ x.l := hy.out ▸ List.getElem_mem hlt
        have HD2 := As.mk hd2
        obtain ⟨be, oe, B3, d3, B4, d4, B6, d6, B7, d7, B8, d8, B9, d9, B10, d10, rfl, hbe, hry, e0, e1, e2, e3, e4, e5, e6, e7, e8, e9, e10⟩ := HR.out.at hsr.out (i := k) (x := y) (by rw [List.getElem?_eq_getElem hlt, hy.out])
        have IY := As.mk (fun W hs => IH.out y hym _ W hry hs)
        clear hd2 hD hry
        generalize Lo.depth y = v at *
        have hmx : max (D : Int) (v : Int) = ((max D v : Nat) : Int) := by omega
        go_wp2_with (go_at_call 11; refine (IY.out _ (hsr.out.alloc _)).mono ?_; rintro e w2 ⟨rfl, hb2⟩)
        have hb3 := Below.then ((Below.refl _ _).alloc (Nat.le_refl _) _) hb2
        go_roundw
        case rel => exact ⟨k + 1, max D v, by go_num, rfl, by omega, ⟨HD2.out.symm⟩, ⟨hBr.out.trans (hb3.mono hBr.out.size)⟩, ⟨hsr.out.below hb3⟩⟩
        case measure => simp [intOf]; omega
      · obtain rfl : k = x.l.length := by omega
        have HE := As.mk (show Lo.depth x = D + 1 by rw [HQ.out, hD.out, List.take_length])
        clear hD
        go_wp2
        go_ret
        exact ⟨by rw [HE.out]; rfl, hBr.out⟩
end Go.Proofs.YtainigjbjfpoaaaGreatDoor
