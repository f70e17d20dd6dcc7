/- logic.free$1: the names that an expression needs, and that aren't bound, are noted. -/
import Derived.Test.YtainigjbjfpoaaaGreatDoorCEach
import Derived.Test.YtainigjbjfpoaaaGreatDoorCFreeOf
namespace Go.Proofs.YtainigjbjfpoaaaGreatDoor
open Go.RowKit Go.Shelf Go.Maps

/-- those that aren't bound -/
def unb (bd l : List ByteArray) : List ByteArray := l.filter fun s => !has bd s
theorem StrsAt.strs {W : World} {A : Option Addr} {l : List ByteArray} (h : StrsAt W.heap.size W A l) (hl : l.length ≤ maxRow) (hz : ∀ s ∈ l, s.size ≤ maxStr) : Strs (Pers.snap (fun _ _ => False) W) A l :=
  ⟨fun i => [.string (l[i]?.getD ⟨#[]⟩)], hl, fun i x hx => ⟨by simp [hx], hz x (List.mem_of_getElem? hx)⟩, fun i j v hi hj => by
    obtain ⟨b, o, e, _, hc⟩ := h i l[i] (List.getElem?_eq_getElem hi)
    obtain ⟨rfl, rfl⟩ : j = 0 ∧ v = .string l[i] := by
      cases j with
      | zero => simp [List.getElem?_eq_getElem hi] at hj; exact ⟨rfl, hj.symm⟩
      | succ j => simp at hj
    exact ⟨b, o, e, .inr (by simpa using hc)⟩⟩
/-- slices.Contains of texts that lie there now -/
theorem containsAt (A : Option Addr) (c : Nat) (l : List ByteArray) (s : ByteArray) (w : World) (h : StrsAt w.heap.size w A l) (hl : l.length ≤ maxRow) (hz : ∀ s ∈ l, s.size ≤ maxStr) :
    Calls Tryz.prog 74 #[.slice A l.length c, .string s] w fun e w' => e = .returned (.bool (has l s)) ∧ w = w' :=
  containsStr_calls _ A c l s w (StrsAt.strs h hl hz) (Sat.snap (fun _ _ h => h.elim))
theorem unb_take {bd l : List ByteArray} {k : Nat} {s : ByteArray} (h : l[k]? = some s) : unb bd (l.take (k + 1)) = unb bd (l.take k) ++ (if has bd s then [] else [s]) := by
  unfold unb
  rw [take_one h, List.filter_append]
  cases hh : has bd s <;> simp [hh]
theorem unb_le (bd l : List ByteArray) : (unb bd l).length ≤ l.length := List.length_filter_le _ _
theorem Ex.fvs_size (x : Ex) : ∀ (ys : List Ex), (∀ y ∈ ys, ∀ bd, ∀ s ∈ Ex.fv y bd, s.size ≤ y.wt) → ∀ (i : Nat) (bd : List ByteArray), ∀ s ∈ Ex.fvs x ys i bd, s.size ≤ (ys.map Ex.wt).sum
  | [], _, i, bd, s, hs => by simp [Ex.fvs] at hs
  | y :: ys, h, i, bd, s, hs => by
    rw [Ex.fvs, List.mem_append] at hs
    rw [List.map_cons, List.sum_cons]
    rcases hs with hs | hs
    · have := h y (by simp) _ s hs
      omega
    · have := Ex.fvs_size x ys (fun z hz => h z (by simp [hz])) (i + 1) bd s hs
      omega
theorem Ex.fv_size : ∀ (n : Nat) (x : Ex) (bd : List ByteArray), x.sz ≤ n → ∀ s ∈ Ex.fv x bd, s.size ≤ x.wt
  | 0, x, bd, h => by cases x; simp [Ex.sz] at h
  | n + 1, x, bd, h => fun s hs => by
    rw [Ex.fv_eq, List.mem_append] at hs
    rw [Ex.wt_eq]
    rcases hs with hs | hs
    · split at hs
      · simp at hs; subst hs; omega
      · simp at hs
    · have := Ex.fvs_size x x.l (fun y hy bd => Ex.fv_size n y bd (by have := Ex.lt_of_mem hy; omega)) 0 bd s hs
      omega

set_option maxRecDepth 100000 in
set_option maxHeartbeats 4000000 in
theorem free1_calls (P : Pers) (B1 B2 bf : Nat) (Ab : Option Addr) (cb : Nat) (bd F : List ByteArray) (y : Ex) (cy : List Value) (W : World) (hy : Ex.Rep P y cy) (hs : Sat P W) (hwt : y.wt ≤ 1073741824) (hF : F.length + y.wt ≤ 4611686018427387904)
    (c1 : W.cell? ⟨B1, 0, none⟩ = some (.slice Ab bd.length cb)) (c2 : W.cell? ⟨B2, 0, none⟩ = some (.map (some bf))) (hbd : StrsAt W.heap.size W Ab bd) (hbl : bd.length ≤ maxRow) (hbz : ∀ s ∈ bd, s.size ≤ maxStr) (hf : FdMap W bf F) :
    Calls Tryz.prog 72 (#[.agg cy.toArray] ++ #[.pointer (some ⟨B1, 0, none⟩), .pointer (some ⟨B2, 0, none⟩)]) W fun e w' => e = .returned (.bool true) ∧ FdMap w' bf (F ++ unb bd (freeOf (Ex.fv y []))) ∧ Kept2 bf bf W w' := by
  have HC := As.mk (fun W hs => exFree_calls P y cy W hy hs (by omega))
  have hle := Nat.le_trans (freeOf_le (Ex.fv y [])) (Ex.fv_wt _ y [] (Nat.le_refl _))
  have HZ := As.mk (fun s (hs : s ∈ freeOf (Ex.fv y [])) => Nat.le_trans (Ex.fv_size _ y [] (Nat.le_refl _) s (freeOf_mem.1 hs)) hwt)
  obtain ⟨L, hL⟩ : ∃ L, As (freeOf (Ex.fv y []) = L) := ⟨_, ⟨rfl⟩⟩
  rw [hL.out] at hle HZ HC
  have hll : L.length ≤ 1073741824 := Nat.le_trans hle hwt
  have HLE := As.mk hle
  have HFL := As.mk hF
  obtain ⟨A2, c2', A3, c3, rfl, l2, r2, l3, r3, z1, zk⟩ := hy.open
  have hB0 : Below W.heap.size W (W.alloc (.cells #[.int .i64 y.k, .string y.s, .slice A2 y.ns.length c2', .slice A3 y.l.length c3] 25)) := (Below.refl _ _).alloc (Nat.le_refl _) _
  have HB0 := As.mk hB0
  have HS0 := As.mk (hs.below hB0)
  have HF0 := As.mk (hf.later hB0)
  have HC1 := As.mk c1
  have HC2 := As.mk c2
  have HBD := As.mk hbd
  have HBL := As.mk hbl
  have HBZ := As.mk hbz
  clear hy hs r2 r3 z1 zk hf hB0 c1 c2 hbd hbl hbz hle hF
  simp only [List.append_toArray, List.cons_append, List.nil_append]
  go_enter Tryz.func72, Tryz.ntmps72
  go_wp2_with (go_at_call 73; refine (HC.out _ HS0.out).mono ?_; rintro e w2 ⟨⟨AL, cL, rfl, hcL, hst⟩, hb2⟩)
  have HB2 := As.mk (Below.then HB0.out hb2)
  have HST := As.mk hst
  have HF2 := As.mk (HF0.out.later hb2)
  clear hst hb2
  go_loopw [10] (fun i wr => ∃ k : Nat, i = .int .i64 k ∧ k ≤ L.length ∧ As (Kept2 bf bf w2 wr) ∧ As (FdMap wr bf (F ++ unb bd (L.take k)))) (fun i _ => L.length - (intOf i).toNat)
  case atStart => exact ⟨0, rfl, Nat.zero_le _, ⟨Kept2.refl _ _ _⟩, ⟨by simpa [unb] using HF2.out⟩⟩
  case round =>
    obtain ⟨k, rfl, hk, hK, hFd⟩ := hrel
    by_cases hlt : k < L.length
    · obtain ⟨s, hs⟩ : ∃ s, As (L[k]? = some s) := ⟨L[k], ⟨List.getElem?_eq_getElem hlt⟩⟩
      have hKW := As.mk ((Kept2.of (b := bf) (c := bf) HB2.out).trans hK.out)
      obtain ⟨bs', os', rfl, _, hcs⟩ := (HST.out.cells hK.out.cells hK.out.size) k s hs.out
      have d1 := hKW.out.cells _ _ HC1.out
      have d2 := hKW.out.cells _ _ HC2.out
      have HCO := As.mk (containsAt Ab cb bd s wr (HBD.out.cells hKW.out.cells hKW.out.size) HBL.out HBZ.out)
      have HT := As.mk (unb_take (bd := bd) hs.out)
      have hsz := short_of (HZ.out s (List.mem_of_getElem? hs.out))
      cases hh : has bd s
      · rw [hh] at HCO HT
        obtain ⟨w4, hrun, hF4, hg4⟩ := FdMap.add hFd.out s hsz (by
          have h1 := unb_le bd (L.take k)
          have h2 : (L.take k).length ≤ L.length := List.length_take_le' _ _
          have h3 := HLE.out
          have h4 := HFL.out
          rw [List.length_append]
          omega)
        have HX := As.mk (And.intro (hK.out.trans (Kept2.left (c := bf) hFd.out hg4)) (show FdMap w4 bf (F ++ unb bd (L.take (k + 1))) by rw [HT.out, ← List.append_assoc]; exact hF4))
        clear hF4 hg4 hsz
        go_wp2_with (go_at_call 74; refine HCO.out.mono ?_; rintro e w3 ⟨rfl, rfl⟩)
        go_roundw
        case rel => exact ⟨k + 1, by go_num, by omega, ⟨HX.out.1⟩, ⟨HX.out.2⟩⟩
        case measure => simp [intOf]; omega
      · rw [hh] at HCO HT
        have HX := As.mk (show FdMap wr bf (F ++ unb bd (L.take (k + 1))) by rw [HT.out, if_pos rfl, List.append_nil]; exact hFd.out)
        clear hsz
        go_wp2_with (go_at_call 74; refine HCO.out.mono ?_; rintro e w3 ⟨rfl, rfl⟩)
        go_roundw
        case rel => exact ⟨k + 1, by go_num, by omega, hK, HX⟩
        case measure => simp [intOf]; omega
    · obtain rfl : k = L.length := by omega
      have hz := hFd.out
      rw [List.take_length] at hz
      have HZ2 := As.mk hz
      clear hz
      go_wp2
      go_ret
      exact ⟨rfl, by rw [hL.out]; exact HZ2.out, (Kept2.of HB2.out).trans hK.out⟩
end Go.Proofs.YtainigjbjfpoaaaGreatDoor
