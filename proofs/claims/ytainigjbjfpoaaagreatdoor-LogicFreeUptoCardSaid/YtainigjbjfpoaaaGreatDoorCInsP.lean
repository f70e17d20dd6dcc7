/- A logic in a context, or bound in an invocation: what of it is right, which names it needs, how deep it is. No function is walked here. -/
import Derived.Test.YtainigjbjfpoaaaGreatDoorCAlive
import Derived.Test.YtainigjbjfpoaaaGreatDoorCRhas
namespace Go.Proofs.YtainigjbjfpoaaaGreatDoor
open Go.RowKit Go.Shelf Go.Maps

def zzz : ByteArray := ⟨#[122, 122, 32, 122]⟩
def exZ : Ex := ⟨3, zzz, [], []⟩
def inA (x : Lo) : Lo := ⟨2, Ex.zero, ⟨#[]⟩, [], [], [], [zzz, ⟨#[]⟩], [x, loLit exZ]⟩
def inB (x : Lo) : Lo := ⟨3, exZ, ⟨#[]⟩, [], [], [], [⟨#[112]⟩], [x]⟩

theorem freeOf_rising (l : List ByteArray) : Rising (freeOf l) := by
  have h1 := freeOf_sorted l
  have h2 := freeOf_nodup l
  unfold Rising
  refine (h1.and h2).imp fun {a b} ⟨h, hne⟩ => ?_
  rcases Decidable.em (a.data.toList < b.data.toList) with h3 | h3
  · exact h3
  · exact absurd (ofList_inj.1 (List.le_antisymm h (List.not_lt.1 h3))) hne

theorem strsW_cons (s : ByteArray) (l : List ByteArray) : strsW (s :: l) = s.size + 1 + strsW l := rfl
theorem strsW_append (a b : List ByteArray) : strsW (a ++ b) = strsW a + strsW b := by simp [strsW]
theorem strsW_perm {a b : List ByteArray} (h : a.Perm b) : strsW a = strsW b := (h.map _).sum_nat
theorem strsW_sub {a b : List ByteArray} (h : a.Sublist b) : strsW a ≤ strsW b := by
  induction h with
  | slnil => exact Nat.le_refl _
  | cons x h ih => rw [strsW_cons]; omega
  | cons_cons x h ih => rw [strsW_cons, strsW_cons]; omega
theorem nub_sub (l : List ByteArray) : (nub l).Sublist l := by
  induction l with
  | nil => exact .slnil
  | cons s l ih =>
    unfold nub
    split
    · exact ih.cons s
    · exact ih.cons_cons s
theorem freeOf_perm (l : List ByteArray) : (freeOf l).Perm (nub l) := by
  unfold freeOf
  have h : ((lists (nub l)).mergeSort leB).Perm (lists (nub l)) := List.mergeSort_perm _ _
  have h2 : texts (lists (nub l)) = nub l := by simp [texts, lists, Function.comp_def]
  have h3 : (texts ((lists (nub l)).mergeSort leB)).Perm (texts (lists (nub l))) := h.map _
  rw [h2] at h3
  exact h3
theorem freeOf_strsW (l : List ByteArray) : strsW (freeOf l) ≤ strsW l := by
  rw [strsW_perm (freeOf_perm l)]
  exact strsW_sub (nub_sub l)
theorem Ex.fvs_strsW (x : Ex) : ∀ (ys : List Ex), (∀ y ∈ ys, ∀ bd, strsW (Ex.fv y bd) ≤ y.wt) → ∀ (i : Nat) (bd : List ByteArray), strsW (Ex.fvs x ys i bd) ≤ (ys.map Ex.wt).sum
  | [], _, i, bd => by simp [Ex.fvs, strsW]
  | y :: ys, h, i, bd => by
    rw [Ex.fvs, strsW_append, List.map_cons, List.sum_cons]
    have h1 := h y (by simp) (gv x i ++ bd)
    have h2 := Ex.fvs_strsW x ys (fun z hz => h z (by simp [hz])) (i + 1) bd
    omega
theorem Ex.fv_strsW : ∀ (n : Nat) (x : Ex) (bd : List ByteArray), x.sz ≤ n → strsW (Ex.fv x bd) ≤ x.wt
  | 0, x, bd, h => by cases x; simp [Ex.sz] at h
  | n + 1, x, bd, h => by
    have h2 := Ex.fvs_strsW x x.l (fun y hy bd => Ex.fv_strsW n y bd (by have := Ex.lt_of_mem hy; omega)) 0 bd
    rw [Ex.fv_eq, strsW_append, Ex.wt_eq]
    split
    · simp only [strsW_cons]; have : strsW [] = 0 := rfl; omega
    · have : strsW [] = 0 := rfl; omega
theorem need_strsW (bd : List ByteArray) (y : Ex) : strsW (need bd y) ≤ y.wt :=
  Nat.le_trans (strsW_sub List.filter_sublist) (Nat.le_trans (freeOf_strsW _) (Ex.fv_strsW _ y [] (Nat.le_refl _)))
theorem flatMap_need_strsW (bd : List ByteArray) : ∀ l : List Ex, strsW (l.flatMap (need bd)) ≤ (l.map Ex.wt).sum
  | [] => Nat.le_refl _
  | y :: l => by
    have h1 := need_strsW bd y
    have h2 := flatMap_need_strsW bd l
    rw [List.flatMap_cons, strsW_append, List.map_cons, List.sum_cons]
    omega
theorem Lo.fvs_strsW (x : Lo) : ∀ (ys : List Lo), (∀ y ∈ ys, ∀ bd, strsW (Lo.fv y bd) ≤ y.wt) → ∀ (i : Nat) (bd : List ByteArray), strsW (Lo.fvs x ys i bd) ≤ (ys.map Lo.wt).sum
  | [], _, i, bd => by simp [Lo.fvs, strsW]
  | y :: ys, h, i, bd => by
    rw [Lo.fvs, strsW_append, List.map_cons, List.sum_cons]
    have h1 := h y (by simp) (bdAt x i bd)
    have h2 := Lo.fvs_strsW x ys (fun z hz => h z (by simp [hz])) (i + 1) bd
    omega
theorem Lo.fv_strsW : ∀ (n : Nat) (x : Lo) (bd : List ByteArray), x.sz ≤ n → strsW (Lo.fv x bd) ≤ x.wt
  | 0, x, bd, h => by cases x; simp [Lo.sz] at h
  | n + 1, x, bd, h => by
    have h2 := Lo.fvs_strsW x x.l (fun y hy bd => Lo.fv_strsW n y bd (by have := Lo.lt_of_mem hy; omega)) 0 bd
    have h3 := flatMap_need_strsW bd x.parts
    have h4 := x.parts_wt
    rw [Lo.fv_eq, strsW_append]
    omega
theorem strsW_mem {l : List ByteArray} {s : ByteArray} (h : s ∈ l) : s.size + 1 ≤ strsW l := le_sum_of_mem (fun s : ByteArray => s.size + 1) h
/-- of texts of which none stands twice there are few -/
theorem strsW_nodup : ∀ {l : List ByteArray}, l.Nodup → 2 * l.length ≤ strsW l + 1
  | [], _ => by simp
  | s :: l, h => by
    obtain ⟨h1, h2⟩ := List.nodup_cons.1 h
    have ih := strsW_nodup h2
    rw [strsW_cons, List.length_cons]
    by_cases h0 : s.size = 0
    · have hn : 2 * l.length ≤ strsW l := by
        clear ih h
        induction l with
        | nil => simp
        | cons t l ih =>
          have ht : t.size ≠ 0 := fun ht => h1 (by
            have : s = t := by
              obtain ⟨⟨a⟩⟩ := s
              obtain ⟨⟨b⟩⟩ := t
              have ha : a = [] := List.eq_nil_of_length_eq_zero h0
              have hb : b = [] := List.eq_nil_of_length_eq_zero ht
              rw [ha, hb]
            simp [this])
          have := ih (fun hm => h1 (by simp [hm])) (List.nodup_cons.1 h2).2
          rw [strsW_cons, List.length_cons]
          omega
      omega
    · omega
theorem freeOf_few (x : Lo) (hw : x.wt ≤ 5000) : (freeOf (Lo.fv x [])).length ≤ 2500 ∧ ∀ s ∈ freeOf (Lo.fv x []), s.size ≤ 5000 := by
  have h1 := Lo.fv_strsW _ x [] (Nat.le_refl _)
  have h2 := freeOf_strsW (Lo.fv x [])
  have h3 := strsW_nodup (freeOf_nodup (Lo.fv x []))
  refine ⟨by omega, fun s hs => ?_⟩
  have := strsW_mem hs
  omega

/-! ### the names that they need -/
theorem exZ_fv : Ex.fv exZ [] = [zzz] := by kernel_rfl
theorem need_exZ (bd : List ByteArray) (s : ByteArray) : s ∈ need bd exZ ↔ s = zzz ∧ s ∉ bd := by rw [need_mem, exZ_fv]; simp
theorem lit_fv (bd : List ByteArray) (s : ByteArray) : s ∈ Lo.fv (loLit exZ) bd ↔ s = zzz ∧ s ∉ bd := by
  rw [Lo.fv_eq]
  have h1 : (loLit exZ).parts = [exZ] := by kernel_rfl
  have h2 : (loLit exZ).l = [] := rfl
  rw [h1, h2, Lo.fvs]
  simp only [List.flatMap_cons, List.flatMap_nil, List.append_nil]
  exact need_exZ bd s
theorem inA_fv (x : Lo) (s : ByteArray) : s ∈ Lo.fv (inA x) [] ↔ s ∈ Lo.fv x [] := by
  rw [Lo.fv_eq]
  have h1 : (inA x).parts = [] := rfl
  have h2 : (inA x).l = [x, loLit exZ] := rfl
  have h3 : bdAt (inA x) 0 [] = [] := rfl
  have h4 : bdAt (inA x) 1 [] = [zzz] := rfl
  rw [h1, h2, Lo.fvs, Lo.fvs, Lo.fvs, h3, h4]
  simp only [List.flatMap_nil, List.nil_append, List.append_nil, List.mem_append, lit_fv]
  simp
theorem inB_fv (x : Lo) (s : ByteArray) : s ∈ Lo.fv (inB x) [] ↔ s ∈ Lo.fv x [] ∨ s = zzz := by
  rw [Lo.fv_eq]
  have h1 : (inB x).parts = [exZ] := rfl
  have h2 : (inB x).l = [x] := rfl
  have h3 : bdAt (inB x) 0 [] = [] := rfl
  rw [h1, h2, Lo.fvs, Lo.fvs, h3]
  simp only [List.flatMap_cons, List.flatMap_nil, List.append_nil, List.mem_append, need_exZ]
  simp
  exact Or.comm
theorem inA_free (x : Lo) : freeOf (Lo.fv (inA x) []) = freeOf (Lo.fv x []) := freeOf_ext (inA_fv x)
theorem inB_free (x : Lo) : freeOf (Lo.fv (inB x) []) = addAll (freeOf (Lo.fv x [])) [zzz] :=
  (freeOf_rising _).ext (addAll_rising (freeOf_rising _)) fun s => by rw [freeOf_mem, inB_fv, addAll_mem, freeOf_mem]; simp

/-! ### how deep they are -/
theorem loDeeper_iff : ∀ (n : Nat) (x : Lo), loDeeper n x = decide (n < x.depth)
  | 0, x => by
    have : 0 < x.depth := by cases x; rw [Lo.depth]; omega
    rw [loDeeper, decide_eq_true this]
  | n + 1, x => by
    rw [loDeeper]
    have h : ∀ l : List Lo, (l.any fun y => loDeeper n y) = decide (n < Lo.depths l) := by
      intro l
      induction l with
      | nil => simp [Lo.depths]
      | cons y l ih =>
        rw [List.any_cons, ih, loDeeper_iff n y, Lo.depths, Bool.eq_iff_iff]
        simp only [Bool.or_eq_true, decide_eq_true_eq]
        omega
    refine (h x.l).trans ?_
    obtain ⟨k, e, pol, inp, out, ru, ns, l⟩ := x
    rw [Lo.depth, Bool.eq_iff_iff]
    simp only [decide_eq_true_eq]
    omega
theorem inA_depth (x : Lo) : (inA x).depth = x.depth + 1 := by
  have h1 : (loLit exZ).depth = 1 := by kernel_rfl
  have h0 : 0 < x.depth := by cases x; rw [Lo.depth]; omega
  rw [inA, Lo.depth, Lo.depths, Lo.depths, Lo.depths, h1]
  omega
theorem inB_depth (x : Lo) : (inB x).depth = x.depth + 1 := by
  rw [inB, Lo.depth, Lo.depths, Lo.depths]
  omega

/-! ### whether they are right -/
theorem right_z : right zzz = true := by kernel_rfl
theorem right_p : right ⟨#[112]⟩ = true := by kernel_rfl
theorem twice_one (s : ByteArray) : twice [s] = false := by simp [twice, srtc, srt, lists, texts, Lib.compact, Lib.compactUpTo, Lib.keeps]
theorem twice_nil : twice [] = false := by simp [twice]
theorem nameErr_one {s : ByteArray} (h : right s = true) : nameErr [s] = 0 := by simp [nameErr, bad, h, twice_one]
theorem nameErr_nil : nameErr [] = 0 := by simp [nameErr, bad, twice_nil]
theorem exZ_right : expErr exZ = 0 := by kernel_rfl
theorem loOwn_lit : loOwn (loLit exZ) = 0 := by
  have h1 : form (loLit exZ) = true := by kernel_rfl
  have h2 : given (loLit exZ) = [] := by kernel_rfl
  have h3 : headErr (loLit exZ).k (loLit exZ).e = 0 := by kernel_rfl
  rw [loOwn, if_neg (by decide), h1, if_neg (by decide), h2, fiveErr, h3, show (loLit exZ).out = [] from rfl, nameErr_nil]
  rfl
theorem lit_right : Lo.err (loLit exZ) = 0 := by
  rw [Lo.err_eq, loOwn_lit]
  rfl
theorem loOwn_A (x : Lo) : loOwn (inA x) = 0 := by
  have h1 : form (inA x) = true := by kernel_rfl
  have h2 : given (inA x) = [zzz] := by kernel_rfl
  have h3 : headErr (inA x).k (inA x).e = 0 := by kernel_rfl
  rw [loOwn, if_neg (show ¬((inA x).k < 0 ∨ 3 < (inA x).k) from (by decide : ¬((2 : Int) < 0 ∨ 3 < (2 : Int)))), h1, if_neg (by decide), h2, fiveErr, h3, show (inA x).out = [] from rfl, nameErr_nil, nameErr_one right_z]
  rfl
theorem loOwn_B (x : Lo) : loOwn (inB x) = 0 := by
  have h1 : form (inB x) = true := by kernel_rfl
  have h2 : given (inB x) = [⟨#[112]⟩] := by kernel_rfl
  have h3 : headErr (inB x).k (inB x).e = 0 := by kernel_rfl
  rw [loOwn, if_neg (show ¬((inB x).k < 0 ∨ 3 < (inB x).k) from (by decide : ¬((3 : Int) < 0 ∨ 3 < (3 : Int)))), h1, if_neg (by decide), h2, fiveErr, h3, show (inB x).out = [] from rfl, nameErr_nil, nameErr_one right_p]
  rfl
theorem loErr_zero {x : Lo} (h : loErr x = 0) : x.depth ≤ 30 ∧ Lo.err x = 0 := by
  unfold loErr at h
  rw [loDeeper_iff] at h
  by_cases hd : 30 < x.depth
  · rw [decide_eq_true hd] at h; cases h
  · rw [decide_eq_false hd] at h
    exact ⟨by omega, h⟩
theorem inA_err {x : Lo} (h : loErr x = 0) : loErr (inA x) = if x.depth = 30 then 9 else 0 := by
  obtain ⟨h1, h2⟩ := loErr_zero h
  have h3 : Lo.err (inA x) = 0 := by
    rw [Lo.err_eq, loOwn_A, if_pos rfl, show (inA x).l = [x, loLit exZ] from rfl, Lo.errs, h2, if_pos rfl, Lo.errs, lit_right, if_pos rfl, Lo.errs]
  rw [loErr, loDeeper_iff, inA_depth, h3]
  by_cases hd : x.depth = 30
  · rw [if_pos hd, decide_eq_true (by omega)]; rfl
  · rw [if_neg hd, decide_eq_false (by omega)]; rfl
theorem inB_err {x : Lo} (h : loErr x = 0) : loErr (inB x) = if x.depth = 30 then 9 else 0 := by
  obtain ⟨h1, h2⟩ := loErr_zero h
  have h3 : Lo.err (inB x) = 0 := by
    rw [Lo.err_eq, loOwn_B, if_pos rfl, show (inB x).l = [x] from rfl, Lo.errs, h2, if_pos rfl, Lo.errs]
  rw [loErr, loDeeper_iff, inB_depth, h3]
  by_cases hd : x.depth = 30
  · rw [if_pos hd, decide_eq_true (by omega)]; rfl
  · rw [if_neg hd, decide_eq_false (by omega)]; rfl
theorem exZ_wt : exZ.wt = 5 := by kernel_rfl
theorem inA_wt (x : Lo) : (inA x).wt ≤ x.wt + 1000 := by
  have h1 : (loLit exZ).wt ≤ 100 := Nat.le_of_ble_eq_true (by kernel_rfl)
  have h2 : Ex.zero.wt ≤ 100 := Nat.le_of_ble_eq_true (by kernel_rfl)
  have h3 : strsW [zzz, ⟨#[]⟩] ≤ 100 := Nat.le_of_ble_eq_true (by kernel_rfl)
  have h4 : strsW [] = 0 := rfl
  rw [Lo.wt_eq, inA]
  simp only [List.map_cons, List.map_nil, List.sum_cons, List.sum_nil]
  have h5 : (⟨#[]⟩ : ByteArray).size = 0 := rfl
  omega
theorem inB_wt (x : Lo) : (inB x).wt ≤ x.wt + 1000 := by
  have h1 := exZ_wt
  have h3 : strsW [⟨#[112]⟩] ≤ 100 := Nat.le_of_ble_eq_true (by kernel_rfl)
  have h4 : strsW [] = 0 := rfl
  rw [Lo.wt_eq, inB]
  simp only [List.map_cons, List.map_nil, List.sum_cons, List.sum_nil]
  have h5 : (⟨#[]⟩ : ByteArray).size = 0 := rfl
  omega
end Go.Proofs.YtainigjbjfpoaaaGreatDoor
