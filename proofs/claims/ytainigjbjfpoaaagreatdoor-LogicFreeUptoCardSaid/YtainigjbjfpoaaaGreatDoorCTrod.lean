/- What the form's reading of an argument says: it lies in memory as the program's structs do, and how much there is. No function of the program is met here. -/
import Derived.Test.YtainigjbjfpoaaaGreatDoorCBase
import Derived.Test.YtainigjbjfpoaaaGreatDoorRows
import Derived.ChangeArms
import Derived.DataReads
namespace Go.Proofs.YtainigjbjfpoaaaGreatDoor
open Go.RowKit

/-- a world's cells -/
def now (W : World) : Pers := fun a v => W.cell? a = some v
theorem now_sat (W : World) : Sat (now W) W := fun _ _ h => h

def maxBulk : Nat := 1048576
section
variable {H : Type} {enc : TypeId × Value → H} {W : World}
noncomputable abbrev Tr (enc : TypeId × Value → H) (W : World) (n : Nat) (t : TypeId) (cs : List Value) : Option (DataW H × List MemPlace) := DataW.trod enc Tryz.prog W 0 (fun _ => true) true n t cs

theorem bulk_pw {α : Type} (wt : α → Nat) : ∀ (xs : List α) (ds : List (DataW H)), xs.length = ds.length → (∀ (i : Nat) (x : α) (d : DataW H), xs[i]? = some x → ds[i]? = some d → wt x ≤ Rows.uptoBulk d) → (xs.map wt).sum ≤ Rows.uptoBulkAll ds
  | [], _, _, _ => Nat.zero_le _
  | x :: xs, [], h, _ => by simp at h
  | x :: xs, d :: ds, h, hp => by
    have h1 := hp 0 x d rfl rfl
    have h2 := bulk_pw wt xs ds (by simpa using h) (fun i y e hy he => hp (i + 1) y e (by simpa using hy) (by simpa using he))
    simp only [List.map_cons, List.sum_cons, Rows.uptoBulkAll]
    omega
theorem bulk_part : ∀ (ds : List (DataW H)) (i : Nat) (d : DataW H), ds[i]? = some d → Rows.uptoBulk d ≤ Rows.uptoBulkAll ds
  | [], i, d, h => by simp at h
  | e :: ds, 0, d, h => by
    simp at h
    subst h
    simp only [Rows.uptoBulkAll]
    omega
  | e :: ds, i + 1, d, h => by
    have := bulk_part ds i d (by simpa using h)
    simp only [Rows.uptoBulkAll]
    omega
theorem bulk_len : ∀ (ds : List (DataW H)), ds.length ≤ Rows.uptoBulkAll ds
  | [] => Nat.zero_le _
  | d :: ds => by
    have h := bulk_len ds
    have h1 : 1 ≤ Rows.uptoBulk d := by
      cases d with
      | lit l => cases l <;> simp [Rows.uptoBulk]
      | nil => simp [Rows.uptoBulk]
      | ptr d => simp [Rows.uptoBulk]
      | slice elems spare => simp [Rows.uptoBulk]
      | agg parts => simp [Rows.uptoBulk]
      | iface t d => simp [Rows.uptoBulk]
      | map entries => simp [Rows.uptoBulk]
      | held h => simp [Rows.uptoBulk]
    simp only [Rows.uptoBulkAll, List.length_cons]
    omega

theorem row_of_trod {α : Type} {rep : α → List Value → Prop} {wt : α → Nat} {t e : TypeId} {sz fuel : Nat} (ht : Tryz.prog.underlying t = some (.slice e)) (hsz : Tryz.prog.cellsOf e = sz) (h0 : 0 < sz)
    (hel : ∀ n cs y, n < fuel → Tr enc W n e cs = some y → Rows.uptoBulk y.1 ≤ maxBulk → ∃ x, rep x cs ∧ wt x ≤ Rows.uptoBulk y.1)
    {cs : List Value} {y : DataW H × List MemPlace} (h : Tr enc W fuel t cs = some y) (hB : Rows.uptoBulk y.1 ≤ maxBulk) :
    ∃ A xs c, cs = [.slice A xs.length c] ∧ xs.length ≤ c ∧ Row (now W) rep sz A xs ∧ (xs.map wt).sum + 1 ≤ Rows.uptoBulk y.1 := by
  rcases DataW.trod_slice ht h with ⟨rfl, rfl⟩ | ⟨a, len, cap, elems, rest, n, rfl, rfl, rfl, hb, hlc, hcm, hlen, hE, _, _⟩
  · exact ⟨none, [], 0, rfl, Nat.le_refl _, Row.nil _ _ _ _, by simp [Rows.uptoBulk]⟩
  · subst hlen
    rw [hsz] at hE
    simp only [Rows.uptoBulk] at hB
    have hq : ∀ i : Fin elems.length, ∃ p : α × List Value, rep p.1 p.2 ∧ wt p.1 ≤ Rows.uptoBulk (elems[i.1]).1 ∧ W.cells? 0 (a.add (i.1 * sz)) sz = some p.2 := fun i => by
      have hi := hE i.1 i.2
      rw [List.getElem?_eq_getElem i.2] at hi
      obtain ⟨cs, h1, h2⟩ := Option.bind_eq_some_iff.1 hi
      obtain ⟨x, hr, hw⟩ := hel n cs _ (Nat.lt_succ_self n) h2 (by
        have := bulk_part (elems.map (·.1)) i.1 (elems[i.1]).1 (by rw [List.getElem?_map, List.getElem?_eq_getElem i.2]; rfl)
        omega)
      exact ⟨⟨x, cs⟩, hr, hw, h1⟩
    obtain ⟨g, hg⟩ := Classical.axiomOfChoice hq
    refine ⟨some a, List.ofFn fun i => (g i).1, cap, by simp, by simpa using hlc, ⟨fun i => if h : i < elems.length then (g ⟨i, h⟩).2 else [], ?_, ?_, ?_⟩, ?_⟩
    · have := bulk_len (elems.map (·.1))
      simp only [List.length_ofFn, List.length_map] at this ⊢
      exact Nat.le_trans this (Nat.le_trans (by omega) (show maxBulk ≤ maxRow by decide))
    · intro i x hx
      rw [List.getElem?_ofFn] at hx
      split at hx
      · rename_i hi
        simp only [Option.some.injEq] at hx
        subst hx
        simp only [hi, dif_pos]
        exact (hg ⟨i, hi⟩).1
      · cases hx
    · intro i j v hi hj
      simp only [List.length_ofFn] at hi
      simp only [hi, dif_pos] at hj
      obtain ⟨_, hl, hc⟩ := World.cells?_some (hg ⟨i, hi⟩).2.2
      have hj2 : j < sz := by
        rw [← hl]
        exact (List.getElem?_eq_some_iff.1 hj).1
      have hc0 := hc j hj2
      rw [hj] at hc0
      -- the slice's address bears no mark
      have ha : a.spot = none := by
        obtain ⟨_, hl0, hc00⟩ := World.cells?_some (hg ⟨0, by omega⟩).2.2
        have h00 := hc00 0 h0
        simp only [Nat.zero_mul, Addr.add, if_true] at h00
        have h0l : 0 < (g ⟨0, by omega⟩).2.length := by rw [hl0]; exact h0
        rw [List.getElem?_eq_getElem h0l] at h00
        unfold World.cell? at h00
        split at h00
        · split at h00
          · cases h00
          · rename_i hs
            cases hs' : a.spot with
            | none => rfl
            | some s => rw [hs'] at hs; simp at hs
        · cases h00
      refine ⟨a.block, a.off, by cases a; simp at ha; subst ha; rfl, ?_⟩
      have he : (a.add (i * sz)).add j = ⟨a.block, a.off + i * sz + j, none⟩ := by
        cases a
        simp only at ha
        subst ha
        unfold Addr.add
        split <;> split <;> simp_all
      rw [he] at hc0
      exact hc0
    · have := bulk_pw wt (List.ofFn fun i => (g i).1) (elems.map (·.1)) (by simp) (fun i x d hx hd => by
        rw [List.getElem?_ofFn] at hx
        split at hx
        · rename_i hi
          simp only [Option.some.injEq] at hx
          subst hx
          rw [List.getElem?_map, List.getElem?_eq_getElem hi] at hd
          simp only [Option.map_some, Option.some.injEq] at hd
          subst hd
          exact (hg ⟨i, hi⟩).2.1
        · cases hx)
      simp only [Rows.uptoBulk]
      omega

theorem str_of_trod {n : Nat} {cs : List Value} {y : DataW H × List MemPlace} (h : Tr enc W n 9 cs = some y) (hB : Rows.uptoBulk y.1 ≤ maxBulk) : ∃ x, strRep x cs ∧ x.size + 1 ≤ Rows.uptoBulk y.1 := by
  obtain ⟨s, rfl, rfl, _⟩ := DataW.trod_string Tryz.underlying9 h
  simp only [Rows.uptoBulk, Array.length_toList] at hB ⊢
  exact ⟨s, ⟨rfl, Nat.le_trans (show s.size ≤ maxBulk from Nat.le_of_succ_le hB) (by decide)⟩, Nat.le_refl _⟩
theorem cells_str : Tryz.prog.cellsOf 9 = 1 := by kernel_rfl
theorem cells_ex : Tryz.prog.cellsOf 25 = 4 := by kernel_rfl
theorem strs_of_trod {n : Nat} {cs : List Value} {y : DataW H × List MemPlace} (h : Tr enc W n 22 cs = some y) (hB : Rows.uptoBulk y.1 ≤ maxBulk) :
    ∃ A xs c, cs = [.slice A xs.length c] ∧ xs.length ≤ c ∧ Strs (now W) A xs ∧ strsW xs + 1 ≤ Rows.uptoBulk y.1 :=
  row_of_trod (wt := fun s : ByteArray => s.size + 1) Tryz.underlying22 cells_str (by decide) (fun n cs y _ h hb => str_of_trod h hb) h hB

theorem wf_inI64 {k : Int} (h : (Lit.int .i64 k).wf = true) : inI64 k := by
  have h1 : IntKind.i64.min = -9223372036854775808 := by decide
  have h2 : IntKind.i64.max = 9223372036854775807 := by decide
  simp only [Lit.wf, Bool.and_eq_true, decide_eq_true_eq, h1, h2] at h
  exact h
theorem cells_int : Tryz.prog.cellsOf 3 = 1 := by kernel_rfl
theorem cells_bool : Tryz.prog.cellsOf 4 = 1 := by kernel_rfl
theorem cells_strs : Tryz.prog.cellsOf 22 = 1 := by kernel_rfl
theorem cells_exs : Tryz.prog.cellsOf 23 = 1 := by kernel_rfl
theorem cells_te : Tryz.prog.cellsOf 68 = 3 := by kernel_rfl
theorem cells_tes : Tryz.prog.cellsOf 63 = 1 := by kernel_rfl
theorem cells_ru : Tryz.prog.cellsOf 65 = 2 := by kernel_rfl
theorem cells_rus : Tryz.prog.cellsOf 26 = 1 := by kernel_rfl
theorem cells_lo : Tryz.prog.cellsOf 29 = 11 := by kernel_rfl
theorem cells_los : Tryz.prog.cellsOf 27 = 1 := by kernel_rfl
theorem list2 {α : Type} {l : List α} (h : l.length = 2) : ∃ a b, l = [a, b] := by
  match l, h with
  | [a, b], _ => exact ⟨a, b, rfl⟩
theorem list3 {α : Type} {l : List α} (h : l.length = 3) : ∃ a b c, l = [a, b, c] := by
  match l, h with
  | [a, b, c], _ => exact ⟨a, b, c, rfl⟩
theorem list4 {α : Type} {l : List α} (h : l.length = 4) : ∃ a b c d, l = [a, b, c, d] := by
  match l, h with
  | [a, b, c, d], _ => exact ⟨a, b, c, d, rfl⟩
theorem list8 {α : Type} {l : List α} (h : l.length = 8) : ∃ a b c d e f g i, l = [a, b, c, d, e, f, g, i] := by
  match l, h with
  | [a, b, c, d, e, f, g, i], _ => exact ⟨a, b, c, d, e, f, g, i, rfl⟩
theorem list11 {α : Type} {l : List α} (h : l.length = 11) : ∃ a b c d e f g i j k m, l = [a, b, c, d, e, f, g, i, j, k, m] := by
  match l, h with
  | [a, b, c, d, e, f, g, i, j, k, m], _ => exact ⟨a, b, c, d, e, f, g, i, j, k, m, rfl⟩

set_option maxRecDepth 10000 in
theorem ex_of_trod (n : Nat) : ∀ (cs : List Value) (y : DataW H × List MemPlace), Tr enc W n 25 cs = some y → Rows.uptoBulk y.1 ≤ maxBulk → ∃ x, Ex.Rep (now W) x cs ∧ x.wt ≤ Rows.uptoBulk y.1 := by
  induction n using Nat.strongRecOn with
  | _ n ih =>
    intro cs y h hB
    obtain ⟨xs, m, rfl, rfl, hl, hxl, hf⟩ := DataW.trod_struct Tryz.underlying25 h
    rw [cells_ex] at hl
    obtain ⟨c0, c1, c2, c3, rfl⟩ := list4 hl
    obtain ⟨x0, x1, x2, x3, rfl⟩ := list4 hxl
    have h0 := hf 0 _ rfl
    have h1 := hf 1 _ rfl
    have h2 := hf 2 _ rfl
    have h3 := hf 3 _ rfl
    simp only [List.getElem_toArray, List.getElem_cons_zero, List.getElem_cons_succ] at h0 h1 h2 h3
    simp only [cells_int, cells_str, cells_strs, cells_exs, List.drop_zero, List.drop_succ_cons, List.take_succ_cons, List.take_zero, List.getElem?_cons_zero, List.getElem?_cons_succ] at h0 h1 h2 h3
    simp only [List.map_cons, List.map_nil, Rows.uptoBulk, Rows.uptoBulkAll] at hB ⊢
    obtain ⟨k, e0, rfl, hk⟩ := DataW.trod_int Tryz.underlying3 h0
    obtain ⟨s, hs, hsz⟩ := str_of_trod h1 (by omega)
    obtain ⟨A2, ns, d2, e2, l2, r2, w2⟩ := strs_of_trod h2 (by omega)
    obtain ⟨A3, l, d3, e3, l3, r3, w3⟩ := row_of_trod (wt := Ex.wt) Tryz.underlying23 cells_ex (by decide) (fun j cs y hj => ih j (by omega) cs y) h3 (by omega)
    obtain ⟨e1, hz⟩ := hs
    injection e0 with e0
    injection e1 with e1
    injection e2 with e2
    injection e3 with e3
    subst e0 e1 e2 e3
    refine ⟨⟨k, s, ns, l⟩, Ex.Rep.shut ⟨k, s, ns, l⟩ l2 r2 l3 r3 hz (wf_inI64 hk), ?_⟩
    rw [Ex.wt_eq]
    show 1 + s.size + strsW ns + (l.map Ex.wt).sum ≤ _
    omega
theorem exs_of_trod {n : Nat} {cs : List Value} {y : DataW H × List MemPlace} (h : Tr enc W n 23 cs = some y) (hB : Rows.uptoBulk y.1 ≤ maxBulk) :
    ∃ A xs c, cs = [.slice A xs.length c] ∧ xs.length ≤ c ∧ Exs (now W) A xs ∧ (xs.map Ex.wt).sum + 1 ≤ Rows.uptoBulk y.1 :=
  row_of_trod (wt := Ex.wt) Tryz.underlying23 cells_ex (by decide) (fun j cs y _ => ex_of_trod j cs y) h hB
theorem te_of_trod (n : Nat) (cs : List Value) (y : DataW H × List MemPlace) (h : Tr enc W n 68 cs = some y) (hB : Rows.uptoBulk y.1 ≤ maxBulk) : ∃ x, Te.Rep (now W) x cs ∧ x.wt ≤ Rows.uptoBulk y.1 := by
  obtain ⟨xs, m, rfl, rfl, hl, hxl, hf⟩ := DataW.trod_struct Tryz.underlying68 h
  rw [cells_te] at hl
  obtain ⟨c0, c1, c2, rfl⟩ := list3 hl
  obtain ⟨x0, x1, x2, rfl⟩ := list3 hxl
  have h0 := hf 0 _ rfl
  have h1 := hf 1 _ rfl
  have h2 := hf 2 _ rfl
  simp only [List.getElem_toArray, List.getElem_cons_zero, List.getElem_cons_succ] at h0 h1 h2
  simp only [cells_bool, cells_exs, List.drop_zero, List.drop_succ_cons, List.take_succ_cons, List.take_zero, List.getElem?_cons_zero, List.getElem?_cons_succ] at h0 h1 h2
  simp only [List.map_cons, List.map_nil, Rows.uptoBulk, Rows.uptoBulkAll] at hB ⊢
  obtain ⟨u, e0, rfl⟩ := DataW.trod_bool Tryz.underlying4 h0
  obtain ⟨v, e1, rfl⟩ := DataW.trod_bool Tryz.underlying4 h1
  obtain ⟨A2, l, d2, e2, l2, r2, w2⟩ := exs_of_trod h2 (by omega)
  injection e0 with e0
  injection e1 with e1
  injection e2 with e2
  subst e0 e1 e2
  refine ⟨⟨u, v, l⟩, Te.Rep.shut ⟨u, v, l⟩ l2 r2, ?_⟩
  unfold Te.wt
  show 1 + (l.map Ex.wt).sum ≤ _
  omega
theorem ru_of_trod (n : Nat) (cs : List Value) (y : DataW H × List MemPlace) (h : Tr enc W n 65 cs = some y) (hB : Rows.uptoBulk y.1 ≤ maxBulk) : ∃ x, Ru.Rep (now W) x cs ∧ x.wt ≤ Rows.uptoBulk y.1 := by
  obtain ⟨xs, m, rfl, rfl, hl, hxl, hf⟩ := DataW.trod_struct Tryz.underlying65 h
  rw [cells_ru] at hl
  obtain ⟨c0, c1, rfl⟩ := list2 hl
  obtain ⟨x0, x1, rfl⟩ := list2 hxl
  have h0 := hf 0 _ rfl
  have h1 := hf 1 _ rfl
  simp only [List.getElem_toArray, List.getElem_cons_zero, List.getElem_cons_succ] at h0 h1
  simp only [cells_tes, cells_exs, List.drop_zero, List.drop_succ_cons, List.take_succ_cons, List.take_zero, List.getElem?_cons_zero, List.getElem?_cons_succ] at h0 h1
  simp only [List.map_cons, List.map_nil, Rows.uptoBulk, Rows.uptoBulkAll] at hB ⊢
  obtain ⟨A0, ins, d0, e0, l0, r0, w0⟩ := row_of_trod (wt := Te.wt) Tryz.underlying63 cells_te (by decide) (fun j cs y _ => te_of_trod j cs y) h0 (by omega)
  obtain ⟨A1, out, d1, e1, l1, r1, w1⟩ := exs_of_trod h1 (by omega)
  injection e0 with e0
  injection e1 with e1
  subst e0 e1
  refine ⟨⟨ins, out⟩, Ru.Rep.shut ⟨ins, out⟩ l0 r0 l1 r1, ?_⟩
  unfold Ru.wt
  show 1 + (ins.map Te.wt).sum + (out.map Ex.wt).sum ≤ _
  omega
set_option maxRecDepth 10000 in
theorem lo_of_trod (n : Nat) : ∀ (cs : List Value) (y : DataW H × List MemPlace), Tr enc W n 29 cs = some y → Rows.uptoBulk y.1 ≤ maxBulk → ∃ x, Lo.Rep (now W) x cs ∧ x.wt ≤ Rows.uptoBulk y.1 := by
  induction n using Nat.strongRecOn with
  | _ n ih =>
    intro cs y h hB
    obtain ⟨xs, m, rfl, rfl, hl, hxl, hf⟩ := DataW.trod_struct Tryz.underlying29 h
    rw [cells_lo] at hl
    obtain ⟨c0, c1, c2, c3, c4, c5, c6, c7, c8, c9, c10, rfl⟩ := list11 hl
    obtain ⟨x0, x1, x2, x3, x4, x5, x6, x7, rfl⟩ := list8 hxl
    have h0 := hf 0 _ rfl
    have h1 := hf 1 _ rfl
    have h2 := hf 2 _ rfl
    have h3 := hf 3 _ rfl
    have h4 := hf 4 _ rfl
    have h5 := hf 5 _ rfl
    have h6 := hf 6 _ rfl
    have h7 := hf 7 _ rfl
    simp only [List.getElem_toArray, List.getElem_cons_zero, List.getElem_cons_succ] at h0 h1 h2 h3 h4 h5 h6 h7
    simp only [cells_int, cells_ex, cells_str, cells_strs, cells_exs, cells_rus, cells_los, List.drop_zero, List.drop_succ_cons, List.take_succ_cons, List.take_zero, List.getElem?_cons_zero, List.getElem?_cons_succ] at h0 h1 h2 h3 h4 h5 h6 h7
    simp only [List.map_cons, List.map_nil, Rows.uptoBulk, Rows.uptoBulkAll] at hB ⊢
    obtain ⟨k, e0, rfl, hk⟩ := DataW.trod_int Tryz.underlying3 h0
    obtain ⟨e, he, we⟩ := ex_of_trod _ _ _ h1 (by omega)
    obtain ⟨E2, k2, E3, k3, ee, m2, s2, m3, s3, ez, ek⟩ := he.open
    obtain ⟨p, hs, hsz⟩ := str_of_trod h2 (by omega)
    obtain ⟨A3, inp, d3, e3, l3, r3, w3⟩ := exs_of_trod h3 (by omega)
    obtain ⟨A4, out, d4, e4, l4, r4, w4⟩ := strs_of_trod h4 (by omega)
    obtain ⟨A5, ru, d5, e5, l5, r5, w5⟩ := row_of_trod (wt := Ru.wt) Tryz.underlying26 cells_ru (by decide) (fun j cs y _ => ru_of_trod j cs y) h5 (by omega)
    obtain ⟨A6, ns, d6, e6, l6, r6, w6⟩ := strs_of_trod h6 (by omega)
    obtain ⟨A7, l, d7, e7, l7, r7, w7⟩ := row_of_trod (wt := Lo.wt) Tryz.underlying27 cells_lo (by decide) (fun j cs y hj => ih j (by omega) cs y) h7 (by omega)
    obtain ⟨e1, hz⟩ := hs
    simp only [List.cons.injEq, and_true] at e0 ee e1 e3 e4 e5 e6 e7
    obtain ⟨rfl, rfl, rfl, rfl⟩ := ee
    subst e0 e1 e3 e4 e5 e6 e7
    refine ⟨⟨k, e, p, inp, out, ru, ns, l⟩, Lo.Rep.shut ⟨k, e, p, inp, out, ru, ns, l⟩ m2 s2 m3 s3 l3 r3 l4 r4 l5 r5 l6 r6 l7 r7 ez hz (wf_inI64 hk) ek, ?_⟩
    rw [Lo.wt_eq]
    show 1 + e.wt + p.size + (inp.map Ex.wt).sum + strsW out + (ru.map Ru.wt).sum + strsW ns + (l.map Lo.wt).sum ≤ _
    omega
end
end Go.Proofs.YtainigjbjfpoaaaGreatDoor
