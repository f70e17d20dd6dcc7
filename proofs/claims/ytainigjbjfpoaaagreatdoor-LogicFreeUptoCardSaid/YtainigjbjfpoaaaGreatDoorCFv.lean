/- Which names an expression and a logic need: by definition. How often names are bound, as a map tells it. No function of the program is met here. -/
/- expr.given: the names that an expression gives to its part. -/
import Derived.Test.YtainigjbjfpoaaaGreatDoorCSame
import Derived.Test.YtainigjbjfpoaaaGreatDoorCBase
import Derived.Test.YtainigjbjfpoaaaGreatDoorCKey
import Derived.Sort.KeysCollected
namespace Go.Proofs.YtainigjbjfpoaaaGreatDoor
open Go.RowKit Go.Shelf Go.Maps

def itemName : ByteArray := ⟨#[105, 116, 101, 109]⟩
/-- the names that an expression gives to its part i -/
def gv (x : Ex) (i : Nat) : List ByteArray :=
  if x.k == 15 then x.ns else if x.k == 17 then x.ns.take i else if i == 1 then
    (if x.k == 9 then [itemName] else if x.k == 12 || x.k == 13 || x.k == 14 then [x.s] else []) else []
theorem gv_eq (x : Ex) (i : Nat) : gv x i = if x.k == 15 then x.ns else if x.k == 17 then x.ns.take i else if i == 1 then
    (if x.k == 9 then [itemName] else if x.k == 12 || x.k == 13 || x.k == 14 then [x.s] else []) else [] := rfl
mutual
/-- the names that are free in an expression, some being bound -/
def Ex.fv : Ex → List ByteArray → List ByteArray
  | ⟨k, s, ns, l⟩, bd => (if k == 3 && !(has bd s) then [s] else []) ++ Ex.fvs ⟨k, s, ns, []⟩ l 0 bd
def Ex.fvs (x : Ex) : List Ex → Nat → List ByteArray → List ByteArray
  | [], _, _ => []
  | y :: ys, i, bd => Ex.fv y (gv x i ++ bd) ++ Ex.fvs x ys (i + 1) bd
end
theorem gv_l (x : Ex) (l : List Ex) (i : Nat) : gv ⟨x.k, x.s, x.ns, l⟩ i = gv x i := rfl
theorem Ex.fvs_l (x : Ex) (l : List Ex) : ∀ (ys : List Ex) (i : Nat) (bd : List ByteArray), Ex.fvs ⟨x.k, x.s, x.ns, l⟩ ys i bd = Ex.fvs x ys i bd
  | [], i, bd => by simp only [Ex.fvs]
  | y :: ys, i, bd => by simp only [Ex.fvs, Ex.fvs_l x l ys]; rfl
theorem Ex.fv_eq (x : Ex) (bd : List ByteArray) : Ex.fv x bd = (if x.k == 3 && !(has bd x.s) then [x.s] else []) ++ Ex.fvs x x.l 0 bd := by
  obtain ⟨k, s, ns, l⟩ := x
  rw [Ex.fv]
  exact congrArg _ (Ex.fvs_l ⟨k, s, ns, l⟩ [] l 0 bd)

theorem gv_le (x : Ex) (i : Nat) : (gv x i).length ≤ 1 + strsW x.ns := by
  have := len_le_strsW x.ns
  unfold gv
  split
  · omega
  · split
    · have : (x.ns.take i).length ≤ x.ns.length := List.length_take_le' _ _
      omega
    · split
      · split
        · simp
        · split <;> simp
      · simp
theorem gv_wt {x y : Ex} (i : Nat) (h : y ∈ x.l) : (gv x i).length + y.wt ≤ x.wt := by
  have h1 := gv_le x i
  have h2 := le_sum_of_mem Ex.wt h
  rw [Ex.wt_eq x]
  omega
theorem Ex.fvs_wt (x : Ex) : ∀ (ys : List Ex), (∀ y ∈ ys, ∀ bd, (Ex.fv y bd).length ≤ y.wt) → ∀ (i : Nat) (bd : List ByteArray), (Ex.fvs x ys i bd).length ≤ (ys.map Ex.wt).sum
  | [], _, i, bd => by simp [Ex.fvs]
  | y :: ys, h, i, bd => by
    rw [Ex.fvs, List.length_append, List.map_cons, List.sum_cons]
    have h1 := h y (by simp) (gv x i ++ bd)
    have h2 := Ex.fvs_wt x ys (fun z hz => h z (by simp [hz])) (i + 1) bd
    omega
theorem Ex.fv_wt : ∀ (n : Nat) (x : Ex) (bd : List ByteArray), x.sz ≤ n → (Ex.fv x bd).length ≤ x.wt
  | 0, x, bd, h => by cases x; simp [Ex.sz] at h
  | n + 1, x, bd, h => by
    have h2 := Ex.fvs_wt x x.l (fun y hy bd => Ex.fv_wt n y bd (by have := Ex.lt_of_mem hy; omega)) 0 bd
    rw [Ex.fv_eq, List.length_append, Ex.wt_eq]
    split
    · simp only [List.length_singleton]; omega
    · simp only [List.length_nil]; omega

/-- how often a name is bound -/
def cnt (bd : List ByteArray) (s : ByteArray) : Nat := bd.countP fun y => decide (y = s)
theorem cnt_pos {bd : List ByteArray} {s : ByteArray} : 0 < cnt bd s ↔ s ∈ bd := by
  unfold cnt
  rw [List.countP_pos_iff]
  simp
theorem cnt_zero {bd : List ByteArray} {s : ByteArray} (h : has bd s = false) : cnt bd s = 0 := by
  have h1 : ¬ s ∈ bd := fun h' => by rw [has_iff.2 h'] at h; cases h
  rw [← cnt_pos] at h1
  omega
theorem cnt_self (bd : List ByteArray) (s : ByteArray) : cnt (s :: bd) s = cnt bd s + 1 := by simp [cnt]
theorem cnt_other (bd : List ByteArray) {s t : ByteArray} (h : ¬ t = s) : cnt (s :: bd) t = cnt bd t := by
  have : ¬ s = t := fun e => h e.symm
  simp [cnt, this]
theorem cnt_le (bd : List ByteArray) (s : ByteArray) : cnt bd s ≤ bd.length := List.countP_le_length
theorem has_cons_other (bd : List ByteArray) {s t : ByteArray} (h : ¬ t = s) : has (s :: bd) t = has bd t := by
  rw [Bool.eq_iff_iff, has_iff, has_iff, List.mem_cons]
  simp [h]
theorem has_cons_self (bd : List ByteArray) (s : ByteArray) : has (s :: bd) s = true := has_iff.2 (by simp)
def cntf (bd : List ByteArray) (s : ByteArray) : Option Int := if has bd s then some (cnt bd s : Int) else none
theorem cntf_get (bd : List ByteArray) (s : ByteArray) : (cntf bd s).getD 0 = (cnt bd s : Int) := by
  unfold cntf
  cases h : has bd s
  · rw [cnt_zero h]; rfl
  · rfl
theorem count_zero {bd : List ByteArray} {s : ByteArray} : ((cnt bd s : Int) == 0) = !(has bd s) := by
  cases h : has bd s
  · rw [cnt_zero h]; rfl
  · have h1 := cnt_pos.2 (has_iff.1 h)
    have : (cnt bd s : Int) ≠ 0 := by omega
    simpa using this
theorem cntf_up (bd : List ByteArray) (s : ByteArray) : (fun t => if t = s then some ((cnt bd s : Int) + 1) else cntf bd t) = cntf (s :: bd) := by
  funext t
  unfold cntf
  by_cases e : t = s
  · subst e
    rw [if_pos rfl, if_pos (has_cons_self bd t), cnt_self]; rfl
  · rw [if_neg e, has_cons_other bd e, cnt_other bd e]
theorem cntf_perm {a b : List ByteArray} (h : a.Perm b) : cntf a = cntf b := by
  funext t
  unfold cntf
  have h1 : has a t = has b t := by rw [Bool.eq_iff_iff, has_iff, has_iff]; exact h.mem_iff
  have h2 : cnt a t = cnt b t := h.countP_eq _
  rw [h1, h2]
/-- after one less: the name is gone -/
theorem cntf_down (bd : List ByteArray) (s : ByteArray) (h : has bd s = false) : (fun t => if t = s then none else (fun t => if t = s then some ((cnt (s :: bd) s : Int) - 1) else cntf (s :: bd) t) t) = cntf bd := by
  funext t
  by_cases e : t = s
  · subst e
    simp [cntf, h]
  · simp only [e, if_false, cntf, has_cons_other bd e, cnt_other bd e]
/-- after one less: it's there still -/
theorem cntf_less (bd : List ByteArray) (s : ByteArray) (h : has bd s = true) : (fun t => if t = s then some ((cnt (s :: bd) s : Int) - 1) else cntf (s :: bd) t) = cntf bd := by
  funext t
  by_cases e : t = s
  · subst e
    simp only [if_true, cntf, h]
    refine congrArg some ?_
    rw [cnt_self]
    omega
  · simp only [e, if_false, cntf, has_cons_other bd e, cnt_other bd e]

/-- the names found, and some more -/
def fnd (l : List ByteArray) (f : ByteArray → Option Bool) (t : ByteArray) : Option Bool := if has l t then some true else f t
theorem fnd_nil (f : ByteArray → Option Bool) : fnd [] f = f := by funext t; simp [fnd, has]
theorem fnd_one (s : ByteArray) (f : ByteArray → Option Bool) : (fun t => if t = s then some true else f t) = fnd [s] f := by
  funext t
  have : has [s] t = decide (t = s) := by rw [Bool.eq_iff_iff, has_iff]; simp
  unfold fnd
  rw [this]
  simp
theorem fnd_app (a b : List ByteArray) (f : ByteArray → Option Bool) : fnd b (fnd a f) = fnd (a ++ b) f := by
  funext t
  have : has (a ++ b) t = (has a t || has b t) := by rw [Bool.eq_iff_iff, Bool.or_eq_true, has_iff, has_iff, has_iff, List.mem_append]
  unfold fnd
  rw [this]
  cases has a t <;> cases has b t <;> rfl

/-! ### a map holds no more entries than there are texts that it may know -/
theorem nodup_le {α : Type} [DecidableEq α] : ∀ (xs l : List α), xs.Nodup → (∀ x ∈ xs, x ∈ l) → xs.length ≤ l.length
  | [], _, _, _ => Nat.zero_le _
  | x :: xs, l, hn, hl => by
    obtain ⟨h1, h2⟩ := List.nodup_cons.1 hn
    have hx : x ∈ l := hl x (by simp)
    have := nodup_le xs (l.erase x) h2 (fun y hy => (List.mem_erase_of_ne (fun e : y = x => h1 (e ▸ hy))).2 (hl y (by simp [hy])))
    rw [List.length_erase_of_mem hx] at this
    have := List.length_pos_of_mem hx
    simp
    omega
theorem ownsMap_trim {H : Type} {P : Program} {k : TypeId} {R : Value → Option (DataW H × List MemPlace)} {w : World} {b n : Nat} {D : DataW H} (h : w.ownsMap P k R b n D) : w.ownsMap P k R b (Maps.size D) D := by
  obtain ⟨es, clock, hb, F, hs, rfl⟩ := h
  exact ⟨es, clock, hb, F, by simp only [Maps.size]; rw [length_read]; exact Nat.le_refl _, rfl⟩
theorem MapOf.trim {E : Elm} {W : World} {b n : Nat} {f : ByteArray → Option E.α} (h : MapOf E W b n f) (l : List ByteArray) (hl : ∀ s, f s ≠ none → s ∈ l) : MapOf E W b l.length f := by
  obtain ⟨D, h, hf⟩ := h
  refine ⟨D, (ownsMap_trim h).mono ?_, hf⟩
  obtain ⟨es, rfl, hpw, _⟩ := h.entries strKeyed
  obtain ⟨es', hD', hko⟩ := h.keysOf
  obtain rfl : es = es' := by simpa using hD'
  have hstr : ∀ p ∈ es, ∃ x, p.1 = .string x := fun p hp => by
    obtain ⟨v, hv⟩ := hko p hp
    obtain ⟨x, _, hx, _⟩ := Maps.keyOf_str Tryz.underlying9 hv
    exact ⟨x, hx⟩
  have := nodup_le (es.map fun p => (⟨(strOf p.1).toArray⟩ : ByteArray)) l (by
    refine List.pairwise_map.2 (hpw.imp_of_mem fun {p q} hp hq hne e => hne ?_)
    obtain ⟨a, ha⟩ := hstr p hp
    obtain ⟨c, hc⟩ := hstr q hq
    rw [ha, hc] at e ⊢
    simp [strOf, ByteArray.ext_iff, Array.ext_iff] at e
    exact congrArg _ (by apply List.ext_getElem e.1; intro i h1 h2; exact e.2 i h1 h2)) (by
    intro s hs
    obtain ⟨p, hp, rfl⟩ := List.mem_map.1 hs
    obtain ⟨a, ha⟩ := hstr p hp
    refine hl _ fun hn => ?_
    have h1 : Maps.has (DataW.map es) (.string a) = false := Maps.has_false_of_atKey (fun d => by
      have := hf ⟨(strOf p.1).toArray⟩ d
      rw [hn] at this
      rw [ha] at this
      simpa [keyLit, strOf] using this)
    have h2 : Maps.has (DataW.map es) (.string a) = true := by
      rw [has_eq, List.any_eq_true]
      exact ⟨p, hp, by rw [ha]; simp [Lit.sameKey]⟩
    rw [h1] at h2
    cases h2)
  simpa [Maps.size] using this
/-- the map of how often each is bound -/
abbrev BdMap (W : World) (b : Nat) (bd : List ByteArray) : Prop := MapOf Io W b bd.length (cntf bd)
/-- the map of those that were found -/
abbrev FdMap (W : World) (b : Nat) (l : List ByteArray) : Prop := MapOf Bo W b l.length (fnd l fun _ => none)
theorem cntf_mem {bd : List ByteArray} {s : ByteArray} (h : cntf bd s ≠ none) : s ∈ bd := by
  unfold cntf at h
  by_cases h' : has bd s = true
  · exact has_iff.1 h'
  · rw [if_neg h'] at h; exact absurd rfl h
theorem fnd_mem {l : List ByteArray} {s : ByteArray} (h : fnd l (fun _ => none) s ≠ none) : s ∈ l := by
  unfold fnd at h
  by_cases h' : has l s = true
  · exact has_iff.1 h'
  · rw [if_neg h'] at h; exact absurd rfl h
end Go.Proofs.YtainigjbjfpoaaaGreatDoor

namespace Go.Proofs.YtainigjbjfpoaaaGreatDoor
open Go.RowKit Go.Shelf Go.Maps

theorem StrsAt.mono {n n' : Nat} {W : World} {A : Option Addr} {zs : List ByteArray} (h : StrsAt n W A zs) (hn : n ≤ n') : StrsAt n' W A zs := fun j x hj =>
  let ⟨b, o, e, hb, hc⟩ := h j x hj
  ⟨b, o, e, Nat.lt_of_lt_of_le hb hn, hc⟩
theorem StrsAt.later {P : Pers} {w w' : World} {A : Option Addr} {zs : List ByteArray} (h : Strs P A zs) (hs : Sat P w) (hb : Below w.heap.size w w') : StrsAt w'.heap.size w' A zs :=
  ((StrsAt.of h hs).below hb).mono hb.size
theorem StrsAt.nil (n : Nat) (W : World) (A : Option Addr) : StrsAt n W A [] := fun j x h => by simp at h
theorem StrsAt.one (W : World) (s : ByteArray) (t : TypeId) : StrsAt (W.alloc (.cells #[.string s] t)).heap.size (W.alloc (.cells #[.string s] t)) (some ⟨W.heap.size, 0, none⟩) [s] := fun j x h => by
  obtain ⟨rfl, rfl⟩ : j = 0 ∧ s = x := by
    cases j with
    | zero => simpa using h
    | succ j => simp at h
  exact ⟨_, _, rfl, by simp, World.cell?_alloc_mark ..⟩
theorem StrsAt.one' {n : Nat} (W : World) (hn : W.heap.size = n) (s : ByteArray) (t : TypeId) : StrsAt (W.alloc (.cells #[.string s] t)).heap.size (W.alloc (.cells #[.string s] t)) (some ⟨n, 0, none⟩) [s] := hn ▸ StrsAt.one W s t
theorem StrsAt.take {n : Nat} {W : World} {A : Option Addr} {zs : List ByteArray} (h : StrsAt n W A zs) (k : Nat) : StrsAt n W A (zs.take k) := fun j x hj => h j x (by
  rw [List.getElem?_take] at hj
  split at hj
  · exact hj
  · cases hj)
theorem int_bne_one (k : Nat) : ((k : Int) != 1) = !(k == 1) := by
  rw [bne]
  refine congrArg (!·) ?_
  rw [Bool.eq_iff_iff, beq_iff_eq, beq_iff_eq]
  omega

set_option maxRecDepth 100000 in
set_option maxHeartbeats 1000000 in
theorem given_calls (P : Pers) (x : Ex) (cs : List Value) (i : Nat) (w : World) (_hi : i ≤ 4611686018427387904) (hx : Ex.Rep P x cs) (hs : Sat P w) :
    Calls Tryz.prog 84 #[.agg cs.toArray, .int .i64 i] w fun e w' => (∃ A c, e = .returned (.slice A (gv x i).length c) ∧ (gv x i).length ≤ c ∧ StrsAt w'.heap.size w' A (gv x i)) ∧ Below w.heap.size w w' := by
  obtain ⟨A2, c2, A3, c3, rfl, l2, r2, l3, r3, z1, zk⟩ := hx.open
  have hB0 : Below w.heap.size w (w.alloc (.cells #[.int .i64 x.k, .string x.s, .slice A2 x.ns.length c2, .slice A3 x.l.length c3] 25)) := (Below.refl _ _).alloc (Nat.le_refl _) _
  have HB := As.mk hB0
  have HR := As.mk (StrsAt.later r2 hs hB0)
  have hlen := r2.len
  have HG := As.mk (gv_eq x i)
  clear hB0 hx hs r2 r3
  cases h15 : (x.k == 15)
  · cases h17 : (x.k == 17)
    · have hi1 := int_bne_one i
      cases h1 : (i == 1)
      · rw [h15, h17, h1] at HG
        replace HG := As.mk (show gv x i = [] from HG.out)
        rw [h1] at hi1
        simp only [Bool.not_false] at hi1
        go_enter Tryz.func84, Tryz.ntmps84
        go_wp2
        go_ret
        exact ⟨⟨none, 0, by rw [HG.out]; rfl, by rw [HG.out]; exact Nat.le_refl _, by rw [HG.out]; exact StrsAt.nil _ _ _⟩, HB.out⟩
      · rw [h1] at hi1
        simp only [Bool.not_true] at hi1
        cases h9 : (x.k == 9)
        · cases h12 : (x.k == 12 || x.k == 13 || x.k == 14)
          · rw [h15, h17, h1, h9, h12] at HG
            replace HG := As.mk (show gv x i = [] from HG.out)
            obtain ⟨q12, q13, q14⟩ : (x.k == 12) = false ∧ (x.k == 13) = false ∧ (x.k == 14) = false := by simpa [and_assoc] using h12
            clear h12
            go_enter Tryz.func84, Tryz.ntmps84
            go_wp2
            go_ret
            exact ⟨⟨none, 0, by rw [HG.out]; rfl, by rw [HG.out]; exact Nat.le_refl _, by rw [HG.out]; exact StrsAt.nil _ _ _⟩, HB.out⟩
          · rw [h15, h17, h1, h9, h12] at HG
            replace HG := As.mk (show gv x i = [x.s] from HG.out)
            have hq : (x.k == 12) = true ∨ ((x.k == 12) = false ∧ (x.k == 13) = true) ∨ ((x.k == 12) = false ∧ (x.k == 13) = false ∧ (x.k == 14) = true) := by
              cases q12 : (x.k == 12) <;> cases q13 : (x.k == 13) <;> cases q14 : (x.k == 14) <;> simp_all
            clear h12
            rcases hq with q12 | ⟨q12, q13⟩ | ⟨q12, q13, q14⟩
            all_goals go_enter Tryz.func84, Tryz.ntmps84
            all_goals go_wp2
            all_goals go_ret
            all_goals exact ⟨⟨_, _, by rw [HG.out]; rfl, by rw [HG.out]; exact Nat.le_refl _, by rw [HG.out]; exact StrsAt.one' _ (by simp) _ _⟩, HB.out.alloc (by simp) _⟩
        · rw [h15, h17, h1, h9] at HG
          replace HG := As.mk (show gv x i = [itemName] from HG.out)
          go_enter Tryz.func84, Tryz.ntmps84
          go_wp2
          go_ret
          exact ⟨⟨_, _, by rw [HG.out]; rfl, by rw [HG.out]; exact Nat.le_refl _, by rw [HG.out]; exact StrsAt.one' _ (by simp) _ _⟩, HB.out.alloc (by simp) _⟩
    · rw [h15, h17] at HG
      replace HG := As.mk (show gv x i = x.ns.take i from HG.out)
      have hml : (x.ns.take i).length = min i x.ns.length := List.length_take
      go_enter Tryz.func84, Tryz.ntmps84
      go_wp2
      go_ret
      exact ⟨⟨A2, c2, by rw [HG.out, hml]; simp; omega, by rw [HG.out, hml]; omega, by rw [HG.out]; exact HR.out.take i⟩, HB.out⟩
  · rw [h15] at HG
    replace HG := As.mk (show gv x i = x.ns from HG.out)
    go_enter Tryz.func84, Tryz.ntmps84
    go_wp2
    go_ret
    exact ⟨⟨A2, c2, by rw [HG.out]; rfl, by rw [HG.out]; exact l2, by rw [HG.out]; exact HR.out⟩, HB.out⟩
end Go.Proofs.YtainigjbjfpoaaaGreatDoor
