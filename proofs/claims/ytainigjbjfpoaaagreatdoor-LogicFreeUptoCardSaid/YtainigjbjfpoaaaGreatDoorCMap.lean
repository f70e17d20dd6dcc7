/- Maps from texts to what a plain element is, held by the call itself. -/
import Derived.Test.YtainigjbjfpoaaaGreatDoorCIter
import Derived.Maps.OwnIn
import Derived.Maps.OwnSet
import Derived.Maps.Range
import Derived.StringKeys
namespace Go.Proofs.YtainigjbjfpoaaaGreatDoor
open Go.RowKit Go.Shelf Go.Maps Go.WideMaps

/-- how an element's type reads -/
structure Elm where
  α : Type
  e : TypeId
  m : TypeId
  va : α → Value
  dt : α → DataW Unit
  ok : α → Prop
  zero : α
  hm : Tryz.prog.underlying m = some (.map 9 e)
  hz : ∀ w, (zeroValue e).run Tryz.prog w = .ok (va zero) w
  mkR : ∀ a, ok a → plainElem (H := Unit) Tryz.prog e (va a) = some (dt a, [])
  inv : ∀ v z, plainElem (H := Unit) Tryz.prog e v = some z → ∃ a, v = va a ∧ z = (dt a, []) ∧ ok a
  inj : ∀ a b, dt a = dt b → a = b
  zok : ok zero

def keyLit (s : ByteArray) : Lit := .string s.data.toList
theorem keyLit_ne {s t : ByteArray} (h : s ≠ t) : keyLit s ≠ keyLit t := fun e => h (by
  cases s; cases t
  simp [keyLit] at e
  simpa [ByteArray.ext_iff, Array.ext_iff] using e)

/-- block b is a map that answers as f does; of at most n entries -/
def MapOf (E : Elm) (W : World) (b n : Nat) (f : ByteArray → Option E.α) : Prop :=
  ∃ D : DataW Unit, W.ownsMap Tryz.prog 9 (plainElem Tryz.prog E.e) b n D ∧ ∀ s d, D.atKey (keyLit s) d = ((f s).map E.dt).getD d

theorem strKeyed : Keyed Tryz.prog 9 := string_keyed Tryz.underlying9

variable {E : Elm} {W : World} {b n : Nat} {f : ByteArray → Option E.α}

theorem MapOf.made (E : Elm) (W : World) : MapOf E (W.alloc (.map #[] 0)) W.heap.size 0 (fun _ => none) :=
  ⟨_, World.ownsMap_made W _ _ _, fun _ _ => rfl⟩
theorem MapOf.lt (h : MapOf E W b n f) : b < W.heap.size := let ⟨_, h, _⟩ := h; h.lt
theorem MapOf.mono (h : MapOf E W b n f) {n' : Nat} (hn : n ≤ n') : MapOf E W b n' f := let ⟨D, h, hf⟩ := h; ⟨D, h.mono hn, hf⟩
theorem MapOf.kept {W' : World} {row : Option Nat} (h : MapOf E W b n f) (hg : W.grownBy W' row) (hne : some b ≠ row) : MapOf E W' b n f :=
  let ⟨D, h, hf⟩ := h; ⟨D, h.kept hg hne, hf⟩
theorem MapOf.alloc (h : MapOf E W b n f) (o : Obj) : MapOf E (W.alloc o) b n f := h.kept (World.grownBy_alloc W o none) (by simp)
theorem MapOf.below {W' : World} (h : MapOf E W b n f) {n₀ : Nat} (hb : b < n₀) (hB : Below n₀ W W') : MapOf E W' b n f := by
  obtain ⟨D, ⟨es, clock, hh, r⟩, hf⟩ := h
  exact ⟨D, ⟨es, clock, (hB.block b hb).trans hh, r⟩, hf⟩

/-- m[k] -/
theorem MapOf.look (h : MapOf E W b n f) {s : ByteArray} (hs : s.size ≤ maxLen) : (Instr.lookup E.m (.map (some b)) (.string s) false).run Tryz.prog W = .ok (E.va ((f s).getD E.zero)) W := by
  obtain ⟨D, h, hf⟩ := h
  obtain ⟨v, ps, hrun, hv⟩ := h.lookup strKeyed E.hm (E.hz W) (E.mkR _ E.zok) (keyOf_string_mk Tryz.underlying9 hs)
  rw [hrun]
  obtain ⟨a, rfl, hz, _⟩ := E.inv _ _ hv
  simp only [Prod.mk.injEq] at hz
  have h1 := hf s (E.dt E.zero)
  rw [show keyLit s = .string s.data.toList from rfl, hz.1] at h1
  have : a = (f s).getD E.zero := E.inj _ _ (by rw [h1]; cases f s <;> rfl)
  rw [this]

/-- m[k] = v -/
theorem MapOf.store (h : MapOf E W b n f) (hn : n < maxLen) {s : ByteArray} (hs : s.size ≤ maxLen) {a : E.α} (ha : E.ok a) :
    ∃ W', (Instr.mapUpdate E.m (.map (some b)) (.string s) (E.va a)).run Tryz.prog W = .ok () W' ∧ MapOf E W' b (n + 1) (fun t => if t = s then some a else f t) ∧ W.grownBy W' (some b) := by
  obtain ⟨D, h, hf⟩ := h
  obtain ⟨W', hrun, h', hg⟩ := h.update strKeyed E.hm hn (keyOf_string_mk Tryz.underlying9 hs) (E.mkR a ha)
  refine ⟨W', hrun, ⟨_, h', fun t d => ?_⟩, hg⟩
  by_cases e : t = s
  · subst e
    rw [show keyLit t = .string t.data.toList from rfl, atKey_put_same h.isMap (strKeyed.key (keyOf_string_mk Tryz.underlying9 hs))]
    simp
  · refine (atKey_put_other (keyLit_ne e) _ _).trans ?_
    rw [hf]
    simp [e]

/-- delete(m, k) -/
theorem MapOf.drop (h : MapOf E W b n f) {s : ByteArray} (hs : s.size ≤ maxLen) (ty : TypeId) :
    ∃ W', (Builtin.delete_ #[E.m, 9] ty #[.map (some b), .string s]).run Tryz.prog W = .ok (.tuple #[]) W' ∧ MapOf E W' b n (fun t => if t = s then none else f t) ∧ W.grownBy W' (some b) := by
  obtain ⟨D, h, hf⟩ := h
  obtain ⟨W', hrun, h', hg⟩ := h.drop strKeyed E.hm (keyOf_string_mk Tryz.underlying9 hs) ty
  refine ⟨W', hrun, ⟨_, h', fun t d => ?_⟩, hg.grown⟩
  by_cases e : t = s
  · subst e
    rw [show keyLit t = .string t.data.toList from rfl, atKey_del_same]
    simp
  · refine (atKey_del_other (keyLit_ne e) _).trans ?_
    rw [hf]
    simp [e]

theorem plainElem_bool_inv {H : Type} {P : Program} {e : TypeId} (he : P.underlying e = some .bool) {v : Value} {z : DataW H × List MemPlace} (h : plainElem P e v = some z) : ∃ a, v = .bool a ∧ z = (.lit (.bool a), []) := by
  unfold plainElem at h
  rw [he] at h
  cases v <;> simp at h
  exact ⟨_, rfl, h.symm⟩

/-- maps to bool, to int -/
def Bo : Elm where
  α := Bool
  e := 4
  m := 55
  va := Value.bool
  dt b := .lit (.bool b)
  ok _ := True
  zero := false
  hm := Tryz.underlying55
  hz w := Tryz.zeroValue4 w
  mkR a _ := plainElem_bool Tryz.underlying4 a
  inv v z h := by
    obtain ⟨a, rfl, rfl⟩ := plainElem_bool_inv Tryz.underlying4 h
    exact ⟨a, rfl, rfl, trivial⟩
  inj a b h := by simpa using h
  zok := trivial
def Io : Elm where
  α := Int
  e := 3
  m := 113
  va := Value.int .i64
  dt b := .lit (.int .i64 b)
  ok a := (Lit.int .i64 a).wf = true
  zero := 0
  hm := Tryz.underlying113
  hz w := Tryz.zeroValue3 w
  mkR a h := plainElem_int Tryz.underlying3 h
  inv v z h := by
    obtain ⟨a, rfl, rfl, hw⟩ := plainElem_int_inv Tryz.underlying3 h
    exact ⟨a, rfl, rfl, hw⟩
  inj a b h := by simpa using h
  zok := by decide
end Go.Proofs.YtainigjbjfpoaaaGreatDoor
