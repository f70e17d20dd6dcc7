/- Characters: utf.Fine, First, Next, and unicode/utf8.ValidRune: what they answer. -/
/- The package-level variables that the program reads, as kept cells. -/
import Derived.Test.YtainigjbjfpoaaaGreatDoorCBase
import Derived.Shelf.Unicode.DecodeSlow
namespace Go.Proofs.YtainigjbjfpoaaaGreatDoor
open Go.RowKit

def validRune (c : Int) : Bool := decide (0 ≤ c ∧ c < 55296) || decide (57343 < c ∧ c ≤ 1114111)
theorem validRune_calls (c : Int) (w : World) : Calls Tryz.prog 178 #[.int .i32 c] w fun e w' => e = .returned (.bool (validRune c)) ∧ w = w' := by
  go_enter Tryz.func178, Tryz.ntmps178
  go_wp2
  all_goals (go_ret; exact ⟨by simp [validRune]; try omega, rfl⟩)

def fine (c : Int) : Bool := if c < 32 then c == 9 || c == 10 || c == 13 else if 1114111 < c ∨ c = 65534 ∨ c = 65535 then false else validRune c
theorem fine_calls (c : Int) (w : World) : Calls Tryz.prog 161 #[.int .i64 c] w fun e w' => e = .returned (.bool (fine c)) ∧ w = w' := by
  go_enter Tryz.func161, Tryz.ntmps161
  go_wp2_with (go_at_call 178; refine (validRune_calls _ _).mono ?_; rintro e w' ⟨rfl, rfl⟩)
  all_goals go_ret
  all_goals refine ⟨congrArg (fun b => Ending.returned (Value.bool b)) ?_, rfl⟩
  all_goals rw [Bool.eq_iff_iff]
  all_goals simp only [fine]
  all_goals repeat' split
  all_goals first | (simp_all; done) | (simp_all; omega) | (exfalso; omega)

def first (c : Int) : Bool := if c < 192 then decide (97 ≤ c ∧ c ≤ 122) || decide (65 ≤ c ∧ c ≤ 90) || c == 95 else c != 215 && c != 247 && fine c
theorem first_calls (c : Int) (w : World) : Calls Tryz.prog 141 #[.int .i64 c] w fun e w' => e = .returned (.bool (first c)) ∧ w = w' := by
  go_enter Tryz.func141, Tryz.ntmps141
  go_wp2_with (go_at_call 161; refine (fine_calls _ _).mono ?_; rintro e w' ⟨rfl, rfl⟩)
  all_goals go_ret
  all_goals refine ⟨congrArg (fun b => Ending.returned (Value.bool b)) ?_, rfl⟩
  all_goals rw [Bool.eq_iff_iff]
  all_goals simp only [first]
  all_goals repeat' split
  all_goals first | (simp_all; done) | (simp_all; omega) | (exfalso; omega)
end Go.Proofs.YtainigjbjfpoaaaGreatDoor

namespace Go.Proofs.YtainigjbjfpoaaaGreatDoor
open Go.RowKit

def bs (l : List UInt8) : ByteArray := ⟨l.toArray⟩
def policies : List ByteArray := [bs [65, 78, 89], bs [67, 79, 76, 76, 69, 67, 84], bs [70, 73, 82, 83, 84], bs [79, 85, 84, 80, 85, 84, 32, 79, 82, 68, 69, 82], bs [80, 82, 73, 79, 82, 73, 84, 89], bs [82, 85, 76, 69, 32, 79, 82, 68, 69, 82], bs [85, 78, 73, 81, 85, 69]]
structure Glob (P : Pers) : Prop where
  m : ∃ m, P ⟨1, 0, none⟩ (.int .i64 m)
  tab : ∀ c, c < 256 → P ⟨2, c, none⟩ (.int .u8 (Lib.firstT c))
  acc : ∀ i, i < 16 → P ⟨3, 2 * i, none⟩ (.int .u8 (Lib.accLo i)) ∧ P ⟨3, 2 * i + 1, none⟩ (.int .u8 (Lib.accHi i))
  pol : ∀ i s, policies[i]? = some s → P ⟨0, i, none⟩ (.string s)
theorem Glob.tabs {P : Pers} (G : Glob P) {w : World} (hs : Sat P w) : Lib.Utf8Tabs 2 3 w :=
  ⟨fun c hc => hs _ _ (G.tab c hc), fun i hi => ⟨hs _ _ (G.acc i hi).1, hs _ _ (G.acc i hi).2⟩⟩
theorem Glob.mono {P Q : Pers} (G : Glob P) (h : PLe P Q) : Glob Q :=
  ⟨let ⟨m, hm⟩ := G.m; ⟨m, h _ _ hm⟩, fun c hc => h _ _ (G.tab c hc), fun i hi => ⟨h _ _ (G.acc i hi).1, h _ _ (G.acc i hi).2⟩, fun i s hs => h _ _ (G.pol i s hs)⟩
end Go.Proofs.YtainigjbjfpoaaaGreatDoor
