/- tipstaveref01: Fine, First, Next, Put, low: what they answer. -/
/- tipstaveref01.Rune. Printed by wip/tools/gen_rrune.py (own tool). -/
/- The document's first character of some bytes is the program's. No function is walked here. -/
/- tipstaveref01.Rune at a place of a text; tipstaveref02.chars. -/
import Derived.Test.YtainigjbjfpoaaaGreatDoorCUtf2
import Derived.Test.YtainigjbjfpoaaaGreatDoorCSlices
import Derived.StillTailTactics
import Derived.Test.YtainigjbjfpoaaaGreatDoorCKey
namespace Go.Proofs.YtainigjbjfpoaaaGreatDoor
open Go.RowKit

set_option maxHeartbeats 2000000 in
theorem rfine_calls (c : Int) (w : World) : Calls Tryz.prog 152 #[.int .i64 c] w fun e w' => e = .returned (.bool (fine c)) ∧ w = w' := by
  go_enter Tryz.func152, Tryz.ntmps152
  go_wp2_with fail
  all_goals go_ret
  all_goals refine ⟨congrArg (fun b => Ending.returned (Value.bool b)) ?_, rfl⟩
  all_goals rw [Bool.eq_iff_iff]
  all_goals simp only [fine, validRune]
  all_goals repeat' split
  all_goals first | (simp_all; done) | (simp_all; omega) | (exfalso; omega)

def putLen (c : Int) : Nat := if c < 128 then 1 else if c < 2048 then 2 else if c < 65536 then 3 else 4
set_option maxHeartbeats 2000000 in
theorem put_calls (c : Int) (w : World) (h0 : 0 ≤ c) (h1 : c ≤ 2097151) : Calls Tryz.prog 170 #[.int .i64 c] w fun e w' => (∃ A k, e = .returned (.slice A (putLen c) k)) ∧ Below w.heap.size w w' := by
  by_cases c1 : c < 128
  · have HP := As.mk (show putLen c = 1 from if_pos c1)
    go_enter Tryz.func170, Tryz.ntmps170
    go_wp2_with fail
    go_ret
    exact ⟨⟨some ⟨w.heap.size, 0, none⟩, _, by rw [HP.out]; rfl⟩, (Below.refl _ _).alloc (Nat.le_refl _) _⟩
  · by_cases c2 : c < 2048
    · have HP := As.mk (show putLen c = 2 from (if_neg c1).trans (if_pos c2))
      go_enter Tryz.func170, Tryz.ntmps170
      go_wp2_with fail
      go_ret
      exact ⟨⟨some ⟨w.heap.size, 0, none⟩, _, by rw [HP.out]; rfl⟩, (Below.refl _ _).alloc (Nat.le_refl _) _⟩
    · by_cases c3 : c < 65536
      · have HP := As.mk (show putLen c = 3 from (if_neg c1).trans ((if_neg c2).trans (if_pos c3)))
        go_enter Tryz.func170, Tryz.ntmps170
        go_wp2_with fail
        go_ret
        exact ⟨⟨some ⟨w.heap.size, 0, none⟩, _, by rw [HP.out]; rfl⟩, (Below.refl _ _).alloc (Nat.le_refl _) _⟩
      · have HP := As.mk (show putLen c = 4 from (if_neg c1).trans ((if_neg c2).trans (if_neg c3)))
        go_enter Tryz.func170, Tryz.ntmps170
        go_wp2_with fail
        go_ret
        exact ⟨⟨some ⟨w.heap.size, 0, none⟩, _, by rw [HP.out]; rfl⟩, (Below.refl _ _).alloc (Nat.le_refl _) _⟩

set_option maxHeartbeats 2000000 in
theorem rfirst_calls (c : Int) (w : World) : Calls Tryz.prog 134 #[.int .i64 c] w fun e w' => e = .returned (.bool (first c)) ∧ w = w' := by
  go_enter Tryz.func134, Tryz.ntmps134
  go_wp2_with (go_at_call 152; refine (rfine_calls _ _).mono ?_; rintro e w' ⟨rfl, rfl⟩)
  all_goals go_ret
  all_goals refine ⟨congrArg (fun b => Ending.returned (Value.bool b)) ?_, rfl⟩
  all_goals rw [Bool.eq_iff_iff]
  all_goals simp only [first]
  all_goals repeat' split
  all_goals first | (simp_all; done) | (simp_all; omega) | (exfalso; omega)

set_option maxHeartbeats 2000000 in
theorem rnext_calls (c : Int) (w : World) : Calls Tryz.prog 136 #[.int .i64 c] w fun e w' => e = .returned (.bool (next c)) ∧ w = w' := by
  cases hf : first c
  all_goals go_enter Tryz.func136, Tryz.ntmps136
  all_goals go_wp2_with (go_at_call 134; refine (rfirst_calls _ _).mono ?_; rintro e w' ⟨rfl, rfl⟩)
  all_goals go_ret
  all_goals refine ⟨congrArg (fun b => Ending.returned (Value.bool b)) ?_, rfl⟩
  all_goals rw [Bool.eq_iff_iff]
  all_goals simp [next, hf] at *
  all_goals omega

/-- the lower bits of some bytes, behind n -/
def lowF (n : Int) : List Nat → Int
  | [] => n
  | b :: l => if b < 128 ∨ 191 < b then -1 else lowF (64 * n + b - 128) l
set_option maxHeartbeats 2000000 in
theorem low_calls (f : Nat → UInt8) (b o m cap : Nat) (w : World) (hm : m ≤ 3) (hp : ∀ j, j < m → w.cell? ⟨b, o + j, none⟩ = some (.int .u8 (f j).toNat)) :
    Calls Tryz.prog 169 #[.slice (some ⟨b, o, none⟩) m cap] w fun e w' => e = .returned (.int .i64 (lowF 0 ((List.range m).map fun j => (f j).toNat))) ∧ w = w' := by
  go_enter Tryz.func169, Tryz.ntmps169
  go_wp2_with fail
  go_loop [4, 3] (fun i n => ∃ (k : Nat) (t : Nat), k ≤ m ∧ i = .int .i64 k ∧ n = .int .i64 t ∧ t < 64 ^ k ∧ As (lowF 0 ((List.range m).map fun j => (f j).toNat) = lowF t (((List.range m).drop k).map fun j => (f j).toNat))) (fun i _ => m - (intOf i).toNat)
  case atStart => exact ⟨0, 0, Nat.zero_le _, rfl, rfl, by simp, ⟨rfl⟩⟩
  case round =>
    obtain ⟨k, t, hk, rfl, rfl, ht, hL⟩ := hrel
    by_cases hlt : k < m
    · have hc := hp k hlt
      have hd : (List.range m).drop k = k :: (List.range m).drop (k + 1) := by rw [List.drop_eq_getElem_cons (by simpa using hlt), List.getElem_range]
      have hL2 := hL.out
      rw [hd, List.map_cons, lowF] at hL2
      have HL := As.mk hL2
      have ht2 : t < 262144 := by
        have : 64 ^ k ≤ 64 ^ 2 := Nat.pow_le_pow_right (by decide) (by omega)
        have h3 : (64 : Nat) ^ 2 = 4096 := by decide
        omega
      have hb := (f k).toNat_lt
      have hpw : 64 ^ (k + 1) = 64 * 64 ^ k := by rw [Nat.pow_succ, Nat.mul_comm]
      clear hL hL2 hp
      generalize (f k).toNat = x at *
      have HT := As.mk ht
      clear ht
      by_cases hx : x < 128
      · go_wp2_with fail
        go_ret
        exact ⟨by rw [HL.out, if_pos (.inl hx)]; rfl, rfl⟩
      · by_cases hy : 191 < x
        · go_wp2_with fail
          go_ret
          exact ⟨by rw [HL.out, if_pos (.inr hy)]; rfl, rfl⟩
        · go_wp2_with fail
          go_round
          case rel => exact ⟨k + 1, 64 * t + x - 128, by omega, by go_num, by go_num, by have := HT.out; omega, ⟨by rw [HL.out, if_neg (by omega), show (64 * (t : Int) + (x : Int) - 128) = ((64 * t + x - 128 : Nat) : Int) by omega]⟩⟩
          case measure => simp [intOf]; omega
    · obtain rfl : k = m := by omega
      have HL := As.mk (show lowF 0 ((List.range k).map fun j => (f j).toNat) = t by rw [hL.out, List.drop_eq_nil_of_le (by simp)]; rfl)
      clear hL
      go_wp2_with fail
      go_ret
      exact ⟨by rw [HL.out]; rfl, rfl⟩
set_option maxHeartbeats 1000000 in
theorem low0_calls (a : Option Addr) (cap : Nat) (w : World) : Calls Tryz.prog 169 #[.slice a 0 cap] w fun e w' => e = .returned (.int .i64 0) ∧ w = w' := by
  go_enter Tryz.func169, Tryz.ntmps169
  go_wp2_with fail
  go_loop [4, 3] (fun i n => i = .int .i64 0 ∧ n = .int .i64 0) (fun i _ => 0)
  case atStart => exact ⟨rfl, rfl⟩
  case round =>
    obtain ⟨rfl, rfl⟩ := hrel
    go_wp2_with fail
    go_ret
    exact ⟨rfl, rfl⟩
end Go.Proofs.YtainigjbjfpoaaaGreatDoor

namespace Go.Proofs.YtainigjbjfpoaaaGreatDoor
open Go.RowKit

/-- how many bytes, and what the first one says of the character -/
def lead (b : Nat) : Nat × Nat := if 240 ≤ b ∧ b < 248 then (4, b - 240) else if 224 ≤ b ∧ b < 240 then (3, b - 224) else if 192 ≤ b ∧ b < 224 then (2, b - 192) else if 128 ≤ b then (0, 0) else (1, b)
def restOf (s : ByteArray) (n : Nat) : Int := lowF 0 ((List.range (n - 1)).map fun j => (s.get! (1 + j)).toNat)
def rFin (n : Nat) (c : Int) : Int × Nat := if (fine c && (putLen c == n)) = true then (c, n) else (0, 0)
/-- the document's first character of some bytes -/
def rRune (s : ByteArray) : Int × Nat :=
  if (lead (s.get! 0).toNat).1 = 0 then (0, 0) else
  if s.size < (lead (s.get! 0).toNat).1 then (0, 0) else
  if restOf s (lead (s.get! 0).toNat).1 < 0 then (0, 0) else
  rFin (lead (s.get! 0).toNat).1 (((lead (s.get! 0).toNat).2 * 64 ^ ((lead (s.get! 0).toNat).1 - 1) : Nat) + restOf s (lead (s.get! 0).toNat).1)

theorem lowF_le : ∀ (l : List Nat) (n : Int), 0 ≤ n → lowF n l ≤ (n + 1) * 64 ^ l.length - 1 ∧ 0 ≤ lowF n l ∨ lowF n l = -1
  | [], n, h => .inl ⟨by simp [lowF], h⟩
  | b :: l, n, h => by
    unfold lowF
    split
    · exact .inr rfl
    · rename_i hb
      by_cases h0 : 0 ≤ 64 * n + b - 128
      · rcases lowF_le l (64 * n + b - 128) h0 with ⟨h1, h2⟩ | h1
        · refine .inl ⟨?_, h2⟩
          have h3 : (64 * n + b - 128 + 1) * 64 ^ l.length ≤ ((n + 1) * 64) * 64 ^ l.length := Int.mul_le_mul_of_nonneg_right (by omega) (Int.pow_nonneg (by decide))
          have h4 : ((n + 1) * 64) * 64 ^ l.length = (n + 1) * 64 ^ (b :: l).length := by
            rw [List.length_cons, Int.pow_succ, Int.mul_assoc, Int.mul_comm 64]
          omega
        · exact .inr h1
      · exfalso
        omega

set_option maxRecDepth 100000 in
set_option maxHeartbeats 1000000 in
theorem rrune1a_calls (s : ByteArray) (b o : Nat) (w : World) (hs : 0 < s.size) (hz : s.size ≤ maxStr) (hc : s.size ≤ 1) (hl : 0 ≤ (s.get! 0).toNat ∧ (s.get! 0).toNat < 128) (hp : ∀ j, j < s.size → w.cell? ⟨b, o + j, none⟩ = some (.int .u8 (s.get! j).toNat)) :
    Calls Tryz.prog 151 #[.slice (some ⟨b, o, none⟩) s.size 1] w fun e w' => e = .returned (.tuple #[.int .i64 (rRune s).1, .int .i64 (rRune s).2]) ∧ Below w.heap.size w w' := by
  obtain ⟨l1, l2⟩ := hl
  have HR := As.mk (rRune.eq_1 s)
  have hlead : ∀ x, 0 ≤ x → x < 128 → lead x = (1, x - 0) := fun x h1 h2 => by unfold lead; rw [if_neg (by omega), if_neg (by omega), if_neg (by omega), if_neg (by omega)]; rfl
  have hlead := hlead _ l1 l2
  rw [hlead] at HR
  dsimp only [Nat.reduceSub, Nat.reduceEqDiff] at HR
  rw [if_neg (by decide)] at HR
  have h0 := hp 0 hs
  rw [Nat.add_zero] at h0
  have hz1 : s.size ≤ 1073741824 := hz
  have hb0 := (s.get! 0).toNat_lt
  by_cases hn : s.size < 1
  · rw [if_pos hn] at HR
    clear hp hlead
    generalize (s.get! 0).toNat = x at *
    have hnI : (s.size : Int) < 1 := by omega
    omega
  · rw [if_neg hn] at HR
    have HLow : As (∀ a c, Calls Tryz.prog 169 #[.slice a 0 c] w fun e w' => e = .returned (.int .i64 (restOf s 1)) ∧ w = w') := As.mk (fun a c => low0_calls a c w)
    have hr : (restOf s 1 ≤ 0 ∧ 0 ≤ restOf s 1) ∨ restOf s 1 = -1 := .inl (by constructor <;> exact Int.le_refl 0)
    clear hp hlead
    generalize restOf s 1 = r at *
    generalize (s.get! 0).toNat = x at *
    have hnI : (1 : Int) ≤ (s.size : Int) := by omega
    by_cases hr0 : r < 0
    · rw [if_pos hr0] at HR
      go_enter Tryz.func151, Tryz.ntmps151
      go_wp2_with (go_at_call 169; refine (HLow.out _ _).mono ?_; rintro e w' ⟨rfl, rfl⟩)
      go_ret2
      exact ⟨by rw [HR.out]; rfl, Below.refl _ _⟩
    · rw [if_neg hr0] at HR
      have hr1 : r ≤ 0 := by omega
      clear hr
      obtain ⟨t, ht⟩ : ∃ t, t = x - 0 := ⟨_, rfl⟩
      have htI : (x : Int) - 0 = (t : Int) := by omega
      have ht8 : t ≤ 127 := by omega
      rw [← ht] at HR
      obtain ⟨c, hc3⟩ : ∃ c : Int, c = ((t * 64 ^ 0 : Nat) : Int) + r := ⟨_, rfl⟩
      rw [← hc3] at HR
      have hcb : 0 ≤ c ∧ c ≤ 2097151 := by have : t * 64 ^ 0 = t * 1 := congrArg (t * ·) (by decide); omega
      cases hf : fine c
      · have HR2 := As.mk (show rRune s = (0, 0) by rw [HR.out, rFin, hf]; rfl)
        have HC3 := As.mk hc3
        have HF := As.mk hf
        clear HR hc3 hf
        go_enter Tryz.func151, Tryz.ntmps151
        go_wp2_with (go_at_call 169; refine (HLow.out _ _).mono ?_; rintro e w' ⟨rfl, rfl⟩)
        go_loop [8, 6] (fun i v => ∃ k u : Nat, 1 ≤ k ∧ k ≤ 1 ∧ i = .int .i64 k ∧ v = .int .i64 u ∧ u = t * 64 ^ (k - 1)) (fun i _ => 1 - (intOf i).toNat)
        case atStart => exact ⟨1, t, by omega, by omega, rfl, by simp; omega, by simp⟩
        case round =>
          obtain ⟨k, u, hk1, hk, rfl, rfl, hu⟩ := hrel
          by_cases hlt : k < 1
          · have hkI : (k : Int) < 1 := by omega
            have hu2 : u ≤ 524288 := by
              have h1 : t * 64 ^ (k - 1) ≤ 127 * 64 ^ 0 := Nat.mul_le_mul ht8 (Nat.pow_le_pow_right (by decide) (by omega))
              have h2 : 127 * 64 ^ 0 ≤ 524288 := by decide
              omega
            have HU := As.mk hu
            clear hu
            go_wp2_with fail
            go_round
            case rel => exact ⟨k + 1, 64 * u, by omega, by omega, by go_num, by go_num, by rw [HU.out, show k + 1 - 1 = (k - 1) + 1 by omega, Nat.pow_succ]; rw [Nat.mul_comm 64, Nat.mul_assoc]⟩
            case measure => simp [intOf]; omega
          · obtain rfl : k = 1 := by omega
            have hcu : (u : Int) + r = c := by rw [HC3.out, hu]
            clear hu
            go_wp2_with (go_at_call 152; refine (rfine_calls _ _).mono ?_; rintro e w2 ⟨rfl, rfl⟩; rw [HF.out])
            go_ret2
            exact ⟨by rw [HR2.out]; rfl, Below.refl _ _⟩
      · by_cases hq : putLen c = 1
        · have HR2 := As.mk (show rRune s = (c, 1) by rw [HR.out, rFin, hf, hq]; rfl)
          have HC3 := As.mk hc3
          have HF := As.mk hf
          have HQ : ((putLen c : Int) != 1) = false := by simp [hq]
          clear HR hc3 hf hq
          go_enter Tryz.func151, Tryz.ntmps151
          go_wp2_with (go_at_call 169; refine (HLow.out _ _).mono ?_; rintro e w' ⟨rfl, rfl⟩)
          go_loop [8, 6] (fun i v => ∃ k u : Nat, 1 ≤ k ∧ k ≤ 1 ∧ i = .int .i64 k ∧ v = .int .i64 u ∧ u = t * 64 ^ (k - 1)) (fun i _ => 1 - (intOf i).toNat)
          case atStart => exact ⟨1, t, by omega, by omega, rfl, by simp; omega, by simp⟩
          case round =>
            obtain ⟨k, u, hk1, hk, rfl, rfl, hu⟩ := hrel
            by_cases hlt : k < 1
            · have hkI : (k : Int) < 1 := by omega
              have hu2 : u ≤ 524288 := by
                have h1 : t * 64 ^ (k - 1) ≤ 127 * 64 ^ 0 := Nat.mul_le_mul ht8 (Nat.pow_le_pow_right (by decide) (by omega))
                have h2 : 127 * 64 ^ 0 ≤ 524288 := by decide
                omega
              have HU := As.mk hu
              clear hu
              go_wp2_with fail
              go_round
              case rel => exact ⟨k + 1, 64 * u, by omega, by omega, by go_num, by go_num, by rw [HU.out, show k + 1 - 1 = (k - 1) + 1 by omega, Nat.pow_succ]; rw [Nat.mul_comm 64, Nat.mul_assoc]⟩
              case measure => simp [intOf]; omega
            · obtain rfl : k = 1 := by omega
              have hcu : (u : Int) + r = c := by rw [HC3.out, hu]
              clear hu
              go_wp2_with (first | (go_at_call 152; refine (rfine_calls _ _).mono ?_; rintro e w2 ⟨rfl, rfl⟩; rw [HF.out]) | (go_at_call 170; refine (put_calls c _ hcb.1 hcb.2).mono ?_; rintro e w2 ⟨⟨A, q, rfl⟩, hbP⟩))
              go_ret2
              exact ⟨by rw [HR2.out]; rfl, hbP⟩
        · have HR2 := As.mk (show rRune s = (0, 0) by rw [HR.out, rFin, beq_eq_false_iff_ne.2 hq, Bool.and_false]; rfl)
          have HC3 := As.mk hc3
          have HF := As.mk hf
          have HQ : ((putLen c : Int) != 1) = true := by rw [bne_iff_ne]; omega
          clear HR hc3 hf hq
          go_enter Tryz.func151, Tryz.ntmps151
          go_wp2_with (go_at_call 169; refine (HLow.out _ _).mono ?_; rintro e w' ⟨rfl, rfl⟩)
          go_loop [8, 6] (fun i v => ∃ k u : Nat, 1 ≤ k ∧ k ≤ 1 ∧ i = .int .i64 k ∧ v = .int .i64 u ∧ u = t * 64 ^ (k - 1)) (fun i _ => 1 - (intOf i).toNat)
          case atStart => exact ⟨1, t, by omega, by omega, rfl, by simp; omega, by simp⟩
          case round =>
            obtain ⟨k, u, hk1, hk, rfl, rfl, hu⟩ := hrel
            by_cases hlt : k < 1
            · have hkI : (k : Int) < 1 := by omega
              have hu2 : u ≤ 524288 := by
                have h1 : t * 64 ^ (k - 1) ≤ 127 * 64 ^ 0 := Nat.mul_le_mul ht8 (Nat.pow_le_pow_right (by decide) (by omega))
                have h2 : 127 * 64 ^ 0 ≤ 524288 := by decide
                omega
              have HU := As.mk hu
              clear hu
              go_wp2_with fail
              go_round
              case rel => exact ⟨k + 1, 64 * u, by omega, by omega, by go_num, by go_num, by rw [HU.out, show k + 1 - 1 = (k - 1) + 1 by omega, Nat.pow_succ]; rw [Nat.mul_comm 64, Nat.mul_assoc]⟩
              case measure => simp [intOf]; omega
            · obtain rfl : k = 1 := by omega
              have hcu : (u : Int) + r = c := by rw [HC3.out, hu]
              clear hu
              go_wp2_with (first | (go_at_call 152; refine (rfine_calls _ _).mono ?_; rintro e w2 ⟨rfl, rfl⟩; rw [HF.out]) | (go_at_call 170; refine (put_calls c _ hcb.1 hcb.2).mono ?_; rintro e w2 ⟨⟨A, q, rfl⟩, hbP⟩))
              go_ret2
              exact ⟨by rw [HR2.out]; rfl, hbP⟩

set_option maxRecDepth 100000 in
set_option maxHeartbeats 1000000 in
theorem rrune1b_calls (s : ByteArray) (b o cap : Nat) (w : World) (hs : 0 < s.size) (hz : s.size ≤ maxStr) (hc : s.size ≤ cap) (hcp : ¬ cap = 1) (hl : 0 ≤ (s.get! 0).toNat ∧ (s.get! 0).toNat < 128) (hp : ∀ j, j < s.size → w.cell? ⟨b, o + j, none⟩ = some (.int .u8 (s.get! j).toNat)) :
    Calls Tryz.prog 151 #[.slice (some ⟨b, o, none⟩) s.size cap] w fun e w' => e = .returned (.tuple #[.int .i64 (rRune s).1, .int .i64 (rRune s).2]) ∧ Below w.heap.size w w' := by
  obtain ⟨l1, l2⟩ := hl
  have HR := As.mk (rRune.eq_1 s)
  have hlead : ∀ x, 0 ≤ x → x < 128 → lead x = (1, x - 0) := fun x h1 h2 => by unfold lead; rw [if_neg (by omega), if_neg (by omega), if_neg (by omega), if_neg (by omega)]; rfl
  have hlead := hlead _ l1 l2
  rw [hlead] at HR
  dsimp only [Nat.reduceSub, Nat.reduceEqDiff] at HR
  rw [if_neg (by decide)] at HR
  have h0 := hp 0 hs
  rw [Nat.add_zero] at h0
  have hz1 : s.size ≤ 1073741824 := hz
  have hb0 := (s.get! 0).toNat_lt
  by_cases hn : s.size < 1
  · rw [if_pos hn] at HR
    clear hp hlead
    generalize (s.get! 0).toNat = x at *
    have hnI : (s.size : Int) < 1 := by omega
    omega
  · rw [if_neg hn] at HR
    have HLow : As (∀ a c, Calls Tryz.prog 169 #[.slice a 0 c] w fun e w' => e = .returned (.int .i64 (restOf s 1)) ∧ w = w') := As.mk (fun a c => low0_calls a c w)
    have hr : (restOf s 1 ≤ 0 ∧ 0 ≤ restOf s 1) ∨ restOf s 1 = -1 := .inl (by constructor <;> exact Int.le_refl 0)
    clear hp hlead
    generalize restOf s 1 = r at *
    generalize (s.get! 0).toNat = x at *
    have hnI : (1 : Int) ≤ (s.size : Int) := by omega
    have hcI : (1 : Int) ≤ (cap : Int) := by omega
    by_cases hr0 : r < 0
    · rw [if_pos hr0] at HR
      go_enter Tryz.func151, Tryz.ntmps151
      go_wp2_with (go_at_call 169; refine (HLow.out _ _).mono ?_; rintro e w' ⟨rfl, rfl⟩)
      go_ret2
      exact ⟨by rw [HR.out]; rfl, Below.refl _ _⟩
    · rw [if_neg hr0] at HR
      have hr1 : r ≤ 0 := by omega
      clear hr
      obtain ⟨t, ht⟩ : ∃ t, t = x - 0 := ⟨_, rfl⟩
      have htI : (x : Int) - 0 = (t : Int) := by omega
      have ht8 : t ≤ 127 := by omega
      rw [← ht] at HR
      obtain ⟨c, hc3⟩ : ∃ c : Int, c = ((t * 64 ^ 0 : Nat) : Int) + r := ⟨_, rfl⟩
      rw [← hc3] at HR
      have hcb : 0 ≤ c ∧ c ≤ 2097151 := by have : t * 64 ^ 0 = t * 1 := congrArg (t * ·) (by decide); omega
      cases hf : fine c
      · have HR2 := As.mk (show rRune s = (0, 0) by rw [HR.out, rFin, hf]; rfl)
        have HC3 := As.mk hc3
        have HF := As.mk hf
        clear HR hc3 hf
        go_enter Tryz.func151, Tryz.ntmps151
        go_wp2_with (go_at_call 169; refine (HLow.out _ _).mono ?_; rintro e w' ⟨rfl, rfl⟩)
        go_loop [8, 6] (fun i v => ∃ k u : Nat, 1 ≤ k ∧ k ≤ 1 ∧ i = .int .i64 k ∧ v = .int .i64 u ∧ u = t * 64 ^ (k - 1)) (fun i _ => 1 - (intOf i).toNat)
        case atStart => exact ⟨1, t, by omega, by omega, rfl, by simp; omega, by simp⟩
        case round =>
          obtain ⟨k, u, hk1, hk, rfl, rfl, hu⟩ := hrel
          by_cases hlt : k < 1
          · have hkI : (k : Int) < 1 := by omega
            have hu2 : u ≤ 524288 := by
              have h1 : t * 64 ^ (k - 1) ≤ 127 * 64 ^ 0 := Nat.mul_le_mul ht8 (Nat.pow_le_pow_right (by decide) (by omega))
              have h2 : 127 * 64 ^ 0 ≤ 524288 := by decide
              omega
            have HU := As.mk hu
            clear hu
            go_wp2_with fail
            go_round
            case rel => exact ⟨k + 1, 64 * u, by omega, by omega, by go_num, by go_num, by rw [HU.out, show k + 1 - 1 = (k - 1) + 1 by omega, Nat.pow_succ]; rw [Nat.mul_comm 64, Nat.mul_assoc]⟩
            case measure => simp [intOf]; omega
          · obtain rfl : k = 1 := by omega
            have hcu : (u : Int) + r = c := by rw [HC3.out, hu]
            clear hu
            go_wp2_with (go_at_call 152; refine (rfine_calls _ _).mono ?_; rintro e w2 ⟨rfl, rfl⟩; rw [HF.out])
            go_ret2
            exact ⟨by rw [HR2.out]; rfl, Below.refl _ _⟩
      · by_cases hq : putLen c = 1
        · have HR2 := As.mk (show rRune s = (c, 1) by rw [HR.out, rFin, hf, hq]; rfl)
          have HC3 := As.mk hc3
          have HF := As.mk hf
          have HQ : ((putLen c : Int) != 1) = false := by simp [hq]
          clear HR hc3 hf hq
          go_enter Tryz.func151, Tryz.ntmps151
          go_wp2_with (go_at_call 169; refine (HLow.out _ _).mono ?_; rintro e w' ⟨rfl, rfl⟩)
          go_loop [8, 6] (fun i v => ∃ k u : Nat, 1 ≤ k ∧ k ≤ 1 ∧ i = .int .i64 k ∧ v = .int .i64 u ∧ u = t * 64 ^ (k - 1)) (fun i _ => 1 - (intOf i).toNat)
          case atStart => exact ⟨1, t, by omega, by omega, rfl, by simp; omega, by simp⟩
          case round =>
            obtain ⟨k, u, hk1, hk, rfl, rfl, hu⟩ := hrel
            by_cases hlt : k < 1
            · have hkI : (k : Int) < 1 := by omega
              have hu2 : u ≤ 524288 := by
                have h1 : t * 64 ^ (k - 1) ≤ 127 * 64 ^ 0 := Nat.mul_le_mul ht8 (Nat.pow_le_pow_right (by decide) (by omega))
                have h2 : 127 * 64 ^ 0 ≤ 524288 := by decide
                omega
              have HU := As.mk hu
              clear hu
              go_wp2_with fail
              go_round
              case rel => exact ⟨k + 1, 64 * u, by omega, by omega, by go_num, by go_num, by rw [HU.out, show k + 1 - 1 = (k - 1) + 1 by omega, Nat.pow_succ]; rw [Nat.mul_comm 64, Nat.mul_assoc]⟩
              case measure => simp [intOf]; omega
            · obtain rfl : k = 1 := by omega
              have hcu : (u : Int) + r = c := by rw [HC3.out, hu]
              clear hu
              go_wp2_with (first | (go_at_call 152; refine (rfine_calls _ _).mono ?_; rintro e w2 ⟨rfl, rfl⟩; rw [HF.out]) | (go_at_call 170; refine (put_calls c _ hcb.1 hcb.2).mono ?_; rintro e w2 ⟨⟨A, q, rfl⟩, hbP⟩))
              go_ret2
              exact ⟨by rw [HR2.out]; rfl, hbP⟩
        · have HR2 := As.mk (show rRune s = (0, 0) by rw [HR.out, rFin, beq_eq_false_iff_ne.2 hq, Bool.and_false]; rfl)
          have HC3 := As.mk hc3
          have HF := As.mk hf
          have HQ : ((putLen c : Int) != 1) = true := by rw [bne_iff_ne]; omega
          clear HR hc3 hf hq
          go_enter Tryz.func151, Tryz.ntmps151
          go_wp2_with (go_at_call 169; refine (HLow.out _ _).mono ?_; rintro e w' ⟨rfl, rfl⟩)
          go_loop [8, 6] (fun i v => ∃ k u : Nat, 1 ≤ k ∧ k ≤ 1 ∧ i = .int .i64 k ∧ v = .int .i64 u ∧ u = t * 64 ^ (k - 1)) (fun i _ => 1 - (intOf i).toNat)
          case atStart => exact ⟨1, t, by omega, by omega, rfl, by simp; omega, by simp⟩
          case round =>
            obtain ⟨k, u, hk1, hk, rfl, rfl, hu⟩ := hrel
            by_cases hlt : k < 1
            · have hkI : (k : Int) < 1 := by omega
              have hu2 : u ≤ 524288 := by
                have h1 : t * 64 ^ (k - 1) ≤ 127 * 64 ^ 0 := Nat.mul_le_mul ht8 (Nat.pow_le_pow_right (by decide) (by omega))
                have h2 : 127 * 64 ^ 0 ≤ 524288 := by decide
                omega
              have HU := As.mk hu
              clear hu
              go_wp2_with fail
              go_round
              case rel => exact ⟨k + 1, 64 * u, by omega, by omega, by go_num, by go_num, by rw [HU.out, show k + 1 - 1 = (k - 1) + 1 by omega, Nat.pow_succ]; rw [Nat.mul_comm 64, Nat.mul_assoc]⟩
              case measure => simp [intOf]; omega
            · obtain rfl : k = 1 := by omega
              have hcu : (u : Int) + r = c := by rw [HC3.out, hu]
              clear hu
              go_wp2_with (first | (go_at_call 152; refine (rfine_calls _ _).mono ?_; rintro e w2 ⟨rfl, rfl⟩; rw [HF.out]) | (go_at_call 170; refine (put_calls c _ hcb.1 hcb.2).mono ?_; rintro e w2 ⟨⟨A, q, rfl⟩, hbP⟩))
              go_ret2
              exact ⟨by rw [HR2.out]; rfl, hbP⟩

theorem rrune1_calls (s : ByteArray) (b o cap : Nat) (w : World) (hs : 0 < s.size) (hz : s.size ≤ maxStr) (hc : s.size ≤ cap) (hl : 0 ≤ (s.get! 0).toNat ∧ (s.get! 0).toNat < 128) (hp : ∀ j, j < s.size → w.cell? ⟨b, o + j, none⟩ = some (.int .u8 (s.get! j).toNat)) :
    Calls Tryz.prog 151 #[.slice (some ⟨b, o, none⟩) s.size cap] w fun e w' => e = .returned (.tuple #[.int .i64 (rRune s).1, .int .i64 (rRune s).2]) ∧ Below w.heap.size w w' := by
  by_cases h : cap = 1
  · subst h
    exact rrune1a_calls s b o w hs hz hc hl hp
  · exact rrune1b_calls s b o cap w hs hz hc h hl hp

set_option maxRecDepth 100000 in
set_option maxHeartbeats 1000000 in
theorem rrune2_calls (s : ByteArray) (b o cap : Nat) (w : World) (hs : 0 < s.size) (hz : s.size ≤ maxStr) (hc : s.size ≤ cap) (hl : 192 ≤ (s.get! 0).toNat ∧ (s.get! 0).toNat < 224) (hp : ∀ j, j < s.size → w.cell? ⟨b, o + j, none⟩ = some (.int .u8 (s.get! j).toNat)) :
    Calls Tryz.prog 151 #[.slice (some ⟨b, o, none⟩) s.size cap] w fun e w' => e = .returned (.tuple #[.int .i64 (rRune s).1, .int .i64 (rRune s).2]) ∧ Below w.heap.size w w' := by
  obtain ⟨l1, l2⟩ := hl
  have HR := As.mk (rRune.eq_1 s)
  have hlead : ∀ x, 192 ≤ x → x < 224 → lead x = (2, x - 192) := fun x h1 h2 => by unfold lead; rw [if_neg (by omega), if_neg (by omega), if_pos (by omega)]
  have hlead := hlead _ l1 l2
  rw [hlead] at HR
  dsimp only [Nat.reduceSub, Nat.reduceEqDiff] at HR
  rw [if_neg (by decide)] at HR
  have h0 := hp 0 hs
  rw [Nat.add_zero] at h0
  have hz1 : s.size ≤ 1073741824 := hz
  have hb0 := (s.get! 0).toNat_lt
  by_cases hn : s.size < 2
  · rw [if_pos hn] at HR
    clear hp hlead
    generalize (s.get! 0).toNat = x at *
    have hnI : (s.size : Int) < 2 := by omega
    go_enter Tryz.func151, Tryz.ntmps151
    go_wp2_with fail
    go_ret2
    exact ⟨by rw [HR.out]; rfl, Below.refl _ _⟩
  · rw [if_neg hn] at HR
    have HLow := As.mk (low_calls (fun j => s.get! (1 + j)) b (o + 1) 1 (cap - 1) w (by decide) (fun j hj => by
      have := hp (1 + j) (by omega)
      rwa [← Nat.add_assoc] at this))
    change As (Calls _ _ _ _ fun e w' => e = .returned (.int .i64 (restOf s 2)) ∧ w = w') at HLow
    have hr : (restOf s 2 ≤ 63 ∧ 0 ≤ restOf s 2) ∨ restOf s 2 = -1 := by
      have h := lowF_le ((List.range (2 - 1)).map fun j => (s.get! (1 + j)).toNat) 0 (by decide)
      simp only [List.length_map, List.length_range] at h
      have e : ((0 : Int) + 1) * 64 ^ (2 - 1) - 1 = 63 := by decide
      rw [e] at h
      exact h
    clear hp hlead
    generalize restOf s 2 = r at *
    generalize (s.get! 0).toNat = x at *
    have hnI : (2 : Int) ≤ (s.size : Int) := by omega
    have hcI : (2 : Int) ≤ (cap : Int) := by omega
    by_cases hr0 : r < 0
    · rw [if_pos hr0] at HR
      go_enter Tryz.func151, Tryz.ntmps151
      go_wp2_with (go_at_call 169; refine HLow.out.mono ?_; rintro e w' ⟨rfl, rfl⟩)
      go_ret2
      exact ⟨by rw [HR.out]; rfl, Below.refl _ _⟩
    · rw [if_neg hr0] at HR
      have hr1 : r ≤ 63 := by omega
      clear hr
      obtain ⟨t, ht⟩ : ∃ t, t = x - 192 := ⟨_, rfl⟩
      have htI : (x : Int) - 192 = (t : Int) := by omega
      have ht8 : t ≤ 31 := by omega
      rw [← ht] at HR
      obtain ⟨c, hc3⟩ : ∃ c : Int, c = ((t * 64 ^ 1 : Nat) : Int) + r := ⟨_, rfl⟩
      rw [← hc3] at HR
      have hcb : 0 ≤ c ∧ c ≤ 2097151 := by have : t * 64 ^ 1 = t * 64 := congrArg (t * ·) (by decide); omega
      cases hf : fine c
      · have HR2 := As.mk (show rRune s = (0, 0) by rw [HR.out, rFin, hf]; rfl)
        have HC3 := As.mk hc3
        have HF := As.mk hf
        clear HR hc3 hf
        go_enter Tryz.func151, Tryz.ntmps151
        go_wp2_with (go_at_call 169; refine HLow.out.mono ?_; rintro e w' ⟨rfl, rfl⟩)
        go_loop [8, 6] (fun i v => ∃ k u : Nat, 1 ≤ k ∧ k ≤ 2 ∧ i = .int .i64 k ∧ v = .int .i64 u ∧ u = t * 64 ^ (k - 1)) (fun i _ => 2 - (intOf i).toNat)
        case atStart => exact ⟨1, t, by omega, by omega, rfl, by simp; omega, by simp⟩
        case round =>
          obtain ⟨k, u, hk1, hk, rfl, rfl, hu⟩ := hrel
          by_cases hlt : k < 2
          · have hkI : (k : Int) < 2 := by omega
            have hu2 : u ≤ 524288 := by
              have h1 : t * 64 ^ (k - 1) ≤ 31 * 64 ^ 0 := Nat.mul_le_mul ht8 (Nat.pow_le_pow_right (by decide) (by omega))
              have h2 : 31 * 64 ^ 0 ≤ 524288 := by decide
              omega
            have HU := As.mk hu
            clear hu
            go_wp2_with fail
            go_round
            case rel => exact ⟨k + 1, 64 * u, by omega, by omega, by go_num, by go_num, by rw [HU.out, show k + 1 - 1 = (k - 1) + 1 by omega, Nat.pow_succ]; rw [Nat.mul_comm 64, Nat.mul_assoc]⟩
            case measure => simp [intOf]; omega
          · obtain rfl : k = 2 := by omega
            have hcu : (u : Int) + r = c := by rw [HC3.out, hu]
            clear hu
            go_wp2_with (go_at_call 152; refine (rfine_calls _ _).mono ?_; rintro e w2 ⟨rfl, rfl⟩; rw [HF.out])
            go_ret2
            exact ⟨by rw [HR2.out]; rfl, Below.refl _ _⟩
      · by_cases hq : putLen c = 2
        · have HR2 := As.mk (show rRune s = (c, 2) by rw [HR.out, rFin, hf, hq]; rfl)
          have HC3 := As.mk hc3
          have HF := As.mk hf
          have HQ : ((putLen c : Int) != 2) = false := by simp [hq]
          clear HR hc3 hf hq
          go_enter Tryz.func151, Tryz.ntmps151
          go_wp2_with (go_at_call 169; refine HLow.out.mono ?_; rintro e w' ⟨rfl, rfl⟩)
          go_loop [8, 6] (fun i v => ∃ k u : Nat, 1 ≤ k ∧ k ≤ 2 ∧ i = .int .i64 k ∧ v = .int .i64 u ∧ u = t * 64 ^ (k - 1)) (fun i _ => 2 - (intOf i).toNat)
          case atStart => exact ⟨1, t, by omega, by omega, rfl, by simp; omega, by simp⟩
          case round =>
            obtain ⟨k, u, hk1, hk, rfl, rfl, hu⟩ := hrel
            by_cases hlt : k < 2
            · have hkI : (k : Int) < 2 := by omega
              have hu2 : u ≤ 524288 := by
                have h1 : t * 64 ^ (k - 1) ≤ 31 * 64 ^ 0 := Nat.mul_le_mul ht8 (Nat.pow_le_pow_right (by decide) (by omega))
                have h2 : 31 * 64 ^ 0 ≤ 524288 := by decide
                omega
              have HU := As.mk hu
              clear hu
              go_wp2_with fail
              go_round
              case rel => exact ⟨k + 1, 64 * u, by omega, by omega, by go_num, by go_num, by rw [HU.out, show k + 1 - 1 = (k - 1) + 1 by omega, Nat.pow_succ]; rw [Nat.mul_comm 64, Nat.mul_assoc]⟩
              case measure => simp [intOf]; omega
            · obtain rfl : k = 2 := by omega
              have hcu : (u : Int) + r = c := by rw [HC3.out, hu]
              clear hu
              go_wp2_with (first | (go_at_call 152; refine (rfine_calls _ _).mono ?_; rintro e w2 ⟨rfl, rfl⟩; rw [HF.out]) | (go_at_call 170; refine (put_calls c _ hcb.1 hcb.2).mono ?_; rintro e w2 ⟨⟨A, q, rfl⟩, hbP⟩))
              go_ret2
              exact ⟨by rw [HR2.out]; rfl, hbP⟩
        · have HR2 := As.mk (show rRune s = (0, 0) by rw [HR.out, rFin, beq_eq_false_iff_ne.2 hq, Bool.and_false]; rfl)
          have HC3 := As.mk hc3
          have HF := As.mk hf
          have HQ : ((putLen c : Int) != 2) = true := by rw [bne_iff_ne]; omega
          clear HR hc3 hf hq
          go_enter Tryz.func151, Tryz.ntmps151
          go_wp2_with (go_at_call 169; refine HLow.out.mono ?_; rintro e w' ⟨rfl, rfl⟩)
          go_loop [8, 6] (fun i v => ∃ k u : Nat, 1 ≤ k ∧ k ≤ 2 ∧ i = .int .i64 k ∧ v = .int .i64 u ∧ u = t * 64 ^ (k - 1)) (fun i _ => 2 - (intOf i).toNat)
          case atStart => exact ⟨1, t, by omega, by omega, rfl, by simp; omega, by simp⟩
          case round =>
            obtain ⟨k, u, hk1, hk, rfl, rfl, hu⟩ := hrel
            by_cases hlt : k < 2
            · have hkI : (k : Int) < 2 := by omega
              have hu2 : u ≤ 524288 := by
                have h1 : t * 64 ^ (k - 1) ≤ 31 * 64 ^ 0 := Nat.mul_le_mul ht8 (Nat.pow_le_pow_right (by decide) (by omega))
                have h2 : 31 * 64 ^ 0 ≤ 524288 := by decide
                omega
              have HU := As.mk hu
              clear hu
              go_wp2_with fail
              go_round
              case rel => exact ⟨k + 1, 64 * u, by omega, by omega, by go_num, by go_num, by rw [HU.out, show k + 1 - 1 = (k - 1) + 1 by omega, Nat.pow_succ]; rw [Nat.mul_comm 64, Nat.mul_assoc]⟩
              case measure => simp [intOf]; omega
            · obtain rfl : k = 2 := by omega
              have hcu : (u : Int) + r = c := by rw [HC3.out, hu]
              clear hu
              go_wp2_with (first | (go_at_call 152; refine (rfine_calls _ _).mono ?_; rintro e w2 ⟨rfl, rfl⟩; rw [HF.out]) | (go_at_call 170; refine (put_calls c _ hcb.1 hcb.2).mono ?_; rintro e w2 ⟨⟨A, q, rfl⟩, hbP⟩))
              go_ret2
              exact ⟨by rw [HR2.out]; rfl, hbP⟩

set_option maxRecDepth 100000 in
set_option maxHeartbeats 1000000 in
theorem rrune3_calls (s : ByteArray) (b o cap : Nat) (w : World) (hs : 0 < s.size) (hz : s.size ≤ maxStr) (hc : s.size ≤ cap) (hl : 224 ≤ (s.get! 0).toNat ∧ (s.get! 0).toNat < 240) (hp : ∀ j, j < s.size → w.cell? ⟨b, o + j, none⟩ = some (.int .u8 (s.get! j).toNat)) :
    Calls Tryz.prog 151 #[.slice (some ⟨b, o, none⟩) s.size cap] w fun e w' => e = .returned (.tuple #[.int .i64 (rRune s).1, .int .i64 (rRune s).2]) ∧ Below w.heap.size w w' := by
  obtain ⟨l1, l2⟩ := hl
  have HR := As.mk (rRune.eq_1 s)
  have hlead : ∀ x, 224 ≤ x → x < 240 → lead x = (3, x - 224) := fun x h1 h2 => by unfold lead; rw [if_neg (by omega), if_pos (by omega)]
  have hlead := hlead _ l1 l2
  rw [hlead] at HR
  dsimp only [Nat.reduceSub, Nat.reduceEqDiff] at HR
  rw [if_neg (by decide)] at HR
  have h0 := hp 0 hs
  rw [Nat.add_zero] at h0
  have hz1 : s.size ≤ 1073741824 := hz
  have hb0 := (s.get! 0).toNat_lt
  by_cases hn : s.size < 3
  · rw [if_pos hn] at HR
    clear hp hlead
    generalize (s.get! 0).toNat = x at *
    have hnI : (s.size : Int) < 3 := by omega
    go_enter Tryz.func151, Tryz.ntmps151
    go_wp2_with fail
    go_ret2
    exact ⟨by rw [HR.out]; rfl, Below.refl _ _⟩
  · rw [if_neg hn] at HR
    have HLow := As.mk (low_calls (fun j => s.get! (1 + j)) b (o + 1) 2 (cap - 1) w (by decide) (fun j hj => by
      have := hp (1 + j) (by omega)
      rwa [← Nat.add_assoc] at this))
    change As (Calls _ _ _ _ fun e w' => e = .returned (.int .i64 (restOf s 3)) ∧ w = w') at HLow
    have hr : (restOf s 3 ≤ 4095 ∧ 0 ≤ restOf s 3) ∨ restOf s 3 = -1 := by
      have h := lowF_le ((List.range (3 - 1)).map fun j => (s.get! (1 + j)).toNat) 0 (by decide)
      simp only [List.length_map, List.length_range] at h
      have e : ((0 : Int) + 1) * 64 ^ (3 - 1) - 1 = 4095 := by decide
      rw [e] at h
      exact h
    clear hp hlead
    generalize restOf s 3 = r at *
    generalize (s.get! 0).toNat = x at *
    have hnI : (3 : Int) ≤ (s.size : Int) := by omega
    have hcI : (3 : Int) ≤ (cap : Int) := by omega
    by_cases hr0 : r < 0
    · rw [if_pos hr0] at HR
      go_enter Tryz.func151, Tryz.ntmps151
      go_wp2_with (go_at_call 169; refine HLow.out.mono ?_; rintro e w' ⟨rfl, rfl⟩)
      go_ret2
      exact ⟨by rw [HR.out]; rfl, Below.refl _ _⟩
    · rw [if_neg hr0] at HR
      have hr1 : r ≤ 4095 := by omega
      clear hr
      obtain ⟨t, ht⟩ : ∃ t, t = x - 224 := ⟨_, rfl⟩
      have htI : (x : Int) - 224 = (t : Int) := by omega
      have ht8 : t ≤ 15 := by omega
      rw [← ht] at HR
      obtain ⟨c, hc3⟩ : ∃ c : Int, c = ((t * 64 ^ 2 : Nat) : Int) + r := ⟨_, rfl⟩
      rw [← hc3] at HR
      have hcb : 0 ≤ c ∧ c ≤ 2097151 := by have : t * 64 ^ 2 = t * 4096 := congrArg (t * ·) (by decide); omega
      cases hf : fine c
      · have HR2 := As.mk (show rRune s = (0, 0) by rw [HR.out, rFin, hf]; rfl)
        have HC3 := As.mk hc3
        have HF := As.mk hf
        clear HR hc3 hf
        go_enter Tryz.func151, Tryz.ntmps151
        go_wp2_with (go_at_call 169; refine HLow.out.mono ?_; rintro e w' ⟨rfl, rfl⟩)
        go_loop [8, 6] (fun i v => ∃ k u : Nat, 1 ≤ k ∧ k ≤ 3 ∧ i = .int .i64 k ∧ v = .int .i64 u ∧ u = t * 64 ^ (k - 1)) (fun i _ => 3 - (intOf i).toNat)
        case atStart => exact ⟨1, t, by omega, by omega, rfl, by simp; omega, by simp⟩
        case round =>
          obtain ⟨k, u, hk1, hk, rfl, rfl, hu⟩ := hrel
          by_cases hlt : k < 3
          · have hkI : (k : Int) < 3 := by omega
            have hu2 : u ≤ 524288 := by
              have h1 : t * 64 ^ (k - 1) ≤ 15 * 64 ^ 1 := Nat.mul_le_mul ht8 (Nat.pow_le_pow_right (by decide) (by omega))
              have h2 : 15 * 64 ^ 1 ≤ 524288 := by decide
              omega
            have HU := As.mk hu
            clear hu
            go_wp2_with fail
            go_round
            case rel => exact ⟨k + 1, 64 * u, by omega, by omega, by go_num, by go_num, by rw [HU.out, show k + 1 - 1 = (k - 1) + 1 by omega, Nat.pow_succ]; rw [Nat.mul_comm 64, Nat.mul_assoc]⟩
            case measure => simp [intOf]; omega
          · obtain rfl : k = 3 := by omega
            have hcu : (u : Int) + r = c := by rw [HC3.out, hu]
            clear hu
            go_wp2_with (go_at_call 152; refine (rfine_calls _ _).mono ?_; rintro e w2 ⟨rfl, rfl⟩; rw [HF.out])
            go_ret2
            exact ⟨by rw [HR2.out]; rfl, Below.refl _ _⟩
      · by_cases hq : putLen c = 3
        · have HR2 := As.mk (show rRune s = (c, 3) by rw [HR.out, rFin, hf, hq]; rfl)
          have HC3 := As.mk hc3
          have HF := As.mk hf
          have HQ : ((putLen c : Int) != 3) = false := by simp [hq]
          clear HR hc3 hf hq
          go_enter Tryz.func151, Tryz.ntmps151
          go_wp2_with (go_at_call 169; refine HLow.out.mono ?_; rintro e w' ⟨rfl, rfl⟩)
          go_loop [8, 6] (fun i v => ∃ k u : Nat, 1 ≤ k ∧ k ≤ 3 ∧ i = .int .i64 k ∧ v = .int .i64 u ∧ u = t * 64 ^ (k - 1)) (fun i _ => 3 - (intOf i).toNat)
          case atStart => exact ⟨1, t, by omega, by omega, rfl, by simp; omega, by simp⟩
          case round =>
            obtain ⟨k, u, hk1, hk, rfl, rfl, hu⟩ := hrel
            by_cases hlt : k < 3
            · have hkI : (k : Int) < 3 := by omega
              have hu2 : u ≤ 524288 := by
                have h1 : t * 64 ^ (k - 1) ≤ 15 * 64 ^ 1 := Nat.mul_le_mul ht8 (Nat.pow_le_pow_right (by decide) (by omega))
                have h2 : 15 * 64 ^ 1 ≤ 524288 := by decide
                omega
              have HU := As.mk hu
              clear hu
              go_wp2_with fail
              go_round
              case rel => exact ⟨k + 1, 64 * u, by omega, by omega, by go_num, by go_num, by rw [HU.out, show k + 1 - 1 = (k - 1) + 1 by omega, Nat.pow_succ]; rw [Nat.mul_comm 64, Nat.mul_assoc]⟩
              case measure => simp [intOf]; omega
            · obtain rfl : k = 3 := by omega
              have hcu : (u : Int) + r = c := by rw [HC3.out, hu]
              clear hu
              go_wp2_with (first | (go_at_call 152; refine (rfine_calls _ _).mono ?_; rintro e w2 ⟨rfl, rfl⟩; rw [HF.out]) | (go_at_call 170; refine (put_calls c _ hcb.1 hcb.2).mono ?_; rintro e w2 ⟨⟨A, q, rfl⟩, hbP⟩))
              go_ret2
              exact ⟨by rw [HR2.out]; rfl, hbP⟩
        · have HR2 := As.mk (show rRune s = (0, 0) by rw [HR.out, rFin, beq_eq_false_iff_ne.2 hq, Bool.and_false]; rfl)
          have HC3 := As.mk hc3
          have HF := As.mk hf
          have HQ : ((putLen c : Int) != 3) = true := by rw [bne_iff_ne]; omega
          clear HR hc3 hf hq
          go_enter Tryz.func151, Tryz.ntmps151
          go_wp2_with (go_at_call 169; refine HLow.out.mono ?_; rintro e w' ⟨rfl, rfl⟩)
          go_loop [8, 6] (fun i v => ∃ k u : Nat, 1 ≤ k ∧ k ≤ 3 ∧ i = .int .i64 k ∧ v = .int .i64 u ∧ u = t * 64 ^ (k - 1)) (fun i _ => 3 - (intOf i).toNat)
          case atStart => exact ⟨1, t, by omega, by omega, rfl, by simp; omega, by simp⟩
          case round =>
            obtain ⟨k, u, hk1, hk, rfl, rfl, hu⟩ := hrel
            by_cases hlt : k < 3
            · have hkI : (k : Int) < 3 := by omega
              have hu2 : u ≤ 524288 := by
                have h1 : t * 64 ^ (k - 1) ≤ 15 * 64 ^ 1 := Nat.mul_le_mul ht8 (Nat.pow_le_pow_right (by decide) (by omega))
                have h2 : 15 * 64 ^ 1 ≤ 524288 := by decide
                omega
              have HU := As.mk hu
              clear hu
              go_wp2_with fail
              go_round
              case rel => exact ⟨k + 1, 64 * u, by omega, by omega, by go_num, by go_num, by rw [HU.out, show k + 1 - 1 = (k - 1) + 1 by omega, Nat.pow_succ]; rw [Nat.mul_comm 64, Nat.mul_assoc]⟩
              case measure => simp [intOf]; omega
            · obtain rfl : k = 3 := by omega
              have hcu : (u : Int) + r = c := by rw [HC3.out, hu]
              clear hu
              go_wp2_with (first | (go_at_call 152; refine (rfine_calls _ _).mono ?_; rintro e w2 ⟨rfl, rfl⟩; rw [HF.out]) | (go_at_call 170; refine (put_calls c _ hcb.1 hcb.2).mono ?_; rintro e w2 ⟨⟨A, q, rfl⟩, hbP⟩))
              go_ret2
              exact ⟨by rw [HR2.out]; rfl, hbP⟩

set_option maxRecDepth 100000 in
set_option maxHeartbeats 1000000 in
theorem rrune4_calls (s : ByteArray) (b o cap : Nat) (w : World) (hs : 0 < s.size) (hz : s.size ≤ maxStr) (hc : s.size ≤ cap) (hl : 240 ≤ (s.get! 0).toNat ∧ (s.get! 0).toNat < 248) (hp : ∀ j, j < s.size → w.cell? ⟨b, o + j, none⟩ = some (.int .u8 (s.get! j).toNat)) :
    Calls Tryz.prog 151 #[.slice (some ⟨b, o, none⟩) s.size cap] w fun e w' => e = .returned (.tuple #[.int .i64 (rRune s).1, .int .i64 (rRune s).2]) ∧ Below w.heap.size w w' := by
  obtain ⟨l1, l2⟩ := hl
  have HR := As.mk (rRune.eq_1 s)
  have hlead : ∀ x, 240 ≤ x → x < 248 → lead x = (4, x - 240) := fun x h1 h2 => by unfold lead; rw [if_pos (by omega)]
  have hlead := hlead _ l1 l2
  rw [hlead] at HR
  dsimp only [Nat.reduceSub, Nat.reduceEqDiff] at HR
  rw [if_neg (by decide)] at HR
  have h0 := hp 0 hs
  rw [Nat.add_zero] at h0
  have hz1 : s.size ≤ 1073741824 := hz
  have hb0 := (s.get! 0).toNat_lt
  by_cases hn : s.size < 4
  · rw [if_pos hn] at HR
    clear hp hlead
    generalize (s.get! 0).toNat = x at *
    have hnI : (s.size : Int) < 4 := by omega
    go_enter Tryz.func151, Tryz.ntmps151
    go_wp2_with fail
    go_ret2
    exact ⟨by rw [HR.out]; rfl, Below.refl _ _⟩
  · rw [if_neg hn] at HR
    have HLow := As.mk (low_calls (fun j => s.get! (1 + j)) b (o + 1) 3 (cap - 1) w (by decide) (fun j hj => by
      have := hp (1 + j) (by omega)
      rwa [← Nat.add_assoc] at this))
    change As (Calls _ _ _ _ fun e w' => e = .returned (.int .i64 (restOf s 4)) ∧ w = w') at HLow
    have hr : (restOf s 4 ≤ 262143 ∧ 0 ≤ restOf s 4) ∨ restOf s 4 = -1 := by
      have h := lowF_le ((List.range (4 - 1)).map fun j => (s.get! (1 + j)).toNat) 0 (by decide)
      simp only [List.length_map, List.length_range] at h
      have e : ((0 : Int) + 1) * 64 ^ (4 - 1) - 1 = 262143 := by decide
      rw [e] at h
      exact h
    clear hp hlead
    generalize restOf s 4 = r at *
    generalize (s.get! 0).toNat = x at *
    have hnI : (4 : Int) ≤ (s.size : Int) := by omega
    have hcI : (4 : Int) ≤ (cap : Int) := by omega
    by_cases hr0 : r < 0
    · rw [if_pos hr0] at HR
      go_enter Tryz.func151, Tryz.ntmps151
      go_wp2_with (go_at_call 169; refine HLow.out.mono ?_; rintro e w' ⟨rfl, rfl⟩)
      go_ret2
      exact ⟨by rw [HR.out]; rfl, Below.refl _ _⟩
    · rw [if_neg hr0] at HR
      have hr1 : r ≤ 262143 := by omega
      clear hr
      obtain ⟨t, ht⟩ : ∃ t, t = x - 240 := ⟨_, rfl⟩
      have htI : (x : Int) - 240 = (t : Int) := by omega
      have ht8 : t ≤ 7 := by omega
      rw [← ht] at HR
      obtain ⟨c, hc3⟩ : ∃ c : Int, c = ((t * 64 ^ 3 : Nat) : Int) + r := ⟨_, rfl⟩
      rw [← hc3] at HR
      have hcb : 0 ≤ c ∧ c ≤ 2097151 := by have : t * 64 ^ 3 = t * 262144 := congrArg (t * ·) (by decide); omega
      cases hf : fine c
      · have HR2 := As.mk (show rRune s = (0, 0) by rw [HR.out, rFin, hf]; rfl)
        have HC3 := As.mk hc3
        have HF := As.mk hf
        clear HR hc3 hf
        go_enter Tryz.func151, Tryz.ntmps151
        go_wp2_with (go_at_call 169; refine HLow.out.mono ?_; rintro e w' ⟨rfl, rfl⟩)
        go_loop [8, 6] (fun i v => ∃ k u : Nat, 1 ≤ k ∧ k ≤ 4 ∧ i = .int .i64 k ∧ v = .int .i64 u ∧ u = t * 64 ^ (k - 1)) (fun i _ => 4 - (intOf i).toNat)
        case atStart => exact ⟨1, t, by omega, by omega, rfl, by simp; omega, by simp⟩
        case round =>
          obtain ⟨k, u, hk1, hk, rfl, rfl, hu⟩ := hrel
          by_cases hlt : k < 4
          · have hkI : (k : Int) < 4 := by omega
            have hu2 : u ≤ 524288 := by
              have h1 : t * 64 ^ (k - 1) ≤ 7 * 64 ^ 2 := Nat.mul_le_mul ht8 (Nat.pow_le_pow_right (by decide) (by omega))
              have h2 : 7 * 64 ^ 2 ≤ 524288 := by decide
              omega
            have HU := As.mk hu
            clear hu
            go_wp2_with fail
            go_round
            case rel => exact ⟨k + 1, 64 * u, by omega, by omega, by go_num, by go_num, by rw [HU.out, show k + 1 - 1 = (k - 1) + 1 by omega, Nat.pow_succ]; rw [Nat.mul_comm 64, Nat.mul_assoc]⟩
            case measure => simp [intOf]; omega
          · obtain rfl : k = 4 := by omega
            have hcu : (u : Int) + r = c := by rw [HC3.out, hu]
            clear hu
            go_wp2_with (go_at_call 152; refine (rfine_calls _ _).mono ?_; rintro e w2 ⟨rfl, rfl⟩; rw [HF.out])
            go_ret2
            exact ⟨by rw [HR2.out]; rfl, Below.refl _ _⟩
      · by_cases hq : putLen c = 4
        · have HR2 := As.mk (show rRune s = (c, 4) by rw [HR.out, rFin, hf, hq]; rfl)
          have HC3 := As.mk hc3
          have HF := As.mk hf
          have HQ : ((putLen c : Int) != 4) = false := by simp [hq]
          clear HR hc3 hf hq
          go_enter Tryz.func151, Tryz.ntmps151
          go_wp2_with (go_at_call 169; refine HLow.out.mono ?_; rintro e w' ⟨rfl, rfl⟩)
          go_loop [8, 6] (fun i v => ∃ k u : Nat, 1 ≤ k ∧ k ≤ 4 ∧ i = .int .i64 k ∧ v = .int .i64 u ∧ u = t * 64 ^ (k - 1)) (fun i _ => 4 - (intOf i).toNat)
          case atStart => exact ⟨1, t, by omega, by omega, rfl, by simp; omega, by simp⟩
          case round =>
            obtain ⟨k, u, hk1, hk, rfl, rfl, hu⟩ := hrel
            by_cases hlt : k < 4
            · have hkI : (k : Int) < 4 := by omega
              have hu2 : u ≤ 524288 := by
                have h1 : t * 64 ^ (k - 1) ≤ 7 * 64 ^ 2 := Nat.mul_le_mul ht8 (Nat.pow_le_pow_right (by decide) (by omega))
                have h2 : 7 * 64 ^ 2 ≤ 524288 := by decide
                omega
              have HU := As.mk hu
              clear hu
              go_wp2_with fail
              go_round
              case rel => exact ⟨k + 1, 64 * u, by omega, by omega, by go_num, by go_num, by rw [HU.out, show k + 1 - 1 = (k - 1) + 1 by omega, Nat.pow_succ]; rw [Nat.mul_comm 64, Nat.mul_assoc]⟩
              case measure => simp [intOf]; omega
            · obtain rfl : k = 4 := by omega
              have hcu : (u : Int) + r = c := by rw [HC3.out, hu]
              clear hu
              go_wp2_with (first | (go_at_call 152; refine (rfine_calls _ _).mono ?_; rintro e w2 ⟨rfl, rfl⟩; rw [HF.out]) | (go_at_call 170; refine (put_calls c _ hcb.1 hcb.2).mono ?_; rintro e w2 ⟨⟨A, q, rfl⟩, hbP⟩))
              go_ret2
              exact ⟨by rw [HR2.out]; rfl, hbP⟩
        · have HR2 := As.mk (show rRune s = (0, 0) by rw [HR.out, rFin, beq_eq_false_iff_ne.2 hq, Bool.and_false]; rfl)
          have HC3 := As.mk hc3
          have HF := As.mk hf
          have HQ : ((putLen c : Int) != 4) = true := by rw [bne_iff_ne]; omega
          clear HR hc3 hf hq
          go_enter Tryz.func151, Tryz.ntmps151
          go_wp2_with (go_at_call 169; refine HLow.out.mono ?_; rintro e w' ⟨rfl, rfl⟩)
          go_loop [8, 6] (fun i v => ∃ k u : Nat, 1 ≤ k ∧ k ≤ 4 ∧ i = .int .i64 k ∧ v = .int .i64 u ∧ u = t * 64 ^ (k - 1)) (fun i _ => 4 - (intOf i).toNat)
          case atStart => exact ⟨1, t, by omega, by omega, rfl, by simp; omega, by simp⟩
          case round =>
            obtain ⟨k, u, hk1, hk, rfl, rfl, hu⟩ := hrel
            by_cases hlt : k < 4
            · have hkI : (k : Int) < 4 := by omega
              have hu2 : u ≤ 524288 := by
                have h1 : t * 64 ^ (k - 1) ≤ 7 * 64 ^ 2 := Nat.mul_le_mul ht8 (Nat.pow_le_pow_right (by decide) (by omega))
                have h2 : 7 * 64 ^ 2 ≤ 524288 := by decide
                omega
              have HU := As.mk hu
              clear hu
              go_wp2_with fail
              go_round
              case rel => exact ⟨k + 1, 64 * u, by omega, by omega, by go_num, by go_num, by rw [HU.out, show k + 1 - 1 = (k - 1) + 1 by omega, Nat.pow_succ]; rw [Nat.mul_comm 64, Nat.mul_assoc]⟩
              case measure => simp [intOf]; omega
            · obtain rfl : k = 4 := by omega
              have hcu : (u : Int) + r = c := by rw [HC3.out, hu]
              clear hu
              go_wp2_with (first | (go_at_call 152; refine (rfine_calls _ _).mono ?_; rintro e w2 ⟨rfl, rfl⟩; rw [HF.out]) | (go_at_call 170; refine (put_calls c _ hcb.1 hcb.2).mono ?_; rintro e w2 ⟨⟨A, q, rfl⟩, hbP⟩))
              go_ret2
              exact ⟨by rw [HR2.out]; rfl, hbP⟩
end Go.Proofs.YtainigjbjfpoaaaGreatDoor

namespace Go.Proofs.YtainigjbjfpoaaaGreatDoor
open Go.RowKit

def uR (d : Nat × Nat) : Int × Nat := if (d.1 = 65533 ∧ d.2 < 2) ∨ fine d.1 = false then (0, 0) else (d.1, d.2)
theorem uR_bad : uR (65533, 1) = (0, 0) := if_pos (.inl ⟨rfl, by decide⟩)
theorem uR_good {c n : Nat} (h : fine c = true) (hn : 2 ≤ n ∨ c ≠ 65533) : uR (c, n) = ((c : Int), n) := if_neg (by
  rintro (⟨h1, h2⟩ | h3)
  · dsimp only at h1 h2
    rcases hn with hn | hn
    · omega
    · exact hn h1
  · rw [h] at h3
    cases h3)
theorem uR_no {c n : Nat} (h : fine c = false) : uR (c, n) = (0, 0) := if_pos (.inr h)
theorem rFin_ok {n : Nat} {c : Int} (h : fine c = true) (hp : putLen c = n) : rFin n c = (c, n) := by
  rw [rFin, h, hp]
  simp
theorem rFin_no {n : Nat} {c : Int} (h : fine c = false ∨ putLen c ≠ n) : rFin n c = (0, 0) := by
  unfold rFin
  rw [if_neg]
  rcases h with h | h
  · rw [h]; simp
  · rw [beq_eq_false_iff_ne.2 h]; simp
theorem uR_fin {c n : Nat} (hp : putLen c = n) (hn : 2 ≤ n ∨ c ≠ 65533) : rFin n c = uR (c, n) := by
  cases h : fine c
  · rw [rFin_no (.inl h), uR_no h]
  · rw [rFin_ok h hp, uR_good h hn]
theorem putLen1 {c : Int} (h : c < 128) : putLen c = 1 := if_pos h
theorem putLen2 {c : Int} (h : 128 ≤ c) (k : c < 2048) : putLen c = 2 := (if_neg (by omega)).trans (if_pos k)
theorem putLen3 {c : Int} (h : 2048 ≤ c) (k : c < 65536) : putLen c = 3 := (if_neg (by omega)).trans ((if_neg (by omega)).trans (if_pos k))
theorem putLen4 {c : Int} (h : 65536 ≤ c) : putLen c = 4 := (if_neg (by omega)).trans ((if_neg (by omega)).trans (if_neg (by omega)))
theorem fine_sur {c : Int} (h : (55296 ≤ c ∧ c ≤ 57343) ∨ 1114111 < c) : fine c = false := by
  unfold fine
  rw [if_neg (by omega)]
  rcases h with h | h
  · rw [if_neg (by omega)]
    unfold validRune
    rw [decide_eq_false (by omega), decide_eq_false (by omega)]
    rfl
  · rw [if_pos (.inl h)]

theorem low1 (b : Nat) : lowF 0 [b] = if b < 128 ∨ 191 < b then -1 else (b : Int) - 128 := by
  simp only [lowF]
  split <;> omega
theorem lowF_one (n : Int) (b : Nat) (l : List Nat) (h : b / 64 = 2) : lowF n (b :: l) = lowF (64 * n + (b % 64 : Nat)) l := by
  rw [lowF, if_neg (by omega)]
  congr 1
  omega
theorem lowF_bad (n : Int) (b : Nat) (l : List Nat) (h : ¬ b / 64 = 2) (hb : b < 256) : lowF n (b :: l) = -1 := by
  rw [lowF, if_pos (by omega)]

set_option maxRecDepth 10000 in
theorem rRune_law (s : ByteArray) (h : 0 < s.size) : rRune s = uR (Utf8.decode s 0) := by
  rw [Lib.decode_at s 0]
  have e2 : restOf s 2 = lowF 0 [(s.get! 1).toNat] := rfl
  have e3 : restOf s 3 = lowF 0 [(s.get! 1).toNat, (s.get! 2).toNat] := rfl
  have e4 : restOf s 4 = lowF 0 [(s.get! 1).toNat, (s.get! 2).toNat, (s.get! 3).toNat] := rfl
  have e1 : restOf s 1 = 0 := rfl
  have h0 := (s.get! 0).toNat_lt
  have h1 := (s.get! 1).toNat_lt
  have h2 := (s.get! 2).toNat_lt
  have h3 := (s.get! 3).toNat_lt
  rw [rRune.eq_1]
  simp only [Nat.zero_add, Nat.sub_zero]
  generalize (s.get! 0).toNat = b0 at *
  generalize (s.get! 1).toNat = b1 at *
  generalize (s.get! 2).toNat = b2 at *
  generalize (s.get! 3).toNat = b3 at *
  generalize s.size = m at *
  by_cases k1 : b0 < 128
  · have hl : lead b0 = (1, b0) := by unfold lead; rw [if_neg (by omega), if_neg (by omega), if_neg (by omega), if_neg (by omega)]
    have hd : Lib.decodeN m b0 b1 b2 b3 = (b0, 1) := by unfold Lib.decodeN; rw [if_pos k1]
    rw [hl, hd]
    dsimp only
    rw [if_neg (by omega), if_neg (by omega), e1, if_neg (by decide)]
    have : ((b0 * 64 ^ (1 - 1) : Nat) : Int) + 0 = (b0 : Int) := by simp
    rw [this]
    exact uR_fin (putLen1 (by omega)) (.inr (by omega))
  · by_cases k2 : b0 < 192 ∨ 248 ≤ b0
    · have hl : lead b0 = (0, 0) := by unfold lead; rw [if_neg (by omega), if_neg (by omega), if_neg (by omega), if_pos (by omega)]
      have hd : Lib.decodeN m b0 b1 b2 b3 = (65533, 1) := by unfold Lib.decodeN; rw [if_neg k1, if_neg (by omega), if_neg (by omega), if_neg (by omega)]
      rw [hl, hd, uR_bad]
      rfl
    · by_cases k3 : b0 < 224
      · have hl : lead b0 = (2, b0 - 192) := by unfold lead; rw [if_neg (by omega), if_neg (by omega), if_pos (by omega)]
        rw [hl]
        dsimp only
        rw [if_neg (by omega), e2]
        by_cases hm : 1 < m
        · rw [if_neg (by omega)]
          by_cases hb : b1 / 64 = 2
          · rw [lowF_one _ _ _ hb, lowF, if_neg (by omega)]
            obtain ⟨c, hc⟩ : ∃ c, c = b0 % 32 * 64 + b1 % 64 := ⟨_, rfl⟩
            have ec : (((b0 - 192) * 64 ^ (2 - 1) : Nat) : Int) + (64 * 0 + (b1 % 64 : Nat)) = (c : Int) := by rw [show 64 ^ (2 - 1) = 64 from rfl]; omega
            rw [ec]
            by_cases hg : c ≥ 128
            · have hd : Lib.decodeN m b0 b1 b2 b3 = (c, 2) := by unfold Lib.decodeN; rw [if_neg k1, if_pos (by omega), ← hc, if_pos hg]
              rw [hd]
              exact uR_fin (putLen2 (by omega) (by omega)) (.inl (by decide))
            · have hd : Lib.decodeN m b0 b1 b2 b3 = (65533, 1) := by unfold Lib.decodeN; rw [if_neg k1, if_pos (by omega), ← hc, if_neg hg]
              rw [hd, uR_bad]
              exact rFin_no (.inr (by rw [putLen1 (by omega)]; decide))
          · rw [lowF_bad _ _ _ hb h1, if_pos (by decide)]
            have hd : Lib.decodeN m b0 b1 b2 b3 = (65533, 1) := by unfold Lib.decodeN; rw [if_neg k1, if_neg (by omega), if_neg (by omega), if_neg (by omega)]
            rw [hd, uR_bad]
        · rw [if_pos (by omega)]
          have hd : Lib.decodeN m b0 b1 b2 b3 = (65533, 1) := by unfold Lib.decodeN; rw [if_neg k1, if_neg (by omega), if_neg (by omega), if_neg (by omega)]
          rw [hd, uR_bad]
      · by_cases k4 : b0 < 240
        · have hl : lead b0 = (3, b0 - 224) := by unfold lead; rw [if_neg (by omega), if_pos (by omega)]
          rw [hl]
          dsimp only
          rw [if_neg (by omega), e3]
          by_cases hm : 2 < m ∧ b1 / 64 = 2 ∧ b2 / 64 = 2
          · rw [if_neg (by omega), lowF_one _ _ _ hm.2.1, lowF_one _ _ _ hm.2.2, lowF, if_neg (by omega)]
            obtain ⟨c, hc⟩ : ∃ c, c = b0 % 16 * 4096 + b1 % 64 * 64 + b2 % 64 := ⟨_, rfl⟩
            have ec : (((b0 - 224) * 64 ^ (3 - 1) : Nat) : Int) + (64 * (64 * 0 + (b1 % 64 : Nat)) + (b2 % 64 : Nat)) = (c : Int) := by rw [show 64 ^ (3 - 1) = 4096 from rfl]; omega
            rw [ec]
            by_cases hg : c ≥ 2048 ∧ (c < 55296 ∨ (57344 ≤ c ∧ c ≤ 1114111))
            · have hd : Lib.decodeN m b0 b1 b2 b3 = (c, 3) := by unfold Lib.decodeN; rw [if_neg k1, if_neg (by omega), if_pos (by omega), ← hc, if_pos hg]
              rw [hd]
              exact uR_fin (putLen3 (by omega) (by omega)) (.inl (by decide))
            · have hd : Lib.decodeN m b0 b1 b2 b3 = (65533, 1) := by unfold Lib.decodeN; rw [if_neg k1, if_neg (by omega), if_pos (by omega), ← hc, if_neg hg]
              rw [hd, uR_bad]
              by_cases hs : c < 2048
              · refine rFin_no (.inr ?_)
                by_cases h7 : c < 128
                · rw [putLen1 (by omega)]; decide
                · rw [putLen2 (by omega) (by omega)]; decide
              · exact rFin_no (.inl (fine_sur (.inl (by omega))))
          · have hd : Lib.decodeN m b0 b1 b2 b3 = (65533, 1) := by unfold Lib.decodeN; rw [if_neg k1, if_neg (by omega), if_neg (by omega), if_neg (by omega)]
            rw [hd, uR_bad]
            by_cases hm2 : m < 3
            · rw [if_pos hm2]
            · rw [if_neg hm2]
              by_cases hb : b1 / 64 = 2
              · rw [lowF_one _ _ _ hb, lowF_bad _ _ _ (by omega) h2, if_pos (by decide)]
              · rw [lowF_bad _ _ _ hb h1, if_pos (by decide)]
        · have hl : lead b0 = (4, b0 - 240) := by unfold lead; rw [if_pos (by omega)]
          rw [hl]
          dsimp only
          rw [if_neg (by omega), e4]
          by_cases hm : 3 < m ∧ b1 / 64 = 2 ∧ b2 / 64 = 2 ∧ b3 / 64 = 2
          · rw [if_neg (by omega), lowF_one _ _ _ hm.2.1, lowF_one _ _ _ hm.2.2.1, lowF_one _ _ _ hm.2.2.2, lowF, if_neg (by omega)]
            obtain ⟨c, hc⟩ : ∃ c, c = b0 % 8 * 262144 + b1 % 64 * 4096 + b2 % 64 * 64 + b3 % 64 := ⟨_, rfl⟩
            have ec : (((b0 - 240) * 64 ^ (4 - 1) : Nat) : Int) + (64 * (64 * (64 * 0 + (b1 % 64 : Nat)) + (b2 % 64 : Nat)) + (b3 % 64 : Nat)) = (c : Int) := by rw [show 64 ^ (4 - 1) = 262144 by decide]; omega
            rw [ec]
            by_cases hg : c ≥ 65536 ∧ (c < 55296 ∨ (57344 ≤ c ∧ c ≤ 1114111))
            · have hd : Lib.decodeN m b0 b1 b2 b3 = (c, 4) := by unfold Lib.decodeN; rw [if_neg k1, if_neg (by omega), if_neg (by omega), if_pos (by omega), ← hc, if_pos hg]
              rw [hd]
              exact uR_fin (putLen4 (by omega)) (.inl (by decide))
            · have hd : Lib.decodeN m b0 b1 b2 b3 = (65533, 1) := by unfold Lib.decodeN; rw [if_neg k1, if_neg (by omega), if_neg (by omega), if_pos (by omega), ← hc, if_neg hg]
              rw [hd, uR_bad]
              by_cases hs : c < 65536
              · refine rFin_no (.inr ?_)
                by_cases h7 : c < 128
                · rw [putLen1 (by omega)]; decide
                · by_cases h8 : c < 2048
                  · rw [putLen2 (by omega) (by omega)]; decide
                  · rw [putLen3 (by omega) (by omega)]; decide
              · exact rFin_no (.inl (fine_sur (.inr (by omega))))
          · have hd : Lib.decodeN m b0 b1 b2 b3 = (65533, 1) := by unfold Lib.decodeN; rw [if_neg k1, if_neg (by omega), if_neg (by omega), if_neg (by omega)]
            rw [hd, uR_bad]
            by_cases hm2 : m < 4
            · rw [if_pos hm2]
            · rw [if_neg hm2]
              by_cases hb : b1 / 64 = 2
              · by_cases hb2 : b2 / 64 = 2
                · rw [lowF_one _ _ _ hb, lowF_one _ _ _ hb2, lowF_bad _ _ _ (by omega) h3, if_pos (by decide)]
                · rw [lowF_one _ _ _ hb, lowF_bad _ _ _ hb2 h2, if_pos (by decide)]
              · rw [lowF_bad _ _ _ hb h1, if_pos (by decide)]

/-- a character of a text, by the document and by the program -/
theorem rRune_at (s : ByteArray) (i : Nat) (h : i < s.size) : rRune (s.extract i s.size) = (((uRune s i).1 : Int), (uRune s i).2.1) := by
  rw [rRune_law _ (by simp; omega), Lib.tail_decode, Nat.add_zero]
  unfold uR uRune
  split <;> rfl
end Go.Proofs.YtainigjbjfpoaaaGreatDoor

namespace Go.Proofs.YtainigjbjfpoaaaGreatDoor
open Go.RowKit

set_option maxRecDepth 100000 in
set_option maxHeartbeats 4000000 in
theorem rrune0_calls (s : ByteArray) (b o cap : Nat) (w : World) (hs : 0 < s.size) (hz : s.size ≤ maxStr) (hl : (128 ≤ (s.get! 0).toNat ∧ (s.get! 0).toNat < 192) ∨ 248 ≤ (s.get! 0).toNat) (hp : ∀ j, j < s.size → w.cell? ⟨b, o + j, none⟩ = some (.int .u8 (s.get! j).toNat)) :
    Calls Tryz.prog 151 #[.slice (some ⟨b, o, none⟩) s.size cap] w fun e w' => e = .returned (.tuple #[.int .i64 (rRune s).1, .int .i64 (rRune s).2]) ∧ Below w.heap.size w w' := by
  have hlead : lead (s.get! 0).toNat = (0, 0) := by
    have h0 := (s.get! 0).toNat_lt
    unfold lead
    rw [if_neg (by omega), if_neg (by omega), if_neg (by omega), if_pos (by omega)]
  have HR := As.mk (show rRune s = (0, 0) by rw [rRune, hlead]; rfl)
  have h0 := hp 0 hs
  rw [Nat.add_zero] at h0
  have hz1 : s.size ≤ 1073741824 := hz
  have hb0 := (s.get! 0).toNat_lt
  clear hp hlead
  generalize (s.get! 0).toNat = x at *
  rcases hl with ⟨h1, h2⟩ | h1
  all_goals
    go_enter Tryz.func151, Tryz.ntmps151
    go_wp2_with fail
    go_ret2
    exact ⟨by rw [HR.out]; rfl, Below.refl _ _⟩

/-- tipstaveref01.Rune at a place of a text -/
theorem rrune_calls (s : ByteArray) (i b cap : Nat) (w : World) (hi : i < s.size) (hz : s.size ≤ maxStr) (hc : s.size - i ≤ cap) (hp : ∀ j, j < s.size → w.cell? ⟨b, j, none⟩ = some (.int .u8 (s.get! j).toNat)) :
    Calls Tryz.prog 151 #[.slice (some ⟨b, i, none⟩) (s.size - i) cap] w fun e w' => e = .returned (.tuple #[.int .i64 (uRune s i).1, .int .i64 (uRune s i).2.1]) ∧ Below w.heap.size w w' := by
  have hsz : (s.extract i s.size).size = s.size - i := by simp
  have hq : ∀ j, j < (s.extract i s.size).size → w.cell? ⟨b, i + j, none⟩ = some (.int .u8 ((s.extract i s.size).get! j).toNat) := fun j hj => by
    rw [Lib.tail_get!]
    exact hp (i + j) (by omega)
  have h1 : 0 < (s.extract i s.size).size := by omega
  have h2 : (s.extract i s.size).size ≤ maxStr := by omega
  have h3 : (s.extract i s.size).size ≤ cap := by omega
  have h0 := ((s.extract i s.size).get! 0).toNat_lt
  have key : Calls Tryz.prog 151 #[.slice (some ⟨b, i, none⟩) (s.extract i s.size).size cap] w fun e w' => e = .returned (.tuple #[.int .i64 (rRune (s.extract i s.size)).1, .int .i64 (rRune (s.extract i s.size)).2]) ∧ Below w.heap.size w w' := by
    by_cases k1 : ((s.extract i s.size).get! 0).toNat < 128
    · exact rrune1_calls _ b i cap w h1 h2 h3 ⟨Nat.zero_le _, k1⟩ hq
    · by_cases k2 : ((s.extract i s.size).get! 0).toNat < 192 ∨ 248 ≤ ((s.extract i s.size).get! 0).toNat
      · exact rrune0_calls _ b i cap w h1 h2 (by omega) hq
      · by_cases k3 : ((s.extract i s.size).get! 0).toNat < 224
        · exact rrune2_calls _ b i cap w h1 h2 h3 (by omega) hq
        · by_cases k4 : ((s.extract i s.size).get! 0).toNat < 240
          · exact rrune3_calls _ b i cap w h1 h2 h3 (by omega) hq
          · exact rrune4_calls _ b i cap w h1 h2 h3 (by omega) hq
  rw [rRune_at s i hi, hsz] at key
  exact key

/-- a text's characters from a place on; none: it isn't right -/
def charsFrom (s : ByteArray) : Nat → Nat → Option (List Int)
  | 0, _ => some []
  | k + 1, i => if i < s.size then (if (uRune s i).2.1 = 0 then none else (charsFrom s k (i + (uRune s i).2.1)).map (((uRune s i).1 : Int) :: ·)) else some []
def chars (s : ByteArray) : Option (List Int) := charsFrom s s.size 0
theorem charsFrom_end (s : ByteArray) (k i : Nat) (h : ¬ i < s.size) : charsFrom s k i = some [] := by
  cases k with
  | zero => rfl
  | succ k => simp only [charsFrom, if_neg h]
theorem decodeN_fits (m b0 b1 b2 b3 : Nat) (h : 0 < m) : (Lib.decodeN m b0 b1 b2 b3).2 ≤ m := by
  unfold Lib.decodeN
  repeat' split
  all_goals (dsimp only; omega)
theorem uRune_fits (s : ByteArray) (i : Nat) (h : i < s.size) : i + (uRune s i).2.1 ≤ s.size := by
  have h1 := decodeN_fits (s.size - i) (s.get! i).toNat (s.get! (i + 1)).toNat (s.get! (i + 2)).toNat (s.get! (i + 3)).toNat (by omega)
  rw [← Lib.decode_at] at h1
  unfold uRune
  split
  · dsimp only; omega
  · dsimp only; omega
theorem infoInt : (Tryz.prog.info? 3).map (fun i => (i.zero, i.size, i.bytes)) = some (some (.int .i64 0), 1, 8) := by kernel_rfl
theorem ownsRow_mono {W : World} {B C e size n : Nat} {v : Value} {xs : List Value} (h : W.ownsRow B e size v n xs) (hBC : C ≤ B) : W.ownsRow C e size v n xs := by
  refine ⟨h.1, ?_⟩
  rcases h.2 with h0 | ⟨g, cap, cur, e, hb, r⟩
  · exact .inl h0
  · exact .inr ⟨g, cap, cur, e, Nat.le_trans hBC hb, r⟩
theorem chars_step {w w3 w1 : World} {u : Value} {e size n : Nat} {xs : List Value} {o : Obj} {s : ByteArray} (hB3 : Below w.heap.size w w3) (hs3 : w.heap.size < w3.heap.size) (hrow3 : w3.ownsRow (w.heap.size + 1) e size u n xs)
    (hp3 : ∀ (j : Nat), j < s.size → w3.cell? ⟨w.heap.size, j, none⟩ = some (.int .u8 (s.get! j).toNat)) (hg : (w3.alloc o).grownBy w1 u.ownBlock) :
    Below w.heap.size w w1 ∧ w.heap.size < w1.heap.size ∧ ∀ (j : Nat), j < s.size → w1.cell? ⟨w.heap.size, j, none⟩ = some (.int .u8 (s.get! j).toNat) := by
  have hl : ∀ k, u.ownBlock = some k → w.heap.size + 1 ≤ k := fun k hk => (hrow3.lt k hk).1
  have hB4 := hB3.alloc hB3.size o
  refine ⟨hB4.grown hg hB4.size (fun j hj => by have := hl j hj; omega), Nat.lt_of_lt_of_le (by simp; omega) hg.size, fun j hj => ?_⟩
  refine hg.cell ?_ (fun e => by have := hl _ e.symm; simp at this; omega)
  rw [World.cell?_of_block (Below.heap_alloc w3 o w.heap.size hs3)]
  exact hp3 j hj
theorem own_below {W W' : World} {B e size n : Nat} {v : Value} {xs : List Value} (h : W.ownsRow B e size v n xs) (hb : Below W.heap.size W W') : W'.ownsRow B e size v n xs :=
  h.kept (row := none) ⟨hb.os, hb.tape, hb.output, hb.size, fun k hk _ => hb.block k hk⟩ (Classical.em _)

set_option maxRecDepth 100000 in
set_option maxHeartbeats 1000000 in
theorem chars_calls (s : ByteArray) (w : World) (hz : s.size ≤ maxStr) :
    Calls Tryz.prog 133 #[.string s] w fun e w' => (chars s = none ∧ e = .returned (.tuple #[.slice none 0 0, .bool false]) ∨ ∃ l v, chars s = some l ∧ e = .returned (.tuple #[v, .bool true]) ∧ w'.ownsRow w.heap.size 3 1 v l.length (l.map (.int .i64))) ∧ Below w.heap.size w w' := by
  have hz1 : s.size ≤ 1073741824 := hz
  obtain ⟨i0, hi, hz0, hz1', hz2⟩ := info_parts infoInt
  have hcv := run_bytes_of_string (P := Tryz.prog) w 9 162 5 s Tryz.underlying9 Tryz.underlying162 Tryz.underlying5
  go_enter Tryz.func133, Tryz.ntmps133
  go_wp2_with fail
  clear hcv
  have hC := grownCap_ge w s.size 0 5
  generalize grownCap w s.size 0 5 = C at *
  obtain ⟨W0, hW0⟩ : ∃ W0, W0 = (w.alloc (Obj.cells (bytesRow s C) 5 ((bytesRow s C).size, (bytesRow s C).size + 1))).drew := ⟨_, rfl⟩
  have hB0 : Below w.heap.size w W0 := by rw [hW0]; exact pw_below_drewN' ((Below.refl _ w).alloc (Nat.le_refl _) _) 1
  have hp0 : ∀ j, j < s.size → W0.cell? ⟨w.heap.size, j, none⟩ = some (.int .u8 (s.get! j).toNat) := fun j hj => by
    rw [hW0]
    have : (w.alloc (Obj.cells (bytesRow s C) 5 ((bytesRow s C).size, (bytesRow s C).size + 1))).drew.cell? ⟨w.heap.size, j, none⟩ = (w.alloc (Obj.cells (bytesRow s C) 5 ((bytesRow s C).size, (bytesRow s C).size + 1))).cell? ⟨w.heap.size, j, none⟩ := rfl
    rw [this, World.cell?_alloc_mark]
    exact bytesRow_at s C j hj
  have hsz0 : W0.heap.size = w.heap.size + 1 := by rw [hW0]; simp [World.drew]
  rw [← hW0]
  clear hW0
  have HB0 := As.mk hB0
  have HP0 := As.mk hp0
  clear hB0 hp0
  go_loopw [4, 5] (fun v q wr => ∃ (i k o m c : Nat) (xs : List Int), q = .slice (some ⟨w.heap.size, o, none⟩) m c ∧ As (m = s.size - i) ∧ m ≤ c ∧ As (i < s.size → o = i) ∧ i ≤ s.size ∧ m ≤ 1073741824 ∧
      As (wr.ownsRow (w.heap.size + 1) 3 1 v xs.length (xs.map (.int .i64))) ∧ As (xs.length ≤ i) ∧ As (Below w.heap.size w wr) ∧ As (w.heap.size < wr.heap.size) ∧ As (∀ j, j < s.size → wr.cell? ⟨w.heap.size, j, none⟩ = some (.int .u8 (s.get! j).toNat)) ∧ As (chars s = (charsFrom s k i).map (xs ++ ·)) ∧ As (s.size - i ≤ k)) (fun _ q _ => match q with | .slice _ m _ => m | _ => 0)
  case atStart => exact ⟨0, s.size, 0, s.size, C, [], rfl, ⟨by omega⟩, hC, ⟨fun _ => rfl⟩, Nat.zero_le _, hz1, ⟨World.ownsRow_nil _ _ _ _⟩, ⟨Nat.le_refl _⟩, HB0, ⟨by omega⟩, HP0, ⟨by unfold chars; cases charsFrom s s.size 0 <;> rfl⟩, ⟨by omega⟩⟩
  case round =>
    obtain ⟨i, k, o, m, c, xs, rfl, hm, hmc, ho, his, hmz, hrow, hxl, hBr, hlt0, hpr, hch, hk⟩ := hrel
    by_cases hlt : 0 < m
    · have hi1 : i < s.size := by have := hm.out; omega
      obtain rfl : o = i := ho.out hi1
      have hR := rrune_calls s o w.heap.size c wr hi1 hz (by have := hm.out; omega) hpr.out
      rw [← hm.out] at hR
      have HR := As.mk hR
      have hfit := uRune_fits s o hi1
      have hk1 := hk.out
      obtain ⟨k, rfl⟩ : ∃ k', k = k' + 1 := ⟨k - 1, by omega⟩
      have hch1 := hch.out
      rw [charsFrom, if_pos hi1] at hch1
      clear hR hch hk
      by_cases hn0 : (uRune s o).2.1 = 0
      · rw [if_pos hn0] at hch1
        have HCH := As.mk (show chars s = none by rw [hch1]; rfl)
        rw [hn0] at HR
        clear hch1 hn0 hfit
        go_wp2_with (go_at_call 151; refine HR.out.mono ?_; rintro e w3 ⟨rfl, hb3⟩)
        go_ret2
        exact ⟨.inl ⟨HCH.out, rfl⟩, hBr.out.trans (hb3.mono hBr.out.size)⟩
      · rw [if_neg hn0] at hch1
        have HCH := As.mk hch1
        clear hch1
        generalize (uRune s o).1 = a at *
        generalize (uRune s o).2.1 = n at *
        have hnb : ((n : Int) == 0) = false := beq_eq_false_iff_ne.2 (by omega)
        have HN0 := As.mk hn0
        have hnm : n ≤ m := by have := hm.out; omega
        have hnc : n ≤ c := by omega
        have hnmI : (n : Int) ≤ (m : Int) := by omega
        clear hn0
        rcases Decidable.em (c = n) with rfl | hcn
        all_goals
          go_wp2_with (first
            | (go_at_call 151; refine HR.out.mono ?_; rintro e w3 ⟨rfl, hb3⟩; have hB3 := As.mk (hBr.out.trans (hb3.mono hBr.out.size)); have hrow3 := As.mk (own_below hrow.out hb3); have hp3 := As.mk (fun j (hj : j < s.size) => (bcell hb3 w.heap.size j hlt0.out).trans (hpr.out j hj)); have hs3 := As.mk (Nat.lt_of_lt_of_le hlt0.out hb3.size); clear hb3)
            | (at_builtin; refine wpList_append_own _ rfl _ _ 148 rfl (w.heap.size + 1) 3 i0 (.int .i64 0) 1 8 Tryz.underlying148 hi hz0 hz1' hz2 rfl (by decide) _ _ _ rfl (hrow3.out.alloc _) ⟨w3.heap.size, 0, none⟩ 1 1 [.int .i64 a] rfl rfl (cell_one_new _ _ _) (by simp [Value.oneCell']) (by unfold maxLen; have := hxl.out; omega) (by have := hxl.out; omega) (by have := hs3.out; simp; omega) ?_; intro v' w1 hown' hgrow _))
          obtain ⟨hB4, hs4, hp4⟩ := chars_step hB3.out hs3.out hrow3.out hp3.out hgrow
          refine ⟨⟨_, k, _, _, _, xs ++ [(a : Int)], rfl, ⟨?_⟩, ?_, ⟨fun h => ?_⟩, hfit, by omega, ⟨by simpa using hown'⟩, ⟨?_⟩, ⟨hB4⟩, ⟨hs4⟩, ⟨hp4⟩, ⟨?_⟩, ⟨?_⟩⟩, ?_⟩
          · have := hm.out; omega
          · omega
          · have := hm.out; omega
          · have := hxl.out; have := HN0.out; simp; omega
          · rw [HCH.out, Option.map_map]; congr 1; funext l; simp
          · have := HN0.out; omega
          · first
              | (show 0 < m; exact hlt)
              | (have := HN0.out; show m - n < m; omega)
    · obtain rfl : m = 0 := by omega
      have hi1 : ¬ i < s.size := by have := hm.out; omega
      have HCH := As.mk (show chars s = some xs by rw [hch.out, charsFrom_end s k i hi1]; simp)
      clear hch
      go_wp2_with fail
      go_ret2
      exact ⟨.inr ⟨xs, _, HCH.out, rfl, ownsRow_mono hrow.out (Nat.le_succ _)⟩, hBr.out⟩
end Go.Proofs.YtainigjbjfpoaaaGreatDoor
