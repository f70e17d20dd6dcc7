/- expr.own, all kinds. -/
import Derived.Test.YtainigjbjfpoaaaGreatDoorCOwn2
namespace Go.Proofs.YtainigjbjfpoaaaGreatDoor
open Go.RowKit Go.Shelf Go.Maps

theorem own_calls (P : Pers) (G : Glob P) (b n : Nat) (f : Int → Option Value) (hf : RowsOk P f) (x : Ex) (cs : List Value) (test : Bool) (w : World) (hx : Ex.Rep P x cs) (hs : Sat P w) (hm : IMap 139 158 w b n f) :
    Calls Tryz.prog 146 #[.map (some b), .agg cs.toArray, .bool test] w fun e w' => e = .returned (.int .i64 (ownErr x test)) ∧ Below w.heap.size w w' := by
  by_cases hk : x.k < 0 ∨ 20 ≤ x.k
  · exact own_none P b n f hf x cs test w hx hm hk
  have hk : 0 ≤ x.k ∧ x.k < 20 := by omega
  obtain ⟨A2, c2, A3, c3, rfl, l2, r2, l3, r3, z1, zk⟩ := hx.open
  have hL := (hm.alloc (.cells #[.int .i64 x.k, .string x.s, .slice A2 x.ns.length c2, .slice A3 x.l.length c3] 25)).look (Tryz.zeroValue158 _) zk.wf
  obtain ⟨v, hv, g, cap, rfl, hen, hcall⟩ := hf.there x.k.toNat (by omega)
  rw [show ((x.k.toNat : Nat) : Int) = x.k by omega] at hv hcall
  rw [hv] at hL
  have HR := As.mk (fun w (h : Sat P w) => hcall x.s w z1 h)
  have HN := As.mk (fun w (h : Sat P w) => right_calls P G x.s w z1 h)
  have HC : As (∀ w, Sat P w → Calls Tryz.prog 95 #[.slice A2 x.ns.length c2, .func (.func 164) #[] #[]] w fun e w' => e = .returned (.bool (bad x.ns)) ∧ Below w.heap.size w w') :=
    ⟨fun w h => containsFuncStr_calls P (fun s => !right s) 164 #[] A2 c2 x.ns w r2 h (enters_of Tryz.func164 (by kernel_rfl) rfl) (fun y w' _ hy hs' => own1_calls P G y w' hy hs')⟩
  have hO := As.mk (ownErr.eq_1 x test)
  have hl1 := r2.len
  have hl2 := r3.len
  have hT := As.mk (twice.eq_1 x.ns)
  rcases kinds x.k hk with h | h | h | h | h | h | h | h
  · exact own_c17 P G x test w b g cap A2 A3 c2 c3 _ _ _ _ _ _ _ z1 hL hen HR HN HC ⟨hs⟩ ⟨r2⟩ hl1 hl2 hT hO hk h
  · exact own_c15 P G x test w b g cap A2 A3 c2 c3 _ _ _ _ _ _ _ z1 hL hen HR HN HC ⟨hs⟩ ⟨r2⟩ hl1 hl2 hT hO hk h
  · exact own_c10 P G x test w b g cap A2 A3 c2 c3 _ _ _ _ _ _ _ z1 hL hen HR HN HC ⟨hs⟩ ⟨r2⟩ hl1 hl2 hT hO hk h
  · exact own_c16 P G x test w b g cap A2 A3 c2 c3 _ _ _ _ _ _ _ z1 hL hen HR HN HC ⟨hs⟩ ⟨r2⟩ hl1 hl2 hT hO hk h
  · exact own_c19 P G x test w b g cap A2 A3 c2 c3 _ _ _ _ _ _ _ z1 hL hen HR HN HC ⟨hs⟩ ⟨r2⟩ hl1 hl2 hT hO hk h
  · exact own_c1 P G x test w b g cap A2 A3 c2 c3 _ _ _ _ _ _ _ z1 hL hen HR HN HC ⟨hs⟩ ⟨r2⟩ hl1 hl2 hT hO hk h
  · exact own_nm P G x test w b g cap A2 A3 c2 c3 _ _ _ _ _ _ _ z1 hL hen HR HN HC ⟨hs⟩ ⟨r2⟩ hl1 hl2 hT hO hk h
  · exact own_no P G x test w b g cap A2 A3 c2 c3 _ _ _ _ _ _ _ z1 hL hen HR HN HC ⟨hs⟩ ⟨r2⟩ hl1 hl2 hT hO hk h

/-- is one deeper than so much? -/
def deeper : Nat → Ex → Bool
  | 0, _ => true
  | n + 1, x => x.l.any (deeper n)

set_option maxHeartbeats 1000000 in
theorem exDeep_calls : ∀ (n : Nat) (P : Pers) (x : Ex) (cs : List Value) (w : World), n ≤ 1000 → Ex.Rep P x cs → Sat P w →
    Calls Tryz.prog 123 #[.agg cs.toArray, .int .i64 n] w fun e w' => e = .returned (.bool (deeper n x)) ∧ Below w.heap.size w w' := by
  intro n
  induction n with
  | zero =>
    intro P x cs w hn hx hs
    obtain ⟨A2, c2, A3, c3, rfl, l2, r2, l3, r3, z1, zk⟩ := hx.open
    go_enter Tryz.func123, Tryz.ntmps123
    go_wp2
    go_ret
    exact ⟨rfl, ((Below.refl _ _).alloc (Nat.le_refl _) _).alloc (by simp) _⟩
  | succ n ih =>
    intro P x cs w hn hx hs
    obtain ⟨A2, c2, A3, c3, rfl, l2, r2, l3, r3, z1, zk⟩ := hx.open
    have hB : Below w.heap.size w ((w.alloc (.cells #[.int .i64 x.k, .string x.s, .slice A2 x.ns.length c2, .slice A3 x.l.length c3] 25)).alloc (.cells #[.int .i64 (n + 1 : Nat)] 3)) := ((Below.refl _ _).alloc (Nat.le_refl _) _).alloc (by simp) _
    have hQs : Sat (P.put (w.heap.size + 1) 0 [.int .i64 (n + 1 : Nat)]) ((w.alloc (.cells #[.int .i64 x.k, .string x.s, .slice A2 x.ns.length c2, .slice A3 x.l.length c3] 25)).alloc (.cells #[.int .i64 (n + 1 : Nat)] 3)) :=
      Sat.put ((hs.alloc _).alloc _) fun j v hj => by rw [Nat.zero_add, cell_last]; simpa using hj
    have hpq : PLe P (P.put (w.heap.size + 1) 0 [.int .i64 (n + 1 : Nat)]) := Pers.le_put _ _ _ _
    have hcl : ∀ (y : Ex) (cy : List Value) (w' : World), Ex.Rep (P.put (w.heap.size + 1) 0 [.int .i64 (n + 1 : Nat)]) y cy → Sat (P.put (w.heap.size + 1) 0 [.int .i64 (n + 1 : Nat)]) w' → Calls Tryz.prog 145 #[.agg cy.toArray, .pointer (some ⟨w.heap.size + 1, 0, none⟩)] w' fun e w'' => e = .returned (.bool (deeper n y)) ∧ Below w'.heap.size w' w'' := by
      intro y cy w' hy hs'
      obtain ⟨B2, d2, B3, d3, rfl, _⟩ := hy.open
      have hc : w'.cell? ⟨w.heap.size + 1, 0, none⟩ = some (.int .i64 (n + 1 : Nat)) := hs' _ _ (by simpa using Pers.put_at P (w.heap.size + 1) 0 [.int .i64 (n + 1 : Nat)] (j := 0) rfl)
      have IH := As.mk (fun W h => ih _ y _ W (by omega) hy h)
      have hsP := As.mk hs'
      have hlt : w.heap.size + 1 < w'.heap.size := cell_block hc
      clear hs hs' hQs hB hx
      go_enter Tryz.func145, Tryz.ntmps145
      go_wp2_with (go_at_call 123; refine (IH.out _ (hsP.out.alloc _)).mono ?_; rintro e w2 ⟨rfl, hb⟩)
      go_ret
      exact ⟨rfl, Below.then ((Below.refl _ _).alloc (Nat.le_refl _) _) hb⟩
    have C := As.mk (containsFuncEx_calls _ (deeper n) 145 #[.pointer (some ⟨w.heap.size + 1, 0, none⟩)] A3 c3 x.l _ (Exs.mono hpq r3) hQs (enters_of Tryz.func145 (by kernel_rfl) rfl) (fun y cy w' _ hy hs' => hcl y cy w' hy hs'))
    clear hcl hQs hx hs
    go_enter Tryz.func123, Tryz.ntmps123
    go_wp2_with (go_at_call 144; refine C.out.mono ?_; rintro e w2 ⟨rfl, hb⟩)
    go_ret
    exact ⟨rfl, Below.then hB hb⟩
end Go.Proofs.YtainigjbjfpoaaaGreatDoor
