/- bridge: Base, Ports, Peers, Segment, Unbind. -/
import Derived.Test.YtmhfpiincnadiaaBrM
namespace Go.Proofs.Ytmhfpiincnadiaa
open Go.RowKit
open Go.ChangeMaps (setBlock)
set_option linter.unusedSimpArgs false
set_option linter.unusedVariables false

theorem int_law : KeyLaw Try.prog 3 i64 := keyLaw_int Try.underlying3

theorem bound_look {mb : Nat} {bound : List (Int × Int)} {es : Array MapEntry} {clock : Nat} (hm : IsMap i64 es clock (bound.map fun x => (x.1, i64 x.2))) (port : Int) (W : World) (hW : blk W mb = some (.map es clock)) :
    (Instr.lookup 103 (.map (some mb)) (i64 port) true).run Try.prog W = .ok (.tuple #[i64 ((look port bound).getD 0), .bool (look port bound).isSome]) W := by
  rw [run_lookup_ok int_law Try.underlying103 hm hW port (i64 0) Try.zeroValue3, look_map]
  cases look port bound <;> rfl

section
variable {w : World} {p mb : Nat} {S : Nat → SegR} {bound : List (Int × Int)} (h : BridgeIs w p mb S bound)
include h

set_option maxRecDepth 100000 in
set_option maxHeartbeats 1000000 in
theorem base_in {k : Nat} (hk : k < 8) : Calls Try.prog 16 #[ptr p, i64 k] w fun r w' => r = .returned (ptr (S k).p) ∧ w = w' := by
  obtain ⟨c0, c1, c2⟩ := cells_3 (h.seg k hk).seg
  have H := Lib.hid (segment_in hk (bridge_cell h hk))
  clear h
  go_enter Try.func16, Try.ntmps16
  go_wp2_with (go_at_call 37; refine H.out.mono ?_; rintro r w' ⟨rfl, rfl⟩)
  go_ret
  exact ⟨rfl, rfl⟩

set_option maxRecDepth 100000 in
set_option maxHeartbeats 1000000 in
theorem ports_any {k : Nat} (hk : k < 8) (hl : (S k).m.ports.length ≤ 900) : Calls Try.prog 22 #[ptr p, i64 k] w fun r w' => ∃ v, r = .returned v ∧ Ints w' w.heap.size v (S k).m.ports ∧ Mod [] w w' := by
  obtain ⟨c0, c1, c2⟩ := cells_3 (h.seg k hk).seg
  have H := Lib.hid (segment_in hk (bridge_cell h hk))
  have HC := Lib.hid (clone_any (h.seg k hk).ports (by omega))
  clear h
  go_enter Try.func22, Try.ntmps22
  go_wp2_with (first
    | (go_at_call 37; refine H.out.mono ?_; rintro r w' ⟨rfl, rfl⟩)
    | (go_at_call 45; refine HC.out.mono ?_; rintro r w' ⟨v, rfl, hv, hm⟩))
  go_ret
  exact ⟨v, rfl, hv, hm⟩

set_option maxRecDepth 100000 in
set_option maxHeartbeats 1000000 in
theorem peers_any {k : Nat} (hk : k < 8) (hl : (S k).m.peers.length ≤ 900) : Calls Try.prog 24 #[ptr p, i64 k] w fun r w' => ∃ v, r = .returned v ∧ Ints w' w.heap.size v (S k).m.peers ∧ Mod [] w w' := by
  obtain ⟨c0, c1, c2⟩ := cells_3 (h.seg k hk).seg
  have H := Lib.hid (segment_in hk (bridge_cell h hk))
  have HC := Lib.hid (clone_any (h.seg k hk).peers (by omega))
  clear h
  go_enter Try.func24, Try.ntmps24
  go_wp2_with (first
    | (go_at_call 37; refine H.out.mono ?_; rintro r w' ⟨rfl, rfl⟩)
    | (go_at_call 45; refine HC.out.mono ?_; rintro r w' ⟨v, rfl, hv, hm⟩))
  go_ret
  exact ⟨v, rfl, hv, hm⟩

set_option maxRecDepth 100000 in
set_option maxHeartbeats 1000000 in
theorem segmentOf_any (port : Int) : Calls Try.prog 19 #[ptr p, i64 port] w fun r w' => r = .returned (.tuple #[i64 ((look port bound).getD 0), .bool (look port bound).isSome]) ∧ w = w' := by
  obtain ⟨es, clock, hb, hm⟩ := h.map
  have hl := bound_look (mb := mb) hm port
  have c8 : w.cell? ⟨p, 8, none⟩ = some (.map (some mb)) := by rw [cell_of h.top]; rfl
  generalize (look port bound).getD 0 = a at hl ⊢
  generalize (look port bound).isSome = b at hl ⊢
  clear hm h
  go_enter Try.func19, Try.ntmps19
  go_wp2
  go_ret2
  exact ⟨rfl, rfl⟩
end
end Go.Proofs.Ytmhfpiincnadiaa
