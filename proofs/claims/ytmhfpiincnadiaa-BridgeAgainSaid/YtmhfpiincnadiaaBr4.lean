/- bridge: Bind. -/
import Derived.Test.YtmhfpiincnadiaaBr3
namespace Go.Proofs.Ytmhfpiincnadiaa
open Go.RowKit
open Go.ChangeMaps (setBlock)
set_option linter.unusedSimpArgs false
set_option linter.unusedVariables false

theorem brFoot_setF {p mb k n : Nat} {S : Nat → SegR} {x' : SegR} (hk : k < 8) (hf : ∀ b, b ∈ x'.foot → b ∈ (S k).foot ∨ n ≤ b) : ∀ b, b ∈ brFoot p mb (setF S k x') → b ∈ brFoot p mb S ∨ n ≤ b := by
  intro b hb
  rcases mem_brFoot.1 hb with rfl | rfl | ⟨i, hi, hb⟩
  · exact .inl (mem_brFoot.2 (.inl rfl))
  · exact .inl (mem_brFoot.2 (.inr (.inl rfl)))
  · by_cases hik : i = k
    · subst hik
      rw [setF_eq] at hb
      exact (hf b hb).imp (fun e => mem_brFoot.2 (.inr (.inr ⟨i, hi, e⟩))) id
    · rw [setF_ne _ _ hik] at hb
      exact .inl (mem_brFoot.2 (.inr (.inr ⟨i, hi, hb⟩)))
theorem work_foot {p mb k : Nat} {S : Nat → SegR} (hk : k < 8) : ∀ b, b ∈ mb :: (S k).s :: (S k).F → b ∈ brFoot p mb S := by
  intro b hb
  rcases List.mem_cons.1 hb with rfl | hb
  · exact mem_brFoot.2 (.inr (.inl rfl))
  · rcases List.mem_cons.1 hb with rfl | hb
    · exact mem_brFoot.2 (.inr (.inr ⟨k, hk, SegR.mem_foot.2 (.inl rfl)⟩))
    · exact mem_brFoot.2 (.inr (.inr ⟨k, hk, SegR.mem_foot.2 (.inr (.inl hb))⟩))

section
variable {w : World} {p mb : Nat} {S : Nat → SegR} {bound : List (Int × Int)} (h : BridgeIs w p mb S bound)
include h

set_option maxRecDepth 100000 in
set_option maxHeartbeats 1000000 in
theorem bind_out {port to : Int} (ht : to < 0 ∨ 8 ≤ to) : Calls Try.prog 20 #[ptr p, i64 port, i64 to] w fun r w' => r = .returned (i64 1) ∧ w = w' := by
  obtain ⟨es, clock, hb, hm⟩ := h.map
  have hl := bound_look (mb := mb) hm port
  have c8 : w.cell? ⟨p, 8, none⟩ = some (.map (some mb)) := by rw [cell_of h.top]; rfl
  have HS := Lib.hid (segment_out (p := p) (w := w) ht)
  clear hm h ht
  generalize (look port bound).getD 0 = va at hl
  generalize (look port bound).isSome = vb at hl
  by_cases h0 : port < 0
  · go_enter Try.func20, Try.ntmps20
    go_wp2_with (go_at_call 37; refine HS.out.mono ?_; rintro r w' ⟨rfl, rfl⟩)
    go_ret
    exact ⟨rfl, rfl⟩
  · go_enter Try.func20, Try.ntmps20
    go_wp2_with (go_at_call 37; refine HS.out.mono ?_; rintro r w' ⟨rfl, rfl⟩)
    go_ret
    exact ⟨rfl, rfl⟩

set_option maxRecDepth 100000 in
set_option maxHeartbeats 1000000 in
theorem bind_neg {port : Int} {k : Nat} (hk : k < 8) (h0 : port < 0) : Calls Try.prog 20 #[ptr p, i64 port, i64 k] w fun r w' => r = .returned (i64 1) ∧ w = w' := by
  obtain ⟨es, clock, hb, hm⟩ := h.map
  have hl := bound_look (mb := mb) hm port
  have c8 : w.cell? ⟨p, 8, none⟩ = some (.map (some mb)) := by rw [cell_of h.top]; rfl
  have HS := Lib.hid (segment_in hk (bridge_cell h hk))
  clear hm h
  generalize (look port bound).getD 0 = va at hl
  generalize (look port bound).isSome = vb at hl
  go_enter Try.func20, Try.ntmps20
  go_wp2_with (go_at_call 37; refine HS.out.mono ?_; rintro r w' ⟨rfl, rfl⟩)
  go_ret
  exact ⟨rfl, rfl⟩

set_option maxRecDepth 100000 in
set_option maxHeartbeats 1000000 in
theorem bind_same {port : Int} {k : Nat} (hk : k < 8) (h0 : 0 ≤ port) (hlk : look port bound = some (k : Int)) : Calls Try.prog 20 #[ptr p, i64 port, i64 k] w fun r w' => r = .returned (i64 0) ∧ w = w' := by
  obtain ⟨es, clock, hb, hm⟩ := h.map
  have hl := bound_look (mb := mb) hm port
  rw [hlk] at hl
  have c8 : w.cell? ⟨p, 8, none⟩ = some (.map (some mb)) := by rw [cell_of h.top]; rfl
  have HS := Lib.hid (segment_in hk (bridge_cell h hk))
  clear hm h
  go_enter Try.func20, Try.ntmps20
  go_wp2_with (go_at_call 37; refine HS.out.mono ?_; rintro r w' ⟨rfl, rfl⟩)
  go_ret
  exact ⟨rfl, rfl⟩

set_option maxRecDepth 100000 in
set_option maxHeartbeats 1000000 in
theorem bind_full {port : Int} {k : Nat} (hk : k < 8) (h0 : 0 ≤ port) (hlk : look port bound = none) (hfull : 16 ≤ bound.length) : Calls Try.prog 20 #[ptr p, i64 port, i64 k] w fun r w' => r = .returned (i64 5) ∧ w = w' := by
  obtain ⟨es, clock, hb, hm⟩ := h.map
  have hl := bound_look (mb := mb) hm port
  rw [hlk] at hl
  have c8 : w.cell? ⟨p, 8, none⟩ = some (.map (some mb)) := by rw [cell_of h.top]; rfl
  have HS := Lib.hid (segment_in hk (bridge_cell h hk))
  have hg : ∀ W : World, blk W mb = some (.map es clock) → (Builtin.len_ #[103] 3 #[.map (some mb)]).run Try.prog W = .ok (.int .i64 (es.size : Int)) W := fun W h => run_len Try.underlying103 _ h
  have hsz : es.size = bound.length := by simpa using congrArg List.length hm.kv
  have hge : 16 ≤ es.size := by omega
  clear hm h hsz
  go_enter Try.func20, Try.ntmps20
  go_wp2_with (go_at_call 37; refine HS.out.mono ?_; rintro r w' ⟨rfl, rfl⟩)
  go_ret
  exact ⟨rfl, rfl⟩

set_option maxRecDepth 100000 in
set_option maxHeartbeats 1000000 in
/-- Bind, where the port is to be bound: what lies ahead of the Unbind, and that; then the map and the row. -/
theorem bind_go {port : Int} {k : Nat} (hk : k < 8) (h0 : 0 ≤ port) (hf : (look port bound = none ∧ bound.length < 16) ∨ (∃ was, look port bound = some was ∧ was ≠ (k : Int)))
    (R : (Nat → SegR) → List (Int × Int) → Prop) (hl9 : (S k).m.ports.length ≤ 800) (hrise : (S k).m.ports.Pairwise (· ≤ ·))
    (hub : Calls Try.prog 21 #[ptr p, i64 port] w fun r w' => (∃ e, r = .returned (i64 e)) ∧ ∃ S1 bound1, R S1 bound1 ∧ S1 k = S k ∧ BridgeIs w' p mb S1 bound1 ∧ Mod (brFoot p mb S) w w' ∧ (∀ b, b ∈ brFoot p mb S1 → b ∈ brFoot p mb S ∨ w.heap.size ≤ b)) :
    Calls Try.prog 20 #[ptr p, i64 port, i64 k] w fun r w' => r = .returned (i64 0) ∧ ∃ S1 bound1 x', R S1 bound1 ∧ S1 k = S k ∧ x'.m = ⟨(S k).m.base, withM port (S k).m.ports, (S k).m.peers⟩ ∧
      BridgeIs w' p mb (setF S1 k x') (upd port (k : Int) bound1) ∧ Mod (brFoot p mb S) w w' ∧ (∀ b, b ∈ brFoot p mb (setF S1 k x') → b ∈ brFoot p mb S ∨ w.heap.size ≤ b) := by
  obtain ⟨es, clock, hb, hm⟩ := h.map
  have hl := bound_look (mb := mb) hm port
  have c8 : w.cell? ⟨p, 8, none⟩ = some (.map (some mb)) := by rw [cell_of h.top]; rfl
  have HS := Lib.hid (segment_in hk (bridge_cell h hk))
  have hg : ∀ W : World, blk W mb = some (.map es clock) → (Builtin.len_ #[103] 3 #[.map (some mb)]).run Try.prog W = .ok (.int .i64 (es.size : Int)) W := fun W h => run_len Try.underlying103 _ h
  have hsz : es.size = bound.length := by simpa using congrArg List.length hm.kv
  have HU := Lib.hid hub
  have HR := Lib.hid hrise
  have tail : ∀ w1 S1 bound1, R S1 bound1 → S1 k = S k → BridgeIs w1 p mb S1 bound1 → Mod (brFoot p mb S) w w1 → (∀ b, b ∈ brFoot p mb S1 → b ∈ brFoot p mb S ∨ w.heap.size ≤ b) →
      ∃ es' clock', (Instr.mapUpdate 103 (.map (some mb)) (i64 port) (i64 k)).run Try.prog w1 = .ok () (setBlock w1 mb (.map es' clock')) ∧ w1.cell? ⟨p, 8, none⟩ = some (.map (some mb)) ∧
        (setBlock w1 mb (.map es' clock')).cell? ⟨(S k).s, 1, none⟩ = some (S k).pv ∧ (S k).s < w1.heap.size ∧
        Calls Try.prog 42 #[(S k).pv, i64 port] (setBlock w1 mb (.map es' clock')) (fun r w2 => ∃ a n c, r = .returned (.slice a n c) ∧ w2.cell? ⟨(S k).s, 1, none⟩ = some (S k).pv ∧ w2.frozen? ⟨(S k).s, 1, none⟩ = false ∧
          ∃ S1 bound1 x', R S1 bound1 ∧ S1 k = S k ∧ x'.m = ⟨(S k).m.base, withM port (S k).m.ports, (S k).m.peers⟩ ∧
            BridgeIs (w2.setCell ⟨(S k).s, 1, none⟩ (.slice a n c)) p mb (setF S1 k x') (upd port (k : Int) bound1) ∧ Mod (brFoot p mb S) w (w2.setCell ⟨(S k).s, 1, none⟩ (.slice a n c)) ∧ (∀ b, b ∈ brFoot p mb (setF S1 k x') → b ∈ brFoot p mb S ∨ w.heap.size ≤ b)) := by
    intro w1 S1 bound1 hR1 hSk h1 hM1 hF1
    obtain ⟨es1, clock1, hb1, hm1⟩ := h1.map
    obtain ⟨es', clock', hu, hm'⟩ := run_update int_law Try.underlying103 hm1 port (i64 (k : Int))
    rw [upd_map] at hm'
    have hml := lt_of hb1
    have hsk : SegIs (setBlock w1 mb (.map es' clock')) (S k) := by
      rw [← hSk]
      exact (h1.seg k hk).keep fun b hb' => heap_setBlock_ne _ _ _ _ (h1.out k hk b hb').2
    have hsw : (S k).s < w1.heap.size := by have := lt_of hsk.seg; rwa [size_setBlock] at this
    refine ⟨es', clock', hu w1 mb hb1, by rw [cell_of h1.top]; rfl, (cells_3 hsk.seg).2.1, hsw, ?_⟩
    refine (with_any hsk.ports (by omega) hrise port).mono ?_
    rintro r w2 ⟨v2, rfl, hv2, hm2⟩
    obtain ⟨a, n, c, rfl⟩ := hv2.form
    have hsl := lt_of hsk.seg
    obtain ⟨hS3, hm3, hf3⟩ := hsk.store1 hm2 hv2
    have hMM : Mod (mb :: (S1 k).s :: (S1 k).F) w1 (w2.setCell ⟨(S k).s, 1, none⟩ (.slice a n c)) := by
      rw [hSk]
      exact (((Mod.refl [mb] w1).setBlock (.inl (by simp)) _).mono (by simp)).trans hm3 (fun b hb => .inl (by simp at hb; simp [hb]))
    have hft : ∀ b, b ∈ ({ S k with pv := .slice a n c, m := { (S k).m with ports := withM port (S k).m.ports } } : SegR).foot → b ∈ (S1 k).foot ∨ w1.heap.size ≤ b := fun b hb => by
      rw [hSk]
      have := hf3 b hb
      rwa [size_setBlock] at this
    refine ⟨a, n, c, rfl, (hm2.cell hsl (by simp) 1).trans (cells_3 hsk.seg).2.1, (hm2.free hsl (by simp) 1).trans (free_of hsk.seg 1), S1, bound1, { S k with pv := .slice a n c, m := { (S k).m with ports := withM port (S k).m.ports } }, hR1, hSk, rfl, ?_, ?_, ?_⟩
    · refine h1.update hk (by rw [hSk]) hS3 hMM ⟨es', clock', hm3.keep (heap_setBlock_at _ _ _ hml) ?_, hm'⟩ hft
      intro e
      simp at e
      have := (h1.out k hk (S k).s (by rw [hSk]; exact SegR.mem_foot.2 (.inl rfl))).2
      exact this e.symm
    · refine hM1.trans hMM (fun b hb => ?_)
      rcases hF1 b (work_foot hk b hb) with h5 | h5
      · exact .inl h5
      · exact .inr h5
    · intro b hb
      rcases brFoot_setF hk hft b hb with h5 | h5
      · exact hF1 b h5
      · exact .inr (Nat.le_trans hM1.size h5)
  have HT := Lib.hid tail
  clear tail hub hrise h hm
  rcases hf with ⟨hn, hlen⟩ | ⟨was, hn, hne⟩
  · rw [hn] at hl
    have hlt : es.size < 16 := by omega
    clear hsz hn
    go_enter Try.func20, Try.ntmps20
    go_wp2_with (first
      | (go_at_call 37; refine HS.out.mono ?_; rintro r w' ⟨rfl, rfl⟩)
      | (go_at_call 21; refine HU.out.mono ?_; rintro r w1 ⟨⟨e, rfl⟩, S1, bound1, hR1, hSk, h1, hM1, hF1⟩; obtain ⟨es', clock', hu, d8, d1, hsl, hw⟩ := HT.out w1 S1 bound1 hR1 hSk h1 hM1 hF1; have HW := Lib.hid hw; clear hw h1 hM1 hF1 hR1)
      | (go_at_call 42; refine HW.out.mono ?_; rintro r w2 ⟨a, n, c, rfl, t1, f1, hfin⟩; have HFIN := Lib.hid hfin; clear hfin))
    go_ret
    exact ⟨rfl, HFIN.out⟩
  · rw [hn] at hl
    clear hsz hn
    go_enter Try.func20, Try.ntmps20
    go_wp2_with (first
      | (go_at_call 37; refine HS.out.mono ?_; rintro r w' ⟨rfl, rfl⟩)
      | (go_at_call 21; refine HU.out.mono ?_; rintro r w1 ⟨⟨e, rfl⟩, S1, bound1, hR1, hSk, h1, hM1, hF1⟩; obtain ⟨es', clock', hu, d8, d1, hsl, hw⟩ := HT.out w1 S1 bound1 hR1 hSk h1 hM1 hF1; have HW := Lib.hid hw; clear hw h1 hM1 hF1 hR1)
      | (go_at_call 42; refine HW.out.mono ?_; rintro r w2 ⟨a, n, c, rfl, t1, f1, hfin⟩; have HFIN := Lib.hid hfin; clear hfin))
    go_ret
    exact ⟨rfl, HFIN.out⟩
end
end Go.Proofs.Ytmhfpiincnadiaa
