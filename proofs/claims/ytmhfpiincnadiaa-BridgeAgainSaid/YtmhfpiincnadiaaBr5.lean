/- bridge: Peer, Unpeer. -/
import Derived.Test.YtmhfpiincnadiaaBr4
namespace Go.Proofs.Ytmhfpiincnadiaa
open Go.RowKit
open Go.ChangeMaps (setBlock)
set_option linter.unusedSimpArgs false
set_option linter.unusedVariables false

section
variable {w : World} {p mb : Nat} {S : Nat → SegR} {bound : List (Int × Int)} (h : BridgeIs w p mb S bound)

set_option maxRecDepth 100000 in
set_option maxHeartbeats 1000000 in
theorem peer_out {n t : Int} (hn : n < 0 ∨ 8 ≤ n) : Calls Try.prog 32 #[ptr p, i64 n, i64 t] w fun r w' => r = .returned (i64 1) ∧ w = w' := by
  have HS := Lib.hid (segment_out (p := p) (w := w) hn)
  clear hn
  by_cases h0 : t < 0
  · go_enter Try.func32, Try.ntmps32
    go_wp2_with (go_at_call 37; refine HS.out.mono ?_; rintro r w' ⟨rfl, rfl⟩)
    go_ret
    exact ⟨rfl, rfl⟩
  · go_enter Try.func32, Try.ntmps32
    go_wp2_with (go_at_call 37; refine HS.out.mono ?_; rintro r w' ⟨rfl, rfl⟩)
    go_ret
    exact ⟨rfl, rfl⟩
set_option maxRecDepth 100000 in
set_option maxHeartbeats 1000000 in
theorem unpeer_out {n t : Int} (hn : n < 0 ∨ 8 ≤ n) : Calls Try.prog 36 #[ptr p, i64 n, i64 t] w fun r w' => r = .returned (i64 6) ∧ w = w' := by
  have HS := Lib.hid (segment_out (p := p) (w := w) hn)
  clear hn
  go_enter Try.func36, Try.ntmps36
  go_wp2_with (go_at_call 37; refine HS.out.mono ?_; rintro r w' ⟨rfl, rfl⟩)
  go_ret
  exact ⟨rfl, rfl⟩

include h
set_option maxRecDepth 100000 in
set_option maxHeartbeats 1000000 in
theorem peer_neg {k : Nat} {t : Int} (hk : k < 8) (h0 : t < 0) : Calls Try.prog 32 #[ptr p, i64 k, i64 t] w fun r w' => r = .returned (i64 1) ∧ w = w' := by
  have HS := Lib.hid (segment_in hk (bridge_cell h hk))
  clear h
  go_enter Try.func32, Try.ntmps32
  go_wp2_with (go_at_call 37; refine HS.out.mono ?_; rintro r w' ⟨rfl, rfl⟩)
  go_ret
  exact ⟨rfl, rfl⟩

set_option maxRecDepth 100000 in
set_option maxHeartbeats 1000000 in
theorem peer_has {k : Nat} {t : Int} (hk : k < 8) (h0 : 0 ≤ t) (hl8 : (S k).m.peers.length ≤ 8) (hc : (S k).m.peers.contains t = true) : Calls Try.prog 32 #[ptr p, i64 k, i64 t] w fun r w' => r = .returned (i64 0) ∧ w = w' := by
  have HS := Lib.hid (segment_in hk (bridge_cell h hk))
  have hco := contains_any (h.seg k hk).peers (by omega) t
  rw [hc] at hco
  have HC := Lib.hid hco
  obtain ⟨s0, s1, s2⟩ := cells_3 (h.seg k hk).seg
  clear h hco
  go_enter Try.func32, Try.ntmps32
  go_wp2_with (first
    | (go_at_call 37; refine HS.out.mono ?_; rintro r w' ⟨rfl, rfl⟩)
    | (go_at_call 57; refine HC.out.mono ?_; rintro r w' ⟨rfl, rfl⟩))
  go_ret
  exact ⟨rfl, rfl⟩

set_option maxRecDepth 100000 in
set_option maxHeartbeats 1000000 in
theorem peer_full {k : Nat} {t : Int} (hk : k < 8) (h0 : 0 ≤ t) (hl8 : (S k).m.peers.length ≤ 8) (hc : (S k).m.peers.contains t = false) (hfull : 8 ≤ (S k).m.peers.length) : Calls Try.prog 32 #[ptr p, i64 k, i64 t] w fun r w' => r = .returned (i64 5) ∧ w = w' := by
  have HS := Lib.hid (segment_in hk (bridge_cell h hk))
  have hco := contains_any (h.seg k hk).peers (by omega) t
  rw [hc] at hco
  have HC := Lib.hid hco
  obtain ⟨s0, s1, s2⟩ := cells_3 (h.seg k hk).seg
  obtain ⟨a, c, hv, _⟩ := (h.seg k hk).peers.slice
  rw [hv] at s2
  have hq : (S k).m.peers.length = 8 := by omega
  rw [hq] at s2 hv
  rw [hv] at HC
  clear h hco
  go_enter Try.func32, Try.ntmps32
  go_wp2_with (first
    | (go_at_call 37; refine HS.out.mono ?_; rintro r w' ⟨rfl, rfl⟩)
    | (go_at_call 57; refine HC.out.mono ?_; rintro r w' ⟨rfl, rfl⟩))
  go_ret
  exact ⟨rfl, rfl⟩

theorem with_at2 {k : Nat} {t : Int} (hk : k < 8) (hl8 : (S k).m.peers.length ≤ 8) (hrise : (S k).m.peers.Pairwise (· ≤ ·)) :
    Calls Try.prog 42 #[(S k).qv, i64 t] w (fun r w2 => ∃ a n c, r = .returned (.slice a n c) ∧ w2.cell? ⟨(S k).s, 2, none⟩ = some (S k).qv ∧ w2.frozen? ⟨(S k).s, 2, none⟩ = false ∧
          ∃ x', x'.m = ⟨(S k).m.base, (S k).m.ports, withM t (S k).m.peers⟩ ∧
            BridgeIs (w2.setCell ⟨(S k).s, 2, none⟩ (.slice a n c)) p mb (setF S k x') bound ∧ Mod (brFoot p mb S) w (w2.setCell ⟨(S k).s, 2, none⟩ (.slice a n c)) ∧ (∀ b, b ∈ brFoot p mb (setF S k x') → b ∈ brFoot p mb S ∨ w.heap.size ≤ b)) := by
  have hsk := h.seg k hk
  refine (with_any hsk.peers (by omega) hrise t).mono ?_
  rintro r w2 ⟨v2, rfl, hv2, hm2⟩
  obtain ⟨a, n, c, rfl⟩ := hv2.form
  have hsl := lt_of hsk.seg
  obtain ⟨hS3, hm3, hf3⟩ := hsk.store2 hm2 hv2
  have hMM : Mod (mb :: (S k).s :: (S k).F) w (w2.setCell ⟨(S k).s, 2, none⟩ (.slice a n c)) := hm3.mono (by simp)
  refine ⟨a, n, c, rfl, (hm2.cell hsl (by simp) 2).trans (cells_3 hsk.seg).2.2, (hm2.free hsl (by simp) 2).trans (free_of hsk.seg 2), { S k with qv := .slice a n c, m := { (S k).m with peers := withM t (S k).m.peers } }, rfl, ?_, hMM.mono (work_foot hk), brFoot_setF hk hf3⟩
  obtain ⟨es, clock, hb, hm⟩ := h.map
  refine h.update hk rfl hS3 hMM ⟨es, clock, hm3.keep hb ?_, hm⟩ hf3
  intro e
  simp at e
  exact (h.out k hk (S k).s (SegR.mem_foot.2 (.inl rfl))).2 e.symm

set_option maxRecDepth 100000 in
set_option maxHeartbeats 1000000 in
theorem peer_go {k : Nat} {t : Int} (hk : k < 8) (h0 : 0 ≤ t) (hrise : (S k).m.peers.Pairwise (· ≤ ·)) (hc : (S k).m.peers.contains t = false) (hlt : (S k).m.peers.length < 8) : Calls Try.prog 32 #[ptr p, i64 k, i64 t] w fun r w' => r = .returned (i64 0) ∧
    ∃ x', x'.m = ⟨(S k).m.base, (S k).m.ports, withM t (S k).m.peers⟩ ∧ BridgeIs w' p mb (setF S k x') bound ∧ Mod (brFoot p mb S) w w' ∧ (∀ b, b ∈ brFoot p mb (setF S k x') → b ∈ brFoot p mb S ∨ w.heap.size ≤ b) := by
  have HS := Lib.hid (segment_in hk (bridge_cell h hk))
  have hco := contains_any (h.seg k hk).peers (by omega) t
  rw [hc] at hco
  have HC := Lib.hid hco
  have HW := Lib.hid (with_at2 h (t := t) hk (by omega) hrise)
  obtain ⟨s0, s1, s2⟩ := cells_3 (h.seg k hk).seg
  have hsl := lt_of (h.seg k hk).seg
  obtain ⟨a, c, hv, _⟩ := (h.seg k hk).peers.slice
  generalize hln : (S k).m.peers.length = ln at hv hlt
  rw [hv] at s2 HC HW
  clear h hco hrise hc hln
  go_enter Try.func32, Try.ntmps32
  go_wp2_with (first
    | (go_at_call 37; refine HS.out.mono ?_; rintro r w' ⟨rfl, rfl⟩)
    | (go_at_call 57; refine HC.out.mono ?_; rintro r w' ⟨rfl, rfl⟩)
    | (go_at_call 42; refine HW.out.mono ?_; rintro r w2 ⟨a2, n2, c2, rfl, t1, f1, hfin⟩; have HFIN := Lib.hid hfin; clear hfin))
  go_ret
  exact ⟨rfl, HFIN.out⟩

set_option maxRecDepth 100000 in
set_option maxHeartbeats 1000000 in
theorem unpeer_not {k : Nat} {t : Int} (hk : k < 8) (hl8 : (S k).m.peers.length ≤ 8) (hc : (S k).m.peers.contains t = false) : Calls Try.prog 36 #[ptr p, i64 k, i64 t] w fun r w' => r = .returned (i64 6) ∧ w = w' := by
  have HS := Lib.hid (segment_in hk (bridge_cell h hk))
  have hco := contains_any (h.seg k hk).peers (by omega) t
  rw [hc] at hco
  have HC := Lib.hid hco
  obtain ⟨s0, s1, s2⟩ := cells_3 (h.seg k hk).seg
  clear h hco
  go_enter Try.func36, Try.ntmps36
  go_wp2_with (first
    | (go_at_call 37; refine HS.out.mono ?_; rintro r w' ⟨rfl, rfl⟩)
    | (go_at_call 57; refine HC.out.mono ?_; rintro r w' ⟨rfl, rfl⟩))
  go_ret
  exact ⟨rfl, rfl⟩

set_option maxRecDepth 100000 in
set_option maxHeartbeats 1000000 in
theorem unpeer_go {k : Nat} {t : Int} (hk : k < 8) (hl8 : (S k).m.peers.length ≤ 8) (hc : (S k).m.peers.contains t = true) : Calls Try.prog 36 #[ptr p, i64 k, i64 t] w fun r w' => r = .returned (i64 0) ∧
    ∃ x', x'.m = ⟨forgetM (S k).m.base true t, (S k).m.ports, withoutM t (S k).m.peers⟩ ∧ BridgeIs w' p mb (setF S k x') bound ∧ Mod (brFoot p mb S) w w' ∧ (∀ b, b ∈ brFoot p mb (setF S k x') → b ∈ brFoot p mb S ∨ w.heap.size ≤ b) := by
  have HS := Lib.hid (segment_in hk (bridge_cell h hk))
  have hsk := h.seg k hk
  have hco := contains_any hsk.peers (by omega) t
  rw [hc] at hco
  have HC := Lib.hid hco
  have HW := Lib.hid (without_any hsk.peers (by omega) t)
  obtain ⟨s0, s1, s2⟩ := cells_3 hsk.seg
  have hsl := lt_of hsk.seg
  have HH := Lib.hid h
  have HK := Lib.hid hsk
  clear h hco hc hsk
  go_enter Try.func36, Try.ntmps36
  go_wp2_with (first
    | (go_at_call 37; refine HS.out.mono ?_; rintro r w' ⟨rfl, rfl⟩)
    | (go_at_call 57; refine HC.out.mono ?_; rintro r w' ⟨rfl, rfl⟩)
    | (go_at_call 43; refine HW.out.mono ?_; rintro r w2 ⟨v2, rfl, hv2, hm2⟩; obtain ⟨av, nv, cv, rfl⟩ := hv2.form; have HV := Lib.hid hv2; clear hv2; have t0 : w2.cell? ⟨(S k).s, 0, none⟩ = some (ptr (S k).p) := (hm2.cell (by omega) (by simp) 0).trans (cells_3 HK.out.seg).1; have t1 : w2.cell? ⟨(S k).s, 2, none⟩ = some (S k).qv := (hm2.cell (by omega) (by simp) 2).trans (cells_3 HK.out.seg).2.2; have f1 : w2.frozen? ⟨(S k).s, 2, none⟩ = false := (hm2.free (by omega) (by simp) 2).trans (free_of HK.out.seg 2); have hs2 : (S k).s < w2.heap.size := by have := hm2.size; omega)
    | (go_at_call 44; obtain ⟨hS3, hm3, hf3⟩ := HK.out.store2 hm2 HV.out; refine (forget_any hS3.base true t).mono ?_; rintro r w4 ⟨⟨kk, rfl⟩, F4, hB4, hm4, hF4⟩))
  go_ret
  have hsz : w.heap.size ≤ (w2.setCell ⟨(S k).s, 2, none⟩ (.slice av nv cv)).heap.size := by rw [size_setCell]; have := hm2.size; omega
  obtain ⟨hS4, hf4⟩ := hS3.rebase hm4 hB4 (fun b hb => .inl (hF4 b hb))
  have hMs : Mod ((S k).s :: (S k).F) w w4 := (hm3.mono (by simp)).trans hm4 (fun b hb => .inl (by simp; exact .inr hb))
  have hMM : Mod (mb :: (S k).s :: (S k).F) w w4 := hMs.mono (fun b hb => List.mem_cons_of_mem _ hb)
  have hft : ∀ b, b ∈ ({ S k with F := F4, qv := .slice av nv cv, m := ⟨forgetM (S k).m.base true t, (S k).m.ports, withoutM t (S k).m.peers⟩ } : SegR).foot → b ∈ (S k).foot ∨ w.heap.size ≤ b := fun b hb => by
    rcases hf4 b hb with hb | hb
    · rcases hf3 b hb with hb | hb
      · exact .inl hb
      · exact .inr (by omega)
    · exact .inr (by omega)
  refine ⟨rfl, { S k with F := F4, qv := .slice av nv cv, m := ⟨forgetM (S k).m.base true t, (S k).m.ports, withoutM t (S k).m.peers⟩ }, rfl, ?_, hMM.mono (work_foot hk), brFoot_setF hk hft⟩
  have hne : mb ∉ (S k).s :: (S k).F := by
    intro e
    rcases List.mem_cons.1 e with e | e
    · exact (HH.out.out k hk mb (SegR.mem_foot.2 (.inl e))).2 rfl
    · exact (HH.out.out k hk mb (SegR.mem_foot.2 (.inr (.inl e)))).2 rfl
  obtain ⟨es, clock, hb, hm⟩ := HH.out.map
  exact HH.out.update hk rfl hS4 hMM ⟨es, clock, hMs.keep hb hne, hm⟩ hft
end
end Go.Proofs.Ytmhfpiincnadiaa
