/- bridge: Unbind, Unpeer. -/
import Derived.Test.YtmhfpiincnadiaaBr1
namespace Go.Proofs.Ytmhfpiincnadiaa
open Go.RowKit
open Go.ChangeMaps (setBlock)
set_option linter.unusedSimpArgs false
set_option linter.unusedVariables false

theorem Ints.form {w : World} {B : Nat} {v : Value} {L : List Int} (h : Ints w B v L) : ∃ a n c, v = .slice a n c := by
  obtain ⟨a, c, h1, _⟩ := h.slice
  exact ⟨a, _, c, h1⟩

/-! ### a segment turned -/
theorem SegIs.store1 {w w2 : World} {x : SegR} (hx : SegIs w x) (hm : Mod [] w w2) {v : Value} {L : List Int} (hv : Ints w2 w.heap.size v L) :
    SegIs (w2.setCell ⟨x.s, 1, none⟩ v) { x with pv := v, m := { x.m with ports := L } } ∧ Mod [x.s] w (w2.setCell ⟨x.s, 1, none⟩ v) ∧
      ∀ b, b ∈ ({ x with pv := v, m := { x.m with ports := L } } : SegR).foot → b ∈ x.foot ∨ w.heap.size ≤ b := by
  have hM : Mod [x.s] w (w2.setCell ⟨x.s, 1, none⟩ v) := (hm.nil).setCell (.inl (by simp)) _
  have hvs : ∀ b, v.ownBlock = some b → b ≠ x.s := fun b hb e => by
    have := (hv.lt b hb).1; have := lt_of hx.seg; omega
  refine ⟨⟨?_, ?_, ?_, ?_, hx.sF, ?_⟩, hM, ?_⟩
  · exact heap_setCell_eq w2 x.s 1 v (hm.keep hx.seg (by simp))
  · exact hx.base.mod hM (fun b hb e => hx.sF (by simp at e; exact e ▸ hb))
  · exact (hv.later (Nat.zero_le _)).keep fun b hb => heap_setCell_ne _ _ _ _ (hvs b hb)
  · exact hx.peers.keep fun b hb => hM.block b (hx.peers.lt b hb).2 (by simp; exact (hx.own b (.inr hb)).1)
  · intro b hb
    rcases hb with hb | hb
    · exact ⟨hvs b hb, fun e => by have := hx.base.lt b e; have := (hv.lt b hb).1; omega⟩
    · exact hx.own b (.inr hb)
  · intro b hb
    rcases SegR.mem_foot.1 hb with rfl | hb | hb | hb
    · exact .inl (SegR.mem_foot.2 (.inl rfl))
    · exact .inl (SegR.mem_foot.2 (.inr (.inl hb)))
    · exact .inr (hv.lt b hb).1
    · exact .inl (SegR.mem_foot.2 (.inr (.inr (.inr hb))))
theorem SegIs.store2 {w w2 : World} {x : SegR} (hx : SegIs w x) (hm : Mod [] w w2) {v : Value} {L : List Int} (hv : Ints w2 w.heap.size v L) :
    SegIs (w2.setCell ⟨x.s, 2, none⟩ v) { x with qv := v, m := { x.m with peers := L } } ∧ Mod [x.s] w (w2.setCell ⟨x.s, 2, none⟩ v) ∧
      ∀ b, b ∈ ({ x with qv := v, m := { x.m with peers := L } } : SegR).foot → b ∈ x.foot ∨ w.heap.size ≤ b := by
  have hM : Mod [x.s] w (w2.setCell ⟨x.s, 2, none⟩ v) := (hm.nil).setCell (.inl (by simp)) _
  have hvs : ∀ b, v.ownBlock = some b → b ≠ x.s := fun b hb e => by
    have := (hv.lt b hb).1; have := lt_of hx.seg; omega
  refine ⟨⟨?_, ?_, ?_, ?_, hx.sF, ?_⟩, hM, ?_⟩
  · exact heap_setCell_eq w2 x.s 2 v (hm.keep hx.seg (by simp))
  · exact hx.base.mod hM (fun b hb e => hx.sF (by simp at e; exact e ▸ hb))
  · exact hx.ports.keep fun b hb => hM.block b (hx.ports.lt b hb).2 (by simp; exact (hx.own b (.inl hb)).1)
  · exact (hv.later (Nat.zero_le _)).keep fun b hb => heap_setCell_ne _ _ _ _ (hvs b hb)
  · intro b hb
    rcases hb with hb | hb
    · exact hx.own b (.inl hb)
    · exact ⟨hvs b hb, fun e => by have := hx.base.lt b e; have := (hv.lt b hb).1; omega⟩
  · intro b hb
    rcases SegR.mem_foot.1 hb with rfl | hb | hb | hb
    · exact .inl (SegR.mem_foot.2 (.inl rfl))
    · exact .inl (SegR.mem_foot.2 (.inr (.inl hb)))
    · exact .inl (SegR.mem_foot.2 (.inr (.inr (.inl hb))))
    · exact .inr (hv.lt b hb).1
theorem SegIs.rebase {w w' : World} {x : SegR} (hx : SegIs w x) (hm : Mod x.F w w') {F' : List Nat} {B' : BaseM} (hB : BaseAt w' x.p F' B') (hF : ∀ b, b ∈ F' → b ∈ x.F ∨ w.heap.size ≤ b) :
    SegIs w' { x with F := F', m := { x.m with base := B' } } ∧ ∀ b, b ∈ ({ x with F := F', m := { x.m with base := B' } } : SegR).foot → b ∈ x.foot ∨ w.heap.size ≤ b := by
  refine ⟨⟨hm.keep hx.seg hx.sF, hB, ?_, ?_, ?_, ?_⟩, ?_⟩
  · exact hx.ports.keep fun b hb => hm.block b (hx.ports.lt b hb).2 (hx.own b (.inl hb)).2
  · exact hx.peers.keep fun b hb => hm.block b (hx.peers.lt b hb).2 (hx.own b (.inr hb)).2
  · intro e
    rcases hF _ e with e | e
    · exact hx.sF e
    · have := lt_of hx.seg; simp at e; omega
  · intro b hb
    refine ⟨(hx.own b hb).1, fun e => ?_⟩
    rcases hF b e with e | e
    · exact (hx.own b hb).2 e
    · rcases hb with hb | hb
      · have := (hx.ports.lt b hb).2; omega
      · have := (hx.peers.lt b hb).2; omega
  · intro b hb
    rcases SegR.mem_foot.1 hb with rfl | hb | hb | hb
    · exact .inl (SegR.mem_foot.2 (.inl rfl))
    · exact (hF b hb).imp (fun e => SegR.mem_foot.2 (.inr (.inl e))) id
    · exact .inl (SegR.mem_foot.2 (.inr (.inr (.inl hb))))
    · exact .inl (SegR.mem_foot.2 (.inr (.inr (.inr hb))))

section
variable {w : World} {p mb : Nat} {S : Nat → SegR} {bound : List (Int × Int)} (h : BridgeIs w p mb S bound)
include h

set_option maxRecDepth 100000 in
set_option maxHeartbeats 1000000 in
theorem unbind_none {port : Int} (hn : look port bound = none) : Calls Try.prog 21 #[ptr p, i64 port] w fun r w' => r = .returned (i64 6) ∧ w = w' := by
  obtain ⟨es, clock, hb, hm⟩ := h.map
  have hl := bound_look (mb := mb) hm port
  rw [hn] at hl
  have c8 : w.cell? ⟨p, 8, none⟩ = some (.map (some mb)) := by rw [cell_of h.top]; rfl
  clear hm h
  go_enter Try.func21, Try.ntmps21
  go_wp2
  go_ret
  exact ⟨rfl, rfl⟩

set_option maxRecDepth 100000 in
set_option maxHeartbeats 1000000 in
theorem unbind_some {port : Int} {k : Nat} (hk : k < 8) (hlk : look port bound = some (k : Int)) (hl9 : (S k).m.ports.length ≤ 900) :
    Calls Try.prog 21 #[ptr p, i64 port] w fun r w' => r = .returned (i64 0) ∧
      ∃ x', x'.m = ⟨forgetM (S k).m.base false port, withoutM port (S k).m.ports, (S k).m.peers⟩ ∧ BridgeIs w' p mb (setF S k x') (del port bound) ∧ Mod (mb :: (S k).s :: (S k).F) w w' ∧ (∀ b, b ∈ x'.foot → b ∈ (S k).foot ∨ w.heap.size ≤ b) := by
  obtain ⟨es, clock, hb, hm⟩ := h.map
  have hl := bound_look (mb := mb) hm port
  rw [hlk] at hl
  obtain ⟨es', hdel, hm'⟩ := run_delete int_law Try.underlying103 hm port 0 3
  rw [del_map] at hm'
  have hdel' := hdel w mb
  have HM' := Lib.hid hm'
  have hsk := h.seg k hk
  obtain ⟨s0, s1, s2⟩ := cells_3 hsk.seg
  have c8 : w.cell? ⟨p, 8, none⟩ = some (.map (some mb)) := by rw [cell_of h.top]; rfl
  have ck := bridge_cell h hk
  have hsm : (S k).s ≠ mb := (h.out k hk _ (SegR.mem_foot.2 (.inl rfl))).2
  have hpm := h.pm
  have hsl := lt_of hsk.seg
  have hml := lt_of hb
  have hM1 : Mod [mb] w (setBlock w mb (.map es' clock)) := (Mod.refl _ _).setBlock (.inl (by simp)) _
  have hseg1 : SegIs (setBlock w mb (.map es' clock)) (S k) := hsk.keep fun b hb' => heap_setBlock_ne _ _ _ _ (h.out k hk b hb').2
  have HS1 := Lib.hid hseg1
  have HW := Lib.hid (without_any hseg1.ports hl9 port)
  have HH := Lib.hid h
  have hsz1 : (setBlock w mb (.map es' clock)).heap.size = w.heap.size := size_setBlock _ _ _
  clear h hm hm' hdel hseg1 hsk
  go_enter Try.func21, Try.ntmps21
  go_wp2_with (first
    | (go_at_call 43; refine HW.out.mono ?_; rintro r w2 ⟨v2, rfl, hv2, hm2⟩; obtain ⟨av, nv, cv, rfl⟩ := hv2.form; have HV := Lib.hid hv2; clear hv2; have t0 : w2.cell? ⟨(S k).s, 0, none⟩ = some (ptr (S k).p) := (hm2.cell (by omega) (by simp) 0).trans (cells_3 HS1.out.seg).1; have t1 : w2.cell? ⟨(S k).s, 1, none⟩ = some (S k).pv := (hm2.cell (by omega) (by simp) 1).trans (cells_3 HS1.out.seg).2.1; have f1 : w2.frozen? ⟨(S k).s, 1, none⟩ = false := (hm2.free (by omega) (by simp) 1).trans (free_of HS1.out.seg 1); have hs2 : (S k).s < w2.heap.size := by have := hm2.size; omega)
    | (go_at_call 44; obtain ⟨hS3, hm3, hf3⟩ := HS1.out.store1 hm2 HV.out; refine (forget_any hS3.base false port).mono ?_; rintro r w4 ⟨⟨kk, rfl⟩, F4, hB4, hm4, hF4⟩))
  go_ret
  have hsz : w.heap.size ≤ (w2.setCell ⟨(S k).s, 1, none⟩ (.slice av nv cv)).heap.size := by rw [size_setCell]; have := hm2.size; omega
  obtain ⟨hS4, hf4⟩ := hS3.rebase hm4 hB4 (fun b hb => .inl (hF4 b hb))
  have hMs : Mod ((S k).s :: (S k).F) (setBlock w mb (.map es' clock)) w4 := (hm3.mono (by simp)).trans hm4 (fun b hb => .inl (by simp; exact .inr hb))
  have hMM : Mod (mb :: (S k).s :: (S k).F) w w4 := (hM1.mono (by simp)).trans hMs (fun b hb => .inl (by simp; simp at hb; exact .inr hb))
  have hft : ∀ b, b ∈ ({ S k with F := F4, pv := .slice av nv cv, m := ⟨forgetM (S k).m.base false port, withoutM port (S k).m.ports, (S k).m.peers⟩ } : SegR).foot → b ∈ (S k).foot ∨ w.heap.size ≤ b := fun b hb => by
    rcases hf4 b hb with hb | hb
    · rcases hf3 b hb with hb | hb
      · exact .inl hb
      · exact .inr (by omega)
    · exact .inr (by omega)
  refine ⟨rfl, { S k with F := F4, pv := .slice av nv cv, m := ⟨forgetM (S k).m.base false port, withoutM port (S k).m.ports, (S k).m.peers⟩ }, rfl, ?_, hMM, hft⟩
  have hne : mb ∉ (S k).s :: (S k).F := by
    intro e
    rcases List.mem_cons.1 e with e | e
    · exact (HH.out.out k hk mb (SegR.mem_foot.2 (.inl e))).2 rfl
    · exact (HH.out.out k hk mb (SegR.mem_foot.2 (.inr (.inl e)))).2 rfl
  exact HH.out.update hk rfl hS4 hMM ⟨es', clock, hMs.keep (heap_setBlock_at _ _ _ hml) hne, HM'.out⟩ hft
end
end Go.Proofs.Ytmhfpiincnadiaa
