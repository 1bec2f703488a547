/- bridge: a segment's frame in all; FromPort, FromTunnel. -/
import Derived.Test.YtmhfpiincnadiaaBr9
import Derived.Test.YtmhfpiincnadiaaBrL
namespace Go.Proofs.Ytmhfpiincnadiaa
open Go.RowKit
open Go.ChangeMaps (setBlock)
set_option linter.unusedSimpArgs false
set_option linter.unusedVariables false

/-- A row of bytes that lies somewhere. -/
def Bytes (w : World) (v : Value) (d : List UInt8) : Prop :=
  (d = [] ∧ ∃ a c, v = .slice a 0 c) ∨ ∃ bb off c, v = .slice (some ⟨bb, off, none⟩) d.length c ∧ d.length ≤ c ∧ bb < w.heap.size ∧ ∀ i, i < d.length → w.cell? ⟨bb, off + i, none⟩ = some (.int .u8 ((d.getD i 0).toNat : Int))
theorem Bytes.keep {w w' : World} {v : Value} {d : List UInt8} (h : Bytes w v d) (hm : Mod [] w w') : Bytes w' v d := by
  rcases h with h | ⟨bb, off, c, h1, h2, h3, h4⟩
  · exact .inl h
  · exact .inr ⟨bb, off, c, h1, h2, Nat.lt_of_lt_of_le h3 hm.size, fun i hi => (hm.cell h3 (by simp) _).trans (h4 i hi)⟩
theorem bytes_head {w : World} {bb off : Nat} {d : List UInt8} (h3 : bb < w.heap.size) (h : ∀ i, i < d.length → w.cell? ⟨bb, off + i, none⟩ = some (.int .u8 ((d.getD i 0).toNat : Int))) (hl : 14 ≤ d.length) : Head w bb off (macAt d 0) (macAt d 6) :=
  ⟨h3, h 0 (by omega), h 1 (by omega), h 2 (by omega), h 3 (by omega), h 4 (by omega), h 5 (by omega), h 6 (by omega), h 7 (by omega), h 8 (by omega), h 9 (by omega), h 10 (by omega), h 11 (by omega)⟩

theorem FrameRes.refused {x : SegR} {e : Int} {w : World} (hx : SegIs w x) : ∀ {r : Ending} {w' : World}, (r = .returned (.tuple #[.agg #[.slice none 0 0, .slice none 0 0, .bool false], i64 e]) ∧ Mod [] w w') → FrameRes x zeroOut e x.m.base w r w' := by
  rintro r w' ⟨rfl, hm⟩
  exact ⟨_, _, x, rfl, Ints.nil _ _, Ints.nil _ _, rfl, rfl, hx.keep (fun b hb => hm.block b (hx.lt b hb) (by simp)), hm.nil, fun b hb => .inl hb, fun b hb => by rcases hb with hb | hb <;> cases hb⟩

theorem frame_any {w : World} {x : SegR} (hx : SegIs w x) (tun : Bool) (n now : Int) {v : Value} {d : List UInt8} (hb : Bytes w v d)
    (hn : -9223372036854775808 ≤ n ∧ n ≤ 9223372036854775807) (hnow : 0 ≤ now ∧ now ≤ 18446744073709551615) (hpl : x.m.ports.length ≤ 100) (hql : x.m.peers.length ≤ 100) :
    Calls Try.prog 41 #[ptr x.s, .agg #[.bool tun, i64 n], v, .int .u64 now] w fun r w' => FrameRes x (frameM x.m tun n d now).1 (frameM x.m tun n d now).2.1 (frameM x.m tun n d now).2.2 w r w' := by
  unfold frameM
  by_cases h14 : d.length < 14
  · rw [if_pos h14]
    rcases hb with ⟨rfl, a, c, rfl⟩ | ⟨bb, off, c, rfl, h2, h3, h4⟩
    · exact (frame_short x.s tun n now a 0 c (by omega) w).mono fun _ _ => FrameRes.refused hx
    · exact (frame_short x.s tun n now _ d.length c h14 w).mono fun _ _ => FrameRes.refused hx
  · rw [if_neg h14]
    rcases hb with ⟨rfl, a, c, rfl⟩ | ⟨bb, off, c, rfl, h2, h3, h4⟩
    · exact absurd (by simp) h14
    · by_cases h9 : 9000 < d.length
      · rw [if_pos h9]
        exact (frame_big x.s tun n now _ d.length c h9 w).mono fun _ _ => FrameRes.refused hx
      · rw [if_neg h9]
        have hh := bytes_head h3 h4 (by omega)
        by_cases hg : (macAt d 6).group = true
        · rw [if_pos hg]
          exact (frame_grp x.s tun n now bb off d.length c (by omega) (by omega) h2 _ _ w hh hg).mono fun _ _ => FrameRes.refused hx
        · rw [if_neg hg]
          exact frame_go x tun n now bb off d.length c (by omega) (by omega) h2 _ _ w hh hx (by simpa using hg) ⟨hn.1, hn.2, hnow.1, hnow.2⟩ hpl hql

/-- What a frame's call hands back. -/
def OutRes (O : OutM) (e : Int) (w : World) (r : Ending) (w' : World) : Prop :=
  ∃ pv qv, r = .returned (.tuple #[.agg #[pv, qv, .bool O.flood], i64 e]) ∧ Ints w' w.heap.size pv O.ports ∧ Ints w' w.heap.size qv O.tunnels

theorem zero_out : zeroOut = ⟨[], [], false⟩ := rfl

section
variable {w : World} {p mb : Nat} {S : Nat → SegR} {bound : List (Int × Int)} (h : BridgeIs w p mb S bound)
include h

set_option maxRecDepth 100000 in
set_option maxHeartbeats 1000000 in
theorem fromPort_none {port now : Int} {v : Value} (hlk : look port bound = none) : Calls Try.prog 18 #[ptr p, i64 port, v, .int .u64 now] w fun r w' => r = .returned (.tuple #[.agg #[.slice none 0 0, .slice none 0 0, .bool false], i64 6]) ∧ Mod [] w w' := by
  obtain ⟨es, clock, hb, hm⟩ := h.map
  have hl := bound_look (mb := mb) hm port
  rw [hlk] at hl
  have c8 : w.cell? ⟨p, 8, none⟩ = some (.map (some mb)) := by rw [cell_of h.top]; rfl
  have hpl := lt_of h.top
  obtain ⟨pl1, pl2, pl3, pl4, pl5⟩ := lts hpl
  have hml := lt_of hb
  obtain ⟨ml1, ml2, ml3, ml4, ml5⟩ := lts hml
  clear hm h
  go_enter Try.func18, Try.ntmps18
  go_wp2
  refine bodyPost_ret (v := .tuple #[.agg #[.slice none 0 0, .slice none 0 0, .bool false], i64 6]) (by simp [results, Try.results18, go_sem]) rfl ⟨rfl, ?_⟩
  (repeat (first | exact Mod.refl _ _ | refine Mod.alloc ?_ _ | refine Mod.drewN ?_ _ | refine Mod.drew ?_ | refine Mod.setCell ?_ (by first | (simp; done) | (simp; omega)) _ | refine Mod.setBlock ?_ (by first | (simp; done) | (simp; omega)) _ | assumption))

set_option maxRecDepth 100000 in
set_option maxHeartbeats 1000000 in
theorem fromPort_some {port now : Int} {v : Value} {d : List UInt8} {k : Nat} (hk : k < 8) (hlk : look port bound = some (k : Int)) (hb : Bytes w v d)
    (hn : -9223372036854775808 ≤ port ∧ port ≤ 9223372036854775807) (hnow : 0 ≤ now ∧ now ≤ 18446744073709551615) (hpl : (S k).m.ports.length ≤ 100) (hql : (S k).m.peers.length ≤ 100) :
    Calls Try.prog 18 #[ptr p, i64 port, v, .int .u64 now] w fun r w' => FrameRes (S k) (frameM (S k).m false port d now).1 (frameM (S k).m false port d now).2.1 (frameM (S k).m false port d now).2.2 w r w' := by
  obtain ⟨es, clock, hmb, hm⟩ := h.map
  have hl := bound_look (mb := mb) hm port
  rw [hlk] at hl
  have c8 : w.cell? ⟨p, 8, none⟩ = some (.map (some mb)) := by rw [cell_of h.top]; rfl
  have ck := bridge_cell h hk
  have hpl0 := lt_of h.top
  obtain ⟨pl1, pl2, pl3, pl4, pl5⟩ := lts hpl0
  have hml := lt_of hmb
  obtain ⟨ml1, ml2, ml3, ml4, ml5⟩ := lts hml
  have hM0 : Mod [] w (w.alloc (.cells #[.slice none 0 0, .slice none 0 0, .bool false] 52)) := (Mod.refl _ _).alloc _
  have HF := Lib.hid (frame_any (x := S k) ((h.seg k hk).keep (fun b hb => hM0.block b ((h.seg k hk).lt b hb) (by simp))) false port now (hb.keep hM0) hn hnow hpl hql)
  generalize frameM (S k).m false port d now = R at HF ⊢
  obtain ⟨O, e, B'⟩ := R
  have hsw : (w.alloc (.cells #[.slice none 0 0, .slice none 0 0, .bool false] 52)).heap.size = w.heap.size + 1 := by simp
  have HSW := Lib.hid hsw
  have hfl : w.heap.size ∉ (S k).foot := fun hh => Nat.lt_irrefl _ ((h.seg k hk).lt _ hh)
  have HFL := Lib.hid hfl
  have HO : blk (w.alloc (.cells #[.slice none 0 0, .slice none 0 0, .bool false] 52)) w.heap.size = some (.cells #[.slice none 0 0, .slice none 0 0, .bool false] 52 (0, 0)) := heap_alloc_at _ _ _ rfl
  have HOH := Lib.hid HO
  clear hm h hM0 hb hsw hfl HO
  go_enter Try.func18, Try.ntmps18
  go_wp2_with (go_at_call 41; refine HF.out.mono ?_; rintro r w2 ⟨pv, qv, x', rfl, hpv, hqv, hxs, hxm, hS2, hm2, hft, hdj⟩; have HDJ := Lib.hid hdj; obtain ⟨a1, n1, c1, rfl⟩ := hpv.form; obtain ⟨a2, n2, c2, rfl⟩ := hqv.form; have HP := Lib.hid hpv; have HQ := Lib.hid hqv; have HXS := Lib.hid hxs; have HXM := Lib.hid hxm; have HS2 := Lib.hid hS2; have HFT := Lib.hid hft; have ho2 := hm2.keep HOH.out (fun hh => HFL.out (SegR.mem_foot.2 (.inr (.inl hh)))); obtain ⟨o0, o1, o2⟩ := cells_3 ho2; have g0 := free_of ho2 0; have g1 := free_of ho2 1; have g2 := free_of ho2 2; have ol := lt_of ho2; clear ho2 hpv hqv hxs hxm hS2 hft hdj)
  have hw2 : Mod (S k).F w w2 := ((Mod.refl [] w).alloc _).nil.trans hm2 (fun b hb => .inl hb)
  have hne : ∀ b, w.heap.size + 1 ≤ b → b ≠ w.heap.size := fun b hb => by omega
  refine bodyPost_ret (v := .tuple #[.agg #[.slice a1 n1 c1, .slice a2 n2 c2, .bool O.flood], i64 e]) (by simp [results, Try.results18, go_sem, o0, o1, o2, ol, size_setCell, cell_set_self]) rfl ?_
  refine ⟨_, _, x', rfl, (HP.out.later (by rw [HSW.out]; omega)).keep (fun b hb => ?_), (HQ.out.later (by rw [HSW.out]; omega)).keep (fun b hb => ?_), HXS.out, HXM.out, HS2.out.keep (fun b hb => ?_), ?_, ?_, HDJ.out⟩
  · have h1 := (HP.out.lt b hb).1
    rw [HSW.out] at h1
    rw [heap_setCell_ne _ _ _ _ (hne b h1), heap_setCell_ne _ _ _ _ (hne b h1), heap_setCell_ne _ _ _ _ (hne b h1)]
  · have h1 := (HQ.out.lt b hb).1
    rw [HSW.out] at h1
    rw [heap_setCell_ne _ _ _ _ (hne b h1), heap_setCell_ne _ _ _ _ (hne b h1), heap_setCell_ne _ _ _ _ (hne b h1)]
  · have h1 : b ≠ w.heap.size := fun e => by
      rcases HFT.out b hb with h2 | h2
      · exact HFL.out (e ▸ h2)
      · rw [HSW.out] at h2; omega
    rw [heap_setCell_ne _ _ _ _ h1, heap_setCell_ne _ _ _ _ h1, heap_setCell_ne _ _ _ _ h1]
  · exact ((hw2.setCell (.inr (Nat.le_refl _)) _).setCell (.inr (Nat.le_refl _)) _).setCell (.inr (Nat.le_refl _)) _
  · intro b hb
    rcases HFT.out b hb with h2 | h2
    · exact .inl h2
    · rw [HSW.out] at h2; exact .inr (by omega)
end
end Go.Proofs.Ytmhfpiincnadiaa
