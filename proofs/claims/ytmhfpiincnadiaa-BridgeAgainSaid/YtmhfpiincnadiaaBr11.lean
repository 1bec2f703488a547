/- bridge: FromTunnel; FromPort and FromTunnel on the model. -/
import Derived.Test.YtmhfpiincnadiaaBr10
namespace Go.Proofs.Ytmhfpiincnadiaa
open Go.RowKit
open Go.ChangeMaps (setBlock)
set_option linter.unusedSimpArgs false
set_option linter.unusedVariables false

set_option maxRecDepth 100000 in
set_option maxHeartbeats 1000000 in
theorem fromTunnel_out {w : World} {p : Nat} {n t now : Int} {v : Value} (hn : n < 0 ∨ 8 ≤ n) : Calls Try.prog 34 #[ptr p, i64 n, i64 t, v, .int .u64 now] w fun r w' => r = .returned (.tuple #[.agg #[.slice none 0 0, .slice none 0 0, .bool false], i64 6]) ∧ Mod [] w w' := by
  have HS := fun W => Lib.hid (segment_out (p := p) (w := W) hn)
  clear hn
  go_enter Try.func34, Try.ntmps34
  go_wp2_with (go_at_call 37; refine (HS _).out.mono ?_; rintro r w' ⟨rfl, rfl⟩)
  refine bodyPost_ret (v := .tuple #[.agg #[.slice none 0 0, .slice none 0 0, .bool false], i64 6]) (by simp [results, Try.results34, go_sem]) rfl ⟨rfl, ?_⟩
  (repeat (first | exact Mod.refl _ _ | refine Mod.alloc ?_ _ | refine Mod.drewN ?_ _ | refine Mod.drew ?_ | refine Mod.setCell ?_ (by first | (simp; done) | (simp; omega)) _ | refine Mod.setBlock ?_ (by first | (simp; done) | (simp; omega)) _ | assumption))

section
variable {w : World} {p mb : Nat} {S : Nat → SegR} {bound : List (Int × Int)} (h : BridgeIs w p mb S bound)
include h

set_option maxRecDepth 100000 in
set_option maxHeartbeats 1000000 in
theorem fromTunnel_not {t now : Int} {v : Value} {k : Nat} (hk : k < 8) (hl8 : (S k).m.peers.length ≤ 8) (hc : (S k).m.peers.contains t = false) :
    Calls Try.prog 34 #[ptr p, i64 k, i64 t, v, .int .u64 now] w fun r w' => r = .returned (.tuple #[.agg #[.slice none 0 0, .slice none 0 0, .bool false], i64 6]) ∧ Mod [] w w' := by
  have ck := bridge_cell h hk
  have hpl0 := lt_of h.top
  have HS := Lib.hid (segment_in (w := w.alloc (.cells #[.slice none 0 0, .slice none 0 0, .bool false] 52)) hk (by rw [← ck]; exact Below.cell ((Below.refl _ _).alloc (Nat.le_refl _) _) hpl0))
  have hM0 : Mod [] w (w.alloc (.cells #[.slice none 0 0, .slice none 0 0, .bool false] 52)) := (Mod.refl _ _).alloc _
  have hco := contains_any ((h.seg k hk).keep (w' := w.alloc (.cells #[.slice none 0 0, .slice none 0 0, .bool false] 52)) (fun b hb => hM0.block b ((h.seg k hk).lt b hb) (by simp))).peers (by omega) t
  rw [hc] at hco
  have HC := Lib.hid hco
  obtain ⟨s0, s1, s2⟩ := cells_3 (h.seg k hk).seg
  have hsl := lt_of (h.seg k hk).seg
  obtain ⟨sl1, sl2, sl3, sl4, sl5⟩ := lts hsl
  clear h hco ck hM0
  go_enter Try.func34, Try.ntmps34
  go_wp2_with (first
    | (go_at_call 37; refine HS.out.mono ?_; rintro r w' ⟨rfl, rfl⟩)
    | (go_at_call 57; refine HC.out.mono ?_; rintro r w' ⟨rfl, rfl⟩))
  refine bodyPost_ret (v := .tuple #[.agg #[.slice none 0 0, .slice none 0 0, .bool false], i64 6]) (by simp [results, Try.results34, go_sem]) rfl ⟨rfl, ?_⟩
  (repeat (first | exact Mod.refl _ _ | refine Mod.alloc ?_ _ | refine Mod.drewN ?_ _ | refine Mod.drew ?_ | refine Mod.setCell ?_ (by first | (simp; done) | (simp; omega)) _ | refine Mod.setBlock ?_ (by first | (simp; done) | (simp; omega)) _ | assumption))

set_option maxRecDepth 100000 in
set_option maxHeartbeats 1000000 in
theorem fromTunnel_go {t now : Int} {v : Value} {d : List UInt8} {k : Nat} (hk : k < 8) (hb : Bytes w v d) (hc : (S k).m.peers.contains t = true)
    (hn : -9223372036854775808 ≤ t ∧ t ≤ 9223372036854775807) (hnow : 0 ≤ now ∧ now ≤ 18446744073709551615) (hpl : (S k).m.ports.length ≤ 100) (hql : (S k).m.peers.length ≤ 100) :
    Calls Try.prog 34 #[ptr p, i64 k, i64 t, v, .int .u64 now] w fun r w' => FrameRes (S k) (frameM (S k).m true t d now).1 (frameM (S k).m true t d now).2.1 (frameM (S k).m true t d now).2.2 w r w' := by
  have ck := bridge_cell h hk
  have hpl0 := lt_of h.top
  have HS := Lib.hid (segment_in (w := w.alloc (.cells #[.slice none 0 0, .slice none 0 0, .bool false] 52)) hk (by rw [← ck]; exact Below.cell ((Below.refl _ _).alloc (Nat.le_refl _) _) hpl0))
  have hM0 : Mod [] w (w.alloc (.cells #[.slice none 0 0, .slice none 0 0, .bool false] 52)) := (Mod.refl _ _).alloc _
  have hseg0 := (h.seg k hk).keep (w' := w.alloc (.cells #[.slice none 0 0, .slice none 0 0, .bool false] 52)) (fun b hb => hM0.block b ((h.seg k hk).lt b hb) (by simp))
  have hco := contains_any hseg0.peers (by omega) t
  rw [hc] at hco
  have HC := Lib.hid hco
  have HF := Lib.hid (frame_any (x := S k) hseg0 true t now (hb.keep hM0) hn hnow hpl hql)
  generalize frameM (S k).m true t d now = R at HF ⊢
  obtain ⟨O, e, B'⟩ := R
  obtain ⟨s0, s1, s2⟩ := cells_3 (h.seg k hk).seg
  have hsl := lt_of (h.seg k hk).seg
  obtain ⟨sl1, sl2, sl3, sl4, sl5⟩ := lts hsl
  have hsw : (w.alloc (.cells #[.slice none 0 0, .slice none 0 0, .bool false] 52)).heap.size = w.heap.size + 1 := by simp
  have HSW := Lib.hid hsw
  have hfl : w.heap.size ∉ (S k).foot := fun hh => Nat.lt_irrefl _ ((h.seg k hk).lt _ hh)
  have HFL := Lib.hid hfl
  have HO : blk (w.alloc (.cells #[.slice none 0 0, .slice none 0 0, .bool false] 52)) w.heap.size = some (.cells #[.slice none 0 0, .slice none 0 0, .bool false] 52 (0, 0)) := heap_alloc_at _ _ _ rfl
  have HOH := Lib.hid HO
  clear h hM0 hb hsw hfl HO hco hseg0 ck
  go_enter Try.func34, Try.ntmps34
  go_wp2_with (first
    | (go_at_call 37; refine HS.out.mono ?_; rintro r w' ⟨rfl, rfl⟩)
    | (go_at_call 57; refine HC.out.mono ?_; rintro r w' ⟨rfl, rfl⟩)
    | (go_at_call 41; refine HF.out.mono ?_; rintro r w2 ⟨pv, qv, x', rfl, hpv, hqv, hxs, hxm, hS2, hm2, hft, hdj⟩; have HDJ := Lib.hid hdj; obtain ⟨a1, n1, c1, rfl⟩ := hpv.form; obtain ⟨a2, n2, c2, rfl⟩ := hqv.form; have HP := Lib.hid hpv; have HQ := Lib.hid hqv; have HXS := Lib.hid hxs; have HXM := Lib.hid hxm; have HS2 := Lib.hid hS2; have HFT := Lib.hid hft; have ho2 := hm2.keep HOH.out (fun hh => HFL.out (SegR.mem_foot.2 (.inr (.inl hh)))); obtain ⟨o0, o1, o2⟩ := cells_3 ho2; have g0 := free_of ho2 0; have g1 := free_of ho2 1; have g2 := free_of ho2 2; have ol := lt_of ho2; clear ho2 hpv hqv hxs hxm hS2 hft hdj))
  have hw2 : Mod (S k).F w w2 := ((Mod.refl [] w).alloc _).nil.trans hm2 (fun b hb => .inl hb)
  have hne : ∀ b, w.heap.size + 1 ≤ b → b ≠ w.heap.size := fun b hb => by omega
  refine bodyPost_ret (v := .tuple #[.agg #[.slice a1 n1 c1, .slice a2 n2 c2, .bool O.flood], i64 e]) (by simp [results, Try.results34, go_sem, o0, o1, o2, ol, size_setCell, cell_set_self]) rfl ?_
  refine ⟨_, _, x', rfl, (HP.out.later (by rw [HSW.out]; omega)).keep (fun b hb => ?_), (HQ.out.later (by rw [HSW.out]; omega)).keep (fun b hb => ?_), HXS.out, HXM.out, HS2.out.keep (fun b hb => ?_), ?_, ?_, HDJ.out⟩
  · have h1 := (HP.out.lt b hb).1
    rw [HSW.out] at h1
    rw [heap_setCell_ne _ _ _ _ (hne b h1), heap_setCell_ne _ _ _ _ (hne b h1), heap_setCell_ne _ _ _ _ (hne b h1)]
  · have h1 := (HQ.out.lt b hb).1
    rw [HSW.out] at h1
    rw [heap_setCell_ne _ _ _ _ (hne b h1), heap_setCell_ne _ _ _ _ (hne b h1), heap_setCell_ne _ _ _ _ (hne b h1)]
  · have h1 : b ≠ w.heap.size := fun e => by
      rcases HFT.out b hb with h2 | h2
      · exact HFL.out (e ▸ h2)
      · rw [HSW.out] at h2; omega
    rw [heap_setCell_ne _ _ _ _ h1, heap_setCell_ne _ _ _ _ h1, heap_setCell_ne _ _ _ _ h1]
  · exact ((hw2.setCell (.inr (Nat.le_refl _)) _).setCell (.inr (Nat.le_refl _)) _).setCell (.inr (Nat.le_refl _)) _
  · intro b hb
    rcases HFT.out b hb with h2 | h2
    · exact .inl h2
    · rw [HSW.out] at h2; exact .inr (by omega)
end

/-! ### on the model -/
theorem Bytes.mod {w w' : World} {S : List Nat} {v : Value} {d : List UInt8} (h : Bytes w v d) (hm : Mod S w w') (hd : ∀ a n c, v = .slice (some a) n c → a.block ∉ S) : Bytes w' v d := by
  rcases h with h | ⟨bb, off, c, h1, h2, h3, h4⟩
  · exact .inl h
  · exact .inr ⟨bb, off, c, h1, h2, Nat.lt_of_lt_of_le h3 hm.size, fun i hi => (hm.cell h3 (hd _ _ _ h1) _).trans (h4 i hi)⟩

/-- What a frame's call hands back, beside what becomes of the bridge: what goes out lies apart from it. -/
def OutTurns (O : OutM) (e : Int) (p : Nat) (G : List Nat) (M' : BridgeM) (w : World) (r : Ending) (w' : World) : Prop :=
  ∃ pv qv G', r = .returned (.tuple #[.agg #[pv, qv, .bool O.flood], i64 e]) ∧ Ints w' w.heap.size pv O.ports ∧ Ints w' w.heap.size qv O.tunnels ∧
    BridgeAt w' p G' M' ∧ Mod G w w' ∧ (∀ b, b ∈ G' → b ∈ G ∨ w.heap.size ≤ b) ∧ ∀ b, (pv.ownBlock = some b ∨ qv.ownBlock = some b) → b ∉ G'
theorem OutTurns.both {O : OutM} {e : Int} {p : Nat} {G : List Nat} {M' : BridgeM} {w w' : World} {r : Ending} (h : OutTurns O e p G M' w r w') : OutRes O e w r w' ∧ Turns p G M' w w' := by
  obtain ⟨pv, qv, G', h1, h2, h3, h4, h5, h6, _⟩ := h
  exact ⟨⟨pv, qv, h1, h2, h3⟩, G', h4, h5, h6⟩

section
variable {w : World} {p : Nat} {G : List Nat} {M : BridgeM} (h : BridgeAt w p G M)
include h

theorem zero_res (e : Int) {r : Ending} {w' : World} (hr : r = .returned (.tuple #[.agg #[.slice none 0 0, .slice none 0 0, .bool false], i64 e]) ∧ Mod [] w w') : OutTurns zeroOut e p G M w r w' :=
  ⟨_, _, G, hr.1, Ints.nil _ _, Ints.nil _ _, h.mod hr.2 (by simp), hr.2.nil, fun _ hb => .inl hb, fun b hb => by rcases hb with hb | hb <;> cases hb⟩

omit h in
/-- A frame's walk through a segment, said of the bridge. -/
theorem step_res {k : Nat} {tun : Bool} {n now : Int} {d : List UInt8} {mb : Nat} {S : Nat → SegR} (hk : k < 8) (h1 : BridgeIs w p mb S M.bound) (h2 : ∀ i, i < 8 → (S i).m = M.segs i) (h3 : M.Ok) {r : Ending} {w' : World}
    (hr : FrameRes (S k) (frameM (M.segs k) tun n d now).1 (frameM (M.segs k) tun n d now).2.1 (frameM (M.segs k) tun n d now).2.2 w r w') :
    OutTurns (frameStep M k tun n d now).1 (frameStep M k tun n d now).2.1 p (brFoot p mb S) (frameStep M k tun n d now).2.2 w r w' := by
  obtain ⟨pv, qv, x', rfl, hp, hq, hxs, hxm, hS, hm, hf, hdj⟩ := hr
  have hMM : Mod (mb :: (S k).s :: (S k).F) w w' := hm.mono (fun b hb => by simp [hb])
  obtain ⟨es, clock, hb, hmap⟩ := h1.map
  have hmb : mb ∉ (S k).F := fun e => (h1.out k hk mb (SegR.mem_foot.2 (.inr (.inl e)))).2 rfl
  refine ⟨pv, qv, _, rfl, hp, hq, ⟨mb, setF S k x', h1.update hk hxs hS hMM ⟨es, clock, hm.keep hb hmb, hmap⟩ hf, setM_eq h2 ?_, frameStep_ok h3 _ _ _ _ _, rfl⟩, hMM.mono (work_foot hk), brFoot_setF hk hf, fun b hb hb2 => ?_⟩
  · rw [hxm, h2 k hk]
  · have h5 : w.heap.size ≤ b := by
      rcases hb with hb | hb
      · exact (hp.lt b hb).1
      · exact (hq.lt b hb).1
    have h6 := h1.lt
    rcases mem_brFoot.1 hb2 with rfl | rfl | ⟨i, hi, hb3⟩
    · have := h6 b (mem_brFoot.2 (.inl rfl)); omega
    · have := h6 b (mem_brFoot.2 (.inr (.inl rfl))); omega
    · by_cases hik : i = k
      · subst hik; rw [setF_eq] at hb3; exact hdj b hb hb3
      · rw [setF_ne _ _ hik] at hb3
        have := h6 b (mem_brFoot.2 (.inr (.inr ⟨i, hi, hb3⟩))); omega

theorem fromPort_out {port now : Int} {v : Value} {d : List UInt8} (hb : Bytes w v d) (hn : -9223372036854775808 ≤ port ∧ port ≤ 9223372036854775807) (hnow : 0 ≤ now ∧ now ≤ 18446744073709551615) :
    Calls Try.prog 18 #[ptr p, i64 port, v, .int .u64 now] w fun r w' => OutTurns (fromPortM M port d now).1 (fromPortM M port d now).2.1 p G (fromPortM M port d now).2.2 w r w' := by
  obtain ⟨mb, S, h1, h2, h3, rfl⟩ := id h
  unfold fromPortM
  cases hl : look port M.bound with
  | none => exact (fromPort_none h1 hl).mono fun r w' hr => zero_res h 6 hr
  | some n =>
    obtain ⟨_, hn0, hn8⟩ := look_ok h3 hl
    obtain ⟨k, hk, rfl, hkn⟩ := toNat_of (by omega) hn8
    simp only [hkn]
    have hpl : (S k).m.ports.length ≤ 100 := by rw [h2 k hk]; have := h3.portsLen hk; omega
    have hql : (S k).m.peers.length ≤ 100 := by rw [h2 k hk]; have := h3.peers k hk; omega
    refine (fromPort_some h1 hk hl hb hn hnow hpl hql).mono fun r w' hr => ?_
    rw [h2 k hk] at hr
    exact step_res hk h1 h2 h3 hr
theorem fromTunnel_out2 {n t now : Int} {v : Value} {d : List UInt8} (hb : Bytes w v d) (hn : -9223372036854775808 ≤ t ∧ t ≤ 9223372036854775807) (hnow : 0 ≤ now ∧ now ≤ 18446744073709551615) :
    Calls Try.prog 34 #[ptr p, i64 n, i64 t, v, .int .u64 now] w fun r w' => OutTurns (fromTunnelM M n t d now).1 (fromTunnelM M n t d now).2.1 p G (fromTunnelM M n t d now).2.2 w r w' := by
  obtain ⟨mb, S, h1, h2, h3, rfl⟩ := id h
  unfold fromTunnelM
  by_cases hc : n < 0 ∨ 8 ≤ n
  · rw [if_pos hc]
    exact (fromTunnel_out hc).mono fun r w' hr => zero_res h 6 hr
  · rw [if_neg hc]
    obtain ⟨k, hk, rfl, hkn⟩ := toNat_of (n := n) (by omega) (by omega)
    rw [hkn]
    have hpl : (S k).m.ports.length ≤ 100 := by rw [h2 k hk]; have := h3.portsLen hk; omega
    have hql : (S k).m.peers.length ≤ 8 := by rw [h2 k hk]; exact h3.peers k hk
    by_cases hco : (M.segs k).peers.contains t = true
    · rw [if_pos hco]
      refine (fromTunnel_go h1 hk hb (by rw [h2 k hk]; exact hco) hn hnow hpl (by omega)).mono fun r w' hr => ?_
      rw [h2 k hk] at hr
      exact step_res hk h1 h2 h3 hr
    · rw [if_neg hco]
      exact (fromTunnel_not h1 hk hql (by rw [h2 k hk]; simpa using hco)).mono fun r w' hr => zero_res h 6 hr
theorem fromPort_any {port now : Int} {v : Value} {d : List UInt8} (hb : Bytes w v d) (hn : -9223372036854775808 ≤ port ∧ port ≤ 9223372036854775807) (hnow : 0 ≤ now ∧ now ≤ 18446744073709551615) :
    Calls Try.prog 18 #[ptr p, i64 port, v, .int .u64 now] w fun r w' => OutRes (fromPortM M port d now).1 (fromPortM M port d now).2.1 w r w' ∧ Turns p G (fromPortM M port d now).2.2 w w' :=
  (fromPort_out h hb hn hnow).mono fun _ _ hr => hr.both
theorem fromTunnel_any {n t now : Int} {v : Value} {d : List UInt8} (hb : Bytes w v d) (hn : -9223372036854775808 ≤ t ∧ t ≤ 9223372036854775807) (hnow : 0 ≤ now ∧ now ≤ 18446744073709551615) :
    Calls Try.prog 34 #[ptr p, i64 n, i64 t, v, .int .u64 now] w fun r w' => OutRes (fromTunnelM M n t d now).1 (fromTunnelM M n t d now).2.1 w r w' ∧ Turns p G (fromTunnelM M n t d now).2.2 w w' :=
  (fromTunnel_out2 h hb hn hnow).mono fun _ _ hr => hr.both
end
end Go.Proofs.Ytmhfpiincnadiaa
