/- A bridge that lives beside what a statement holds; shown: the small case. -/
import Derived.Test.YtmhfpiincnadiaaBr14
import Derived.Test.YtmhfpiincnadiaaBr15
namespace Go.Proofs.Ytmhfpiincnadiaa
open Go.RowKit
open Go.ChangeMaps (setBlock)
set_option linter.unusedSimpArgs false
set_option linter.unusedVariables false

/-- A bridge of one's own (made behind world w0), that has none of the blocks K. -/
def Live (w0 w : World) (p : Nat) (M : BridgeM) (K : List Nat) : Prop :=
  ∃ G, BridgeAt w p G M ∧ Mod [] w0 w ∧ (∀ b, b ∈ G → w0.heap.size ≤ b) ∧ ∀ b, b ∈ K → b < w.heap.size ∧ b ∉ G
def Keeps (K : List Nat) (w w' : World) : Prop := ∀ b, b ∈ K → blk w' b = blk w b
theorem Live.lt {w0 w : World} {p : Nat} {M : BridgeM} {K : List Nat} (h : Live w0 w p M K) : ∀ b, b ∈ K → b < w.heap.size := by
  obtain ⟨G, _, _, _, h4⟩ := h; exact fun b hb => (h4 b hb).1
theorem Live.mod0 {w0 w : World} {p : Nat} {M : BridgeM} {K : List Nat} (h : Live w0 w p M K) : Mod [] w0 w := by
  obtain ⟨G, _, h2, _⟩ := h; exact h2
theorem Live.later {w0 w w' : World} {p : Nat} {M : BridgeM} {K : List Nat} (h : Live w0 w p M K) (hm : Mod [] w w') : Live w0 w' p M K := by
  obtain ⟨G, h1, h2, h3, h4⟩ := h
  exact ⟨G, h1.mod hm (by simp), h2.trans hm (by simp), h3, fun b hb => ⟨Nat.lt_of_lt_of_le (h4 b hb).1 hm.size, (h4 b hb).2⟩⟩
theorem Live.add {w0 w w1 : World} {p : Nat} {M : BridgeM} {K : List Nat} (h : Live w0 w p M K) (hm : Mod [] w w1) {b : Nat} (h1 : w.heap.size ≤ b) (h2 : b < w1.heap.size) : Live w0 w1 p M (b :: K) := by
  obtain ⟨G, g1, g2, g3, g4⟩ := h
  refine ⟨G, g1.mod hm (by simp), g2.trans hm (by simp), g3, fun c hc => ?_⟩
  rcases List.mem_cons.1 hc with rfl | hc
  · exact ⟨h2, fun e => by have := g1.lt c e; omega⟩
  · exact ⟨Nat.lt_of_lt_of_le (g4 c hc).1 hm.size, (g4 c hc).2⟩
theorem Live.set {w0 w : World} {p : Nat} {M : BridgeM} {K : List Nat} (h : Live w0 w p M K) {b i : Nat} (hb : b ∈ K) (hw : w0.heap.size ≤ b) (v : Value) : Live w0 (w.setCell ⟨b, i, none⟩ v) p M K := by
  obtain ⟨G, g1, g2, g3, g4⟩ := h
  refine ⟨G, g1.mod (T := [b]) ((Mod.refl _ _).setCell (.inl (by simp)) _) (fun c hc => ?_), g2.setCell (.inr hw) _, g3, fun c hc => ?_⟩
  · simp only [List.mem_singleton]
    rintro rfl
    exact (g4 c hb).2 hc
  · rw [size_setCell]; exact g4 c hc
theorem Live.turns {w0 w w' : World} {p : Nat} {M' : BridgeM} {K G : List Nat} (h2 : Mod [] w0 w) (h3 : ∀ b, b ∈ G → w0.heap.size ≤ b) (h4 : ∀ b, b ∈ K → b < w.heap.size ∧ b ∉ G) (ht : Turns p G M' w w') : Live w0 w' p M' K ∧ Keeps K w w' := by
  obtain ⟨G', g1, g2, g3⟩ := ht
  have hs := h2.size
  refine ⟨⟨G', g1, h2.trans g2 (fun k hk => .inr (h3 k hk)), fun b hb => ?_, fun b hb => ⟨Nat.lt_of_lt_of_le (h4 b hb).1 g2.size, fun e => ?_⟩⟩, fun b hb => g2.block b (h4 b hb).1 (h4 b hb).2⟩
  · rcases g3 b hb with h | h
    · exact h3 b h
    · omega
  · rcases g3 b e with h | h
    · exact (h4 b hb).2 h
    · have := (h4 b hb).1; omega

section
variable {w0 w : World} {p : Nat} {M : BridgeM} {K : List Nat} (h : Live w0 w p M K)
include h
theorem Live.bind {port to e : Int} {M' : BridgeM} (he : bindM M port to = (e, M')) : Calls Try.prog 20 #[ptr p, i64 port, i64 to] w fun r w' => r = .returned (i64 e) ∧ Live w0 w' p M' K ∧ Keeps K w w' := by
  obtain ⟨G, h1, h2, h3, h4⟩ := h
  refine (bind_any h1 port to).mono fun r w' hr => ?_
  rw [he] at hr
  exact ⟨hr.1, Live.turns h2 h3 h4 hr.2⟩
theorem Live.unbind {port e : Int} {M' : BridgeM} (he : unbindM M port = (e, M')) : Calls Try.prog 21 #[ptr p, i64 port] w fun r w' => r = .returned (i64 e) ∧ Live w0 w' p M' K ∧ Keeps K w w' := by
  obtain ⟨G, h1, h2, h3, h4⟩ := h
  refine (unbind_any h1 port).mono fun r w' hr => ?_
  rw [he] at hr
  exact ⟨hr.1, Live.turns h2 h3 h4 hr.2⟩
theorem Live.peer {n t e : Int} {M' : BridgeM} (he : peerM M n t = (e, M')) : Calls Try.prog 32 #[ptr p, i64 n, i64 t] w fun r w' => r = .returned (i64 e) ∧ Live w0 w' p M' K ∧ Keeps K w w' := by
  obtain ⟨G, h1, h2, h3, h4⟩ := h
  refine (peer_any h1 n t).mono fun r w' hr => ?_
  rw [he] at hr
  exact ⟨hr.1, Live.turns h2 h3 h4 hr.2⟩
theorem Live.segment (n : Int) : Calls Try.prog 19 #[ptr p, i64 n] w fun r w' => r = .returned (.tuple #[i64 ((look n M.bound).getD 0), .bool (look n M.bound).isSome]) ∧ w = w' := by
  obtain ⟨G, h1, h2, h3, h4⟩ := h
  exact segmentOf_at h1 n w (Mod.refl _ _)
theorem Live.base {k : Nat} (hk : k < 8) : Calls Try.prog 16 #[ptr p, i64 k] w fun r w' => ∃ q F, r = .returned (ptr q) ∧ BaseAt w' q F (M.segs k).base ∧ w = w' := by
  obtain ⟨G, ⟨mb, S, h1, h2, h3, rfl⟩, _⟩ := h
  refine (base_in h1 hk).mono ?_
  rintro r w' ⟨rfl, rfl⟩
  have := (h1.seg k hk).base
  rw [h2 k hk] at this
  exact ⟨_, _, rfl, this, rfl⟩
theorem Live.ports {k : Nat} (hk : k < 8) : Calls Try.prog 22 #[ptr p, i64 k] w fun r w' => ∃ v, r = .returned v ∧ Ints w' w.heap.size v (M.segs k).ports ∧ Mod [] w w' := by
  obtain ⟨G, ⟨mb, S, h1, h2, h3, rfl⟩, _⟩ := h
  have := ports_any h1 hk (by rw [h2 k hk]; have := h3.portsLen hk; omega)
  rw [h2 k hk] at this
  exact this
theorem Live.peers {k : Nat} (hk : k < 8) : Calls Try.prog 24 #[ptr p, i64 k] w fun r w' => ∃ v, r = .returned v ∧ Ints w' w.heap.size v (M.segs k).peers ∧ Mod [] w w' := by
  obtain ⟨G, ⟨mb, S, h1, h2, h3, rfl⟩, _⟩ := h
  have := peers_any h1 hk (by rw [h2 k hk]; have := h3.peers k hk; omega)
  rw [h2 k hk] at this
  exact this
theorem Live.ok : M.Ok := by
  obtain ⟨G, ⟨mb, S, h1, h2, h3, rfl⟩, _⟩ := h
  exact h3
theorem Live.outs {O : OutM} {e : Int} {M' : BridgeM} {f : Nat} {args : Array Value} (hc : ∀ G, BridgeAt w p G M → Calls Try.prog f args w fun r w' => OutTurns O e p G M' w r w') :
    Calls Try.prog f args w fun r w' => ∃ pv qv, r = .returned (.tuple #[.agg #[pv, qv, .bool O.flood], i64 e]) ∧ Ints w' w.heap.size pv O.ports ∧ Ints w' w.heap.size qv O.tunnels ∧ Live w0 w' p M' (pv.ownBlock.toList ++ (qv.ownBlock.toList ++ K)) ∧ Keeps K w w' := by
  obtain ⟨G, h1, h2, h3, h4⟩ := h
  refine (hc G h1).mono ?_
  rintro r w' ⟨pv, qv, G', rfl, hp, hq, g1, g2, g3, g4⟩
  have hs := h2.size
  refine ⟨pv, qv, rfl, hp, hq, ⟨G', g1, h2.trans g2 (fun k hk => .inr (h3 k hk)), fun b hb => ?_, fun b hb => ?_⟩, fun b hb => g2.block b (h4 b hb).1 (h4 b hb).2⟩
  · rcases g3 b hb with h | h
    · exact h3 b h
    · omega
  · rcases List.mem_append.1 hb with hb | hb
    · have hb' := ownBlock_mem.1 hb
      exact ⟨(hp.lt b hb').2, g4 b (.inl hb')⟩
    · rcases List.mem_append.1 hb with hb | hb
      · have hb' := ownBlock_mem.1 hb
        exact ⟨(hq.lt b hb').2, g4 b (.inr hb')⟩
      · refine ⟨Nat.lt_of_lt_of_le (h4 b hb).1 g2.size, fun e => ?_⟩
        rcases g3 b e with h | h
        · exact (h4 b hb).2 h
        · have := (h4 b hb).1; omega
theorem Live.fromPort {port now e : Int} {v : Value} {d : List UInt8} {O : OutM} {M' : BridgeM} (he : fromPortM M port d now = (O, e, M')) (hb : Bytes w v d) (hn : -9223372036854775808 ≤ port ∧ port ≤ 9223372036854775807) (hnow : 0 ≤ now ∧ now ≤ 18446744073709551615) :
    Calls Try.prog 18 #[ptr p, i64 port, v, .int .u64 now] w fun r w' => ∃ pv qv, r = .returned (.tuple #[.agg #[pv, qv, .bool O.flood], i64 e]) ∧ Ints w' w.heap.size pv O.ports ∧ Ints w' w.heap.size qv O.tunnels ∧ Live w0 w' p M' (pv.ownBlock.toList ++ (qv.ownBlock.toList ++ K)) ∧ Keeps K w w' :=
  h.outs fun G hG => by have := fromPort_out hG hb hn hnow (port := port); rw [he] at this; exact this
theorem Live.fromTunnel {n t now e : Int} {v : Value} {d : List UInt8} {O : OutM} {M' : BridgeM} (he : fromTunnelM M n t d now = (O, e, M')) (hb : Bytes w v d) (hn : -9223372036854775808 ≤ t ∧ t ≤ 9223372036854775807) (hnow : 0 ≤ now ∧ now ≤ 18446744073709551615) :
    Calls Try.prog 34 #[ptr p, i64 n, i64 t, v, .int .u64 now] w fun r w' => ∃ pv qv, r = .returned (.tuple #[.agg #[pv, qv, .bool O.flood], i64 e]) ∧ Ints w' w.heap.size pv O.ports ∧ Ints w' w.heap.size qv O.tunnels ∧ Live w0 w' p M' (pv.ownBlock.toList ++ (qv.ownBlock.toList ++ K)) ∧ Keeps K w w' :=
  h.outs fun G hG => by have := fromTunnel_out2 hG hb hn hnow (n := n); rw [he] at this; exact this
end
theorem live_new (room life : Int) (w : World) (hl0 : 0 ≤ life) (hl1 : life ≤ 18446744073709551615) {w0 : World} (h0 : Mod [] w0 w) :
    Calls Try.prog 14 #[i64 room, .int .u64 life] w fun r w' => ∃ p, r = .returned (ptr p) ∧ Live w0 w' p (newM room life) [] ∧ Mod [] w w' := by
  refine (bridgeNew_any room life w hl0 hl1).mono ?_
  rintro r w' ⟨p, G, rfl, hB, hm, hG⟩
  have := h0.size
  exact ⟨p, rfl, ⟨G, hB, h0.trans hm (by simp), fun b hb => by have := hG b hb; omega, fun b hb => by cases hb⟩, hm⟩

/-! ### the small case, on the model -/
def m2 : Mac := ⟨2, 0, 0, 0, 0, 0⟩
def m4 : Mac := ⟨4, 0, 0, 0, 0, 0⟩
def sh1 := bindM (newM 8 100) 1 0
def sh2 := bindM sh1.2 2 0
def sh3 := bindM sh2.2 3 1
def sh4 := peerM sh3.2 0 5
def sh5 := fromPortM sh4.2 1 (frameBytes m4 m2) 1
def sh6 := fromTunnelM sh5.2.2 0 5 (frameBytes m2 m4) 2
def sh7 := fromPortM sh6.2.2 1 (frameBytes m4 m2) 3
def sh8 := fromPortM sh7.2.2 9 (frameBytes m4 m2) 3
theorem out_ext {O : OutM} {p t : List Int} {f : Bool} (h : O.ports = p ∧ O.tunnels = t ∧ O.flood = f) : O = ⟨p, t, f⟩ := by
  obtain ⟨a, b, c⟩ := O
  obtain ⟨rfl, rfl, rfl⟩ := h
  rfl
theorem pair_ext {α : Type} {x : Int × α} {e : Int} (h : x.1 = e) : x = (e, x.2) := by rw [← h]
theorem trip_ext {α β : Type} {x : α × Int × β} {O : α} {e : Int} (h : x.1 = O) (h2 : x.2.1 = e) : x = (O, e, x.2.2) := by rw [← h, ← h2]
theorem sh1_is : bindM (newM 8 100) 1 0 = (0, sh1.2) := pair_ext (by decide +kernel)
theorem sh2_is : bindM sh1.2 2 0 = (0, sh2.2) := pair_ext (by decide +kernel)
theorem sh3_is : bindM sh2.2 3 1 = (0, sh3.2) := pair_ext (by decide +kernel)
theorem sh4_is : peerM sh3.2 0 5 = (0, sh4.2) := pair_ext (by decide +kernel)
theorem sh5_is : fromPortM sh4.2 1 (frameBytes m4 m2) 1 = (⟨[2], [5], true⟩, 0, sh5.2.2) := trip_ext (out_ext (by decide +kernel)) (by decide +kernel)
theorem sh6_is : fromTunnelM sh5.2.2 0 5 (frameBytes m2 m4) 2 = (⟨[1], [], false⟩, 0, sh6.2.2) := trip_ext (out_ext (by decide +kernel)) (by decide +kernel)
theorem sh7_is : fromPortM sh6.2.2 1 (frameBytes m4 m2) 3 = (⟨[], [5], false⟩, 0, sh7.2.2) := trip_ext (out_ext (by decide +kernel)) (by decide +kernel)
theorem sh8_is : fromPortM sh7.2.2 9 (frameBytes m4 m2) 3 = (zeroOut, 6, sh8.2.2) := trip_ext (out_ext (by decide +kernel)) (by decide +kernel)
end Go.Proofs.Ytmhfpiincnadiaa
