/- Two bridges side by side. -/
import Derived.Test.YtmhfpiincnadiaaBr22
namespace Go.Proofs.Ytmhfpiincnadiaa
open Go.RowKit
open Go.ChangeMaps (setBlock)
set_option linter.unusedSimpArgs false
set_option linter.unusedVariables false

/-- Two bridges of one's own, apart; the second one's blocks lie ahead of block nb. -/
def Pair (w0 w : World) (pa pb : Nat) (Ma Mb : BridgeM) (nb : Nat) : Prop :=
  ∃ Ga Gb, BridgeAt w pa Ga Ma ∧ BridgeAt w pb Gb Mb ∧ Mod [] w0 w ∧ (∀ b, b ∈ Ga → w0.heap.size ≤ b) ∧ (∀ b, b ∈ Gb → w0.heap.size ≤ b) ∧ (∀ b, b ∈ Ga → b ∉ Gb) ∧ ∀ b, b ∈ Gb → b < nb

theorem Pair.mod0 {w0 w : World} {pa pb nb : Nat} {Ma Mb : BridgeM} (h : Pair w0 w pa pb Ma Mb nb) : Mod [] w0 w := by
  obtain ⟨Ga, Gb, _, _, h3, _⟩ := h; exact h3
theorem Pair.later {w0 w w' : World} {pa pb nb : Nat} {Ma Mb : BridgeM} (h : Pair w0 w pa pb Ma Mb nb) (hm : Mod [] w w') : Pair w0 w' pa pb Ma Mb nb := by
  obtain ⟨Ga, Gb, h1, h2, h3, h4⟩ := h
  exact ⟨Ga, Gb, h1.mod hm (by simp), h2.mod hm (by simp), h3.trans hm (by simp), h4⟩
theorem Pair.first {w0 w : World} {pa pb nb : Nat} {Ma Mb : BridgeM} (h : Pair w0 w pa pb Ma Mb nb) : Live w0 w pa Ma [] := by
  obtain ⟨Ga, Gb, h1, h2, h3, h4, h5⟩ := h
  exact ⟨Ga, h1, h3, h4, fun b hb => by cases hb⟩
theorem Pair.second {w0 w : World} {pa pb nb : Nat} {Ma Mb : BridgeM} (h : Pair w0 w pa pb Ma Mb nb) : Live w0 w pb Mb [] := by
  obtain ⟨Ga, Gb, h1, h2, h3, h4, h5, h6⟩ := h
  exact ⟨Gb, h2, h3, h5, fun b hb => by cases hb⟩
theorem pair_new {w0 w1 w2 : World} {pa pb : Nat} {Ma Mb : BridgeM} (h : Live w0 w1 pa Ma []) (h' : ∃ G, BridgeAt w2 pb G Mb ∧ ∀ b, b ∈ G → w1.heap.size ≤ b) (hm : Mod [] w1 w2) : Pair w0 w2 pa pb Ma Mb w2.heap.size := by
  obtain ⟨Ga, h1, h2, h3, _⟩ := h
  obtain ⟨Gb, g1, g2⟩ := h'
  have hs := h2.size
  refine ⟨Ga, Gb, h1.mod hm (by simp), g1, h2.trans hm (by simp), h3, fun b hb => ?_, fun b hb hb2 => ?_, g1.lt⟩
  · have := g2 b hb; omega
  · have := g2 b hb2; have := h1.lt b hb; omega

section
variable {w0 w : World} {pa pb nb : Nat} {Ma Mb : BridgeM} (h : Pair w0 w pa pb Ma Mb nb)
include h
theorem Pair.stepA (x : StepM) {v : Value} (now : Int) (hb : Bytes w v x.b) (hn : -9223372036854775808 ≤ x.n ∧ x.n ≤ 9223372036854775807) (hnow : 0 ≤ now ∧ now ≤ 18446744073709551615) :
    Calls Try.prog 15 #[ptr pa, .agg #[i64 x.kind, i64 x.n, i64 x.s, v, .int .u8 (x.by_ : Int)], .int .u64 now] w fun r w' => OutRes (doesM Ma x now).1 (doesM Ma x now).2.1 w r w' ∧ Pair w0 w' pa pb (doesM Ma x now).2.2 Mb w.heap.size ∧ w.heap.size ≤ w'.heap.size := by
  obtain ⟨Ga, Gb, h1, h2, h3, h4, h5, h6, h7⟩ := h
  refine (does_any h1 x now hb hn hnow).mono fun r w' hr => ⟨hr.1, ?_, hr.2.choose_spec.2.1.size⟩
  obtain ⟨Ga', g1, g2, g3⟩ := hr.2
  have hs := h3.size
  refine ⟨Ga', Gb, g1, h2.mod g2 (fun b hb2 hb3 => h6 b hb3 hb2), h3.trans g2 (fun k hk => .inr (h4 k hk)), fun b hb2 => ?_, h5, fun b hb2 hb3 => ?_, fun b hb2 => h2.lt b hb2⟩
  · rcases g3 b hb2 with h | h
    · exact h4 b h
    · omega
  · rcases g3 b hb2 with h | h
    · exact h6 b h hb3
    · have := h2.lt b hb3; omega
theorem Pair.stepB (x : StepM) {v : Value} (now : Int) (hb : Bytes w v x.b) (hn : -9223372036854775808 ≤ x.n ∧ x.n ≤ 9223372036854775807) (hnow : 0 ≤ now ∧ now ≤ 18446744073709551615) :
    Calls Try.prog 15 #[ptr pb, .agg #[i64 x.kind, i64 x.n, i64 x.s, v, .int .u8 (x.by_ : Int)], .int .u64 now] w fun r w' => OutRes (doesM Mb x now).1 (doesM Mb x now).2.1 w r w' ∧ Pair w0 w' pa pb Ma (doesM Mb x now).2.2 w'.heap.size ∧ w.heap.size ≤ w'.heap.size ∧ ∀ g, nb ≤ g → g < w.heap.size → blk w' g = blk w g := by
  obtain ⟨Ga, Gb, h1, h2, h3, h4, h5, h6, h7⟩ := h
  refine (does_any h2 x now hb hn hnow).mono fun r w' hr => ⟨hr.1, ?_, hr.2.choose_spec.2.1.size, ?_⟩
  · obtain ⟨Gb', g1, g2, g3⟩ := hr.2
    have hs := h3.size
    refine ⟨Ga, Gb', h1.mod g2 (fun b hb2 hb3 => h6 b hb2 hb3), g1, h3.trans g2 (fun k hk => .inr (h5 k hk)), h4, fun b hb2 => ?_, fun b hb2 hb3 => ?_, fun b hb2 => g1.lt b hb2⟩
    · rcases g3 b hb2 with h | h
      · exact h5 b h
      · omega
    · rcases g3 b hb3 with h | h
      · exact h6 b hb2 h
      · have := h1.lt b hb2; omega
  · obtain ⟨Gb', g1, g2, g3⟩ := hr.2
    intro g hg1 hg2
    exact g2.block g hg2 (fun hg => by have := h7 g hg; omega)
end

theorem bridgeNew_pair (room life : Int) (w : World) (hl0 : 0 ≤ life) (hl1 : life ≤ 18446744073709551615) {w0 : World} {pa : Nat} {Ma : BridgeM} (h : Live w0 w pa Ma []) :
    Calls Try.prog 14 #[i64 room, .int .u64 life] w fun r w' => ∃ pb, r = .returned (ptr pb) ∧ Pair w0 w' pa pb Ma (newM room life) w'.heap.size := by
  refine (bridgeNew_any room life w hl0 hl1).mono ?_
  rintro r w' ⟨p, G, rfl, hB, hm, hG⟩
  exact ⟨p, rfl, pair_new h ⟨G, hB, hG⟩ hm⟩
end Go.Proofs.Ytmhfpiincnadiaa
