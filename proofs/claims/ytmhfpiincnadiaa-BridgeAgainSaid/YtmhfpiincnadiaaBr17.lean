/- shown: the small case of the statements of layer 16. -/
import Derived.Test.YtmhfpiincnadiaaBr16
namespace Go.Proofs.Ytmhfpiincnadiaa
open Go.RowKit
open Go.ChangeMaps (setBlock)
set_option linter.unusedSimpArgs false
set_option linter.unusedVariables false

theorem mkframe_42 (w : World) : Calls Try.prog 33 #[.agg #[.int .u8 4, .int .u8 0, .int .u8 0, .int .u8 0, .int .u8 0, .int .u8 0], .agg #[.int .u8 2, .int .u8 0, .int .u8 0, .int .u8 0, .int .u8 0, .int .u8 0]] w fun r w' => ∃ v, r = .returned v ∧ Bytes w' v (frameBytes m4 m2) ∧ Mod [] w w' := mkframe_any m4 m2 w
theorem mkframe_24 (w : World) : Calls Try.prog 33 #[.agg #[.int .u8 2, .int .u8 0, .int .u8 0, .int .u8 0, .int .u8 0, .int .u8 0], .agg #[.int .u8 4, .int .u8 0, .int .u8 0, .int .u8 0, .int .u8 0, .int .u8 0]] w fun r w' => ∃ v, r = .returned v ∧ Bytes w' v (frameBytes m2 m4) ∧ Mod [] w w' := mkframe_any m2 m4 w

theorem Live.sub {w0 w : World} {p : Nat} {M : BridgeM} {K K' : List Nat} (h : Live w0 w p M K) (hs : ∀ b, b ∈ K' → b ∈ K) : Live w0 w p M K' := by
  obtain ⟨G, h1, h2, h3, h4⟩ := h
  exact ⟨G, h1, h2, h3, fun b hb => h4 b (hs b hb)⟩
theorem ints_1 {w : World} {B : Nat} {v : Value} {k : Int} (h : Ints w B v [k]) : ∃ g c cur, v = .slice (some ⟨g, 0, none⟩) 1 c ∧ 1 ≤ c ∧ blk w g = some (.cells cur 3 (0, 0)) ∧ cur[0]? = some (i64 k) := by
  obtain ⟨a, c, rfl, hc, hc2, ⟨_, h0, _⟩ | ⟨g, cur, rfl, hB, hb, h3, h4⟩⟩ := h.slice
  · cases h0
  · exact ⟨g, c, cur, rfl, hc, hb, ints_at h4 (j := 0) (by simp)⟩
theorem ints_0 {w : World} {B : Nat} {v : Value} (h : Ints w B v []) : ∃ a c, v = .slice a 0 c := by
  obtain ⟨a, c, rfl, _⟩ := h.slice
  exact ⟨a, c, rfl⟩
/-- What a frame's call handed back, in a struct of its own. -/
theorem out_kept {w0 w' w'' : World} {p : Nat} {M : BridgeM} {K : List Nat} {pv qv : Value} {o : Obj} (h : Live w0 w' p M (pv.ownBlock.toList ++ (qv.ownBlock.toList ++ K))) (hw : w'' = w'.alloc o) : Live w0 w'' p M (w'.heap.size :: (pv.ownBlock.toList ++ (qv.ownBlock.toList ++ K))) := by
  subst hw
  exact h.add ((Mod.refl _ _).alloc _) (Nat.le_refl _) (by simp)

set_option maxRecDepth 100000 in
set_option maxHeartbeats 2000000 in
theorem shown_any (w : World) : Calls Try.prog 13 #[] w fun r w' => r = .returned (.bool true) ∧ Mod [] w w' := by
  go_enter Try.func13, Try.ntmps13
  go_wp2_with fail
  refine (live_new 8 100 w (by omega) (by omega) (Mod.refl [] w)).mono ?_
  rintro r w1 ⟨p, rfl, h, hm⟩
  have H0 := Lib.hid h
  clear h hm
  go_wp2_with fail
  refine (H0.out.base (k := 0) (by omega)).mono ?_
  rintro r w1' ⟨q, F, rfl, _, rfl⟩
  go_wp2_with fail
  refine (H0.out.bind sh1_is).mono ?_
  rintro r w2 ⟨rfl, h, _⟩
  have H1 := Lib.hid h
  clear h H0
  go_wp2_with fail
  refine (H1.out.bind sh2_is).mono ?_
  rintro r w3 ⟨rfl, h, _⟩
  have H2 := Lib.hid h
  clear h H1
  go_wp2_with fail
  refine (H2.out.bind sh3_is).mono ?_
  rintro r w4 ⟨rfl, h, _⟩
  have H3 := Lib.hid h
  clear h H2
  go_wp2_with fail
  refine (H3.out.peer sh4_is).mono ?_
  rintro r w5 ⟨rfl, h, _⟩
  have H4 := Lib.hid h
  clear h H3
  go_wp2_with fail
  refine (mkframe_42 _).mono ?_
  rintro r w6 ⟨v6, rfl, hb6, hm6⟩
  have H := Lib.hid (H4.out.later hm6)
  clear H4 hm6
  go_wp2_with fail
  refine (H.out.fromPort sh5_is hb6 (by omega) (by omega)).mono ?_
  rintro r w7 ⟨pv7, qv7, rfl, hp7, hq7, h, _⟩
  obtain ⟨g1, c1, cur1, rfl, hc1, hg1, he1⟩ := ints_1 hp7
  obtain ⟨g2, c2, cur2, rfl, hc2, hg2, he2⟩ := ints_1 hq7
  have hm7 : Mod [] w7 (w7.alloc (.cells #[.slice (some ⟨g1, 0, none⟩) 1 c1, .slice (some ⟨g2, 0, none⟩) 1 c2, .bool true] 52)) := (Mod.refl _ _).alloc _
  have hb := heap_alloc_at w7 (.cells #[.slice (some ⟨g1, 0, none⟩) 1 c1, .slice (some ⟨g2, 0, none⟩) 1 c2, .bool true] 52) w7.heap.size rfl
  have H5 := Lib.hid (Live.sub (K' := [w7.heap.size, g1, g2]) (out_kept (o := .cells #[.slice (some ⟨g1, 0, none⟩) 1 c1, .slice (some ⟨g2, 0, none⟩) 1 c2, .bool true] 52) h rfl) (by intro b hb; simpa [Value.ownBlock] using hb))
  have hg1' := hm7.keep hg1 (by simp)
  have hg2' := hm7.keep hg2 (by simp)
  generalize hB6 : w7.heap.size = b6 at hb H5
  have S5 := Lib.hid (And.intro hb (And.intro hg1' hg2'))
  have HB6 := Lib.hid hB6
  clear hb hg1 hg2 hg1' hg2' hm7 hp7 hq7 h H hb6 hB6
  go_wp2_with fail
  rw [HB6.out]
  refine (mkframe_24 _).mono ?_
  rintro r w8 ⟨v8, rfl, hb8, hm8⟩
  have H := Lib.hid (H5.out.later hm8)
  have S8 := Lib.hid (And.intro (hm8.keep S5.out.1 (by simp)) (And.intro (hm8.keep S5.out.2.1 (by simp)) (hm8.keep S5.out.2.2 (by simp))))
  clear H5 S5 hm8
  go_wp2_with fail
  refine (H.out.fromTunnel sh6_is hb8 (by omega) (by omega)).mono ?_
  rintro r w9 ⟨pv9, qv9, rfl, hp9, hq9, h, hk9⟩
  obtain ⟨g3, c3, cur3, rfl, hc3, hg3, he3⟩ := ints_1 hp9
  obtain ⟨a4, c4, rfl⟩ := ints_0 hq9
  have hm9 : Mod [] w9 (w9.alloc (.cells #[.slice (some ⟨g3, 0, none⟩) 1 c3, .slice a4 0 c4, .bool false] 52)) := (Mod.refl _ _).alloc _
  have hb := heap_alloc_at w9 (.cells #[.slice (some ⟨g3, 0, none⟩) 1 c3, .slice a4 0 c4, .bool false] 52) w9.heap.size rfl
  have H9 := Lib.hid (Live.sub (K' := [w9.heap.size, g3, b6, g1, g2]) (out_kept (o := .cells #[.slice (some ⟨g3, 0, none⟩) 1 c3, .slice a4 0 c4, .bool false] 52) h rfl) (by intro b hb; simp only [List.mem_cons, List.not_mem_nil, or_false] at hb; simp only [List.mem_cons, List.mem_append, ownBlock_mem, List.not_mem_nil, or_false]; rcases hb with hb | hb | hb | hb | hb <;> subst hb <;> simp [Value.ownBlock]))
  have k1 := hm9.keep ((hk9 _ (by simp)).trans S8.out.1) (by simp)
  have k2 := hm9.keep ((hk9 _ (by simp)).trans S8.out.2.1) (by simp)
  have k3 := hm9.keep ((hk9 _ (by simp)).trans S8.out.2.2) (by simp)
  have k4 := hm9.keep hg3 (by simp)
  generalize hB8 : w9.heap.size = b8 at hb H9
  have S9 := Lib.hid (And.intro hb (And.intro k4 (And.intro k1 (And.intro k2 k3))))
  have HB8 := Lib.hid hB8
  clear hb k1 k2 k3 k4 hm9 hp9 hq9 h H hb8 hB8 hg3 hk9 S8
  go_wp2_with fail
  rw [HB8.out]
  refine (mkframe_42 _).mono ?_
  rintro r w10 ⟨v10, rfl, hb10, hm10⟩
  have H := Lib.hid (H9.out.later hm10)
  have S10 := Lib.hid (And.intro (hm10.keep S9.out.1 (by simp)) (And.intro (hm10.keep S9.out.2.1 (by simp)) (And.intro (hm10.keep S9.out.2.2.1 (by simp)) (And.intro (hm10.keep S9.out.2.2.2.1 (by simp)) (hm10.keep S9.out.2.2.2.2 (by simp))))))
  clear H9 S9 hm10
  go_wp2_with fail
  refine (H.out.fromPort sh7_is hb10 (by omega) (by omega)).mono ?_
  rintro r w11 ⟨pv11, qv11, rfl, hp11, hq11, h, hk11⟩
  obtain ⟨a5, c5, rfl⟩ := ints_0 hp11
  obtain ⟨g6, c6, cur6, rfl, hc6, hg6, he6⟩ := ints_1 hq11
  have hm11 : Mod [] w11 (w11.alloc (.cells #[.slice a5 0 c5, .slice (some ⟨g6, 0, none⟩) 1 c6, .bool false] 52)) := (Mod.refl _ _).alloc _
  have hb := heap_alloc_at w11 (.cells #[.slice a5 0 c5, .slice (some ⟨g6, 0, none⟩) 1 c6, .bool false] 52) w11.heap.size rfl
  have H11 := Lib.hid (Live.sub (K' := [w11.heap.size, g6, b8, g3, b6, g1, g2]) (out_kept (o := .cells #[.slice a5 0 c5, .slice (some ⟨g6, 0, none⟩) 1 c6, .bool false] 52) h rfl) (by intro b hb; simp only [List.mem_cons, List.not_mem_nil, or_false] at hb; simp only [List.mem_cons, List.mem_append, ownBlock_mem, List.not_mem_nil, or_false]; rcases hb with hb | hb | hb | hb | hb | hb | hb <;> subst hb <;> simp [Value.ownBlock]))
  have k1 := hm11.keep ((hk11 _ (by simp)).trans S10.out.1) (by simp)
  have k2 := hm11.keep ((hk11 _ (by simp)).trans S10.out.2.1) (by simp)
  have k3 := hm11.keep ((hk11 _ (by simp)).trans S10.out.2.2.1) (by simp)
  have k4 := hm11.keep ((hk11 _ (by simp)).trans S10.out.2.2.2.1) (by simp)
  have k5 := hm11.keep ((hk11 _ (by simp)).trans S10.out.2.2.2.2) (by simp)
  have k6 := hm11.keep hg6 (by simp)
  generalize hB11 : w11.heap.size = b11 at hb H11
  have S11 := Lib.hid (And.intro hb (And.intro k6 (And.intro k1 (And.intro k2 (And.intro k3 (And.intro k4 k5))))))
  have HB11 := Lib.hid hB11
  clear hb k1 k2 k3 k4 k5 k6 hm11 hp11 hq11 h H hb10 hB11 hg6 hk11 S10
  go_wp2_with fail
  rw [HB11.out]
  refine (mkframe_42 _).mono ?_
  rintro r w12 ⟨v12, rfl, hb12, hm12⟩
  have H := Lib.hid (H11.out.later hm12)
  have S12 := Lib.hid (And.intro (hm12.keep S11.out.1 (by simp)) (And.intro (hm12.keep S11.out.2.1 (by simp)) (And.intro (hm12.keep S11.out.2.2.1 (by simp)) (And.intro (hm12.keep S11.out.2.2.2.1 (by simp)) (And.intro (hm12.keep S11.out.2.2.2.2.1 (by simp)) (And.intro (hm12.keep S11.out.2.2.2.2.2.1 (by simp)) (hm12.keep S11.out.2.2.2.2.2.2 (by simp))))))))
  clear H11 S11 hm12
  go_wp2_with fail
  refine (H.out.fromPort sh8_is hb12 (by omega) (by omega)).mono ?_
  rintro r w13 ⟨pv13, qv13, rfl, hp13, hq13, h, hk13⟩
  obtain ⟨a7, c7, rfl⟩ := ints_0 hp13
  obtain ⟨a8, c8, rfl⟩ := ints_0 hq13
  have k0 := (hk13 _ (by simp)).trans S12.out.1
  have k1 := (hk13 _ (by simp)).trans S12.out.2.1
  have k2 := (hk13 _ (by simp)).trans S12.out.2.2.1
  have k3 := (hk13 _ (by simp)).trans S12.out.2.2.2.1
  have k4 := (hk13 _ (by simp)).trans S12.out.2.2.2.2.1
  have k5 := (hk13 _ (by simp)).trans S12.out.2.2.2.2.2.1
  have k6 := (hk13 _ (by simp)).trans S12.out.2.2.2.2.2.2
  obtain ⟨z0, z1, z2⟩ := cells_3 k0
  obtain ⟨y0, y1, y2⟩ := cells_3 k2
  obtain ⟨x0, x1, x2⟩ := cells_3 k4
  have r6 := (cell_of k1 0).trans he6
  have r3 := (cell_of k3 0).trans he3
  have r1 := (cell_of k5 0).trans he1
  have r2 := (cell_of k6 0).trans he2
  have q0 := lt_of k0
  have q1 := lt_of k1
  have q2 := lt_of k2
  have q3 := lt_of k3
  have q4 := lt_of k4
  have q5 := lt_of k5
  have q6 := lt_of k6
  have HM := Lib.hid h.mod0
  clear k0 k1 k2 k3 k4 k5 k6 h H hk13 S12 he1 he2 he3 he6 hp13 hq13 hb12
  go_wp2
  go_ret
  exact ⟨rfl, HM.out.alloc _⟩
end Go.Proofs.Ytmhfpiincnadiaa
