/- bridge.New. -/
import Derived.Test.YtmhfpiincnadiaaBr6
namespace Go.Proofs.Ytmhfpiincnadiaa
open Go.RowKit
open Go.ChangeMaps (setBlock)
set_option linter.unusedSimpArgs false
set_option linter.unusedVariables false

/-- A bridge that is being made: its first k segments are there. -/
structure Making (w : World) (n0 p mb : Nat) (S : Nat → SegR) (k : Nat) (m : SegM) : Prop where
  top : ∃ cs : Array Value, blk w p = some (.cells cs 107 (0, 0)) ∧ cs.size = 9 ∧ (∀ i, i < k → cs[i]? = some (ptr (S i).s)) ∧ cs[8]? = some (.map (some mb))
  map : blk w mb = some (.map #[] 0)
  seg : ∀ i, i < k → SegIs w (S i) ∧ (S i).m = m ∧ ∀ b, b ∈ (S i).foot → n0 + 2 ≤ b
  apart : ∀ i, i < k → ∀ j, j < k → i ≠ j → ∀ b, b ∈ (S i).foot → b ∉ (S j).foot

theorem Making.done {w : World} {n0 p mb : Nat} {S : Nat → SegR} {m : SegM} (h : Making w n0 p mb S 8 m) (hp : p < n0 + 2) (hmb : mb < n0 + 2) (hpm : p ≠ mb) : BridgeIs w p mb S [] where
  top := by
    obtain ⟨cs, h1, h2, h3, h4⟩ := h.top
    rw [h1]
    congr 2
    apply Array.ext_getElem?
    intro i
    by_cases hi : i < 8
    · rw [h3 i hi]
      match i, hi with
      | 0, _ => rfl
      | 1, _ => rfl
      | 2, _ => rfl
      | 3, _ => rfl
      | 4, _ => rfl
      | 5, _ => rfl
      | 6, _ => rfl
      | 7, _ => rfl
    · by_cases h8 : i = 8
      · subst h8; rw [h4]; rfl
      · rw [Array.getElem?_eq_none (by omega), Array.getElem?_eq_none (by simp; omega)]
  map := ⟨_, _, h.map, isMap_nil _⟩
  seg i hi := (h.seg i hi).1
  pm := hpm
  out i hi b hb := by have := (h.seg i hi).2.2 b hb; omega
  apart := h.apart

theorem Making.step {w w2 : World} {n0 p mb : Nat} {S : Nat → SegR} {k : Nat} {m : SegM} (h : Making w n0 p mb S k m) (hk : k < 8) (hp : p < n0 + 2) (hmb : mb < n0 + 2) (hpm : p ≠ mb) (hn : n0 + 2 ≤ w.heap.size)
    {x : SegR} (hm2 : Mod [] w w2) (hx : SegIs w2 x) (hxm : x.m = m) (hxf : ∀ b, b ∈ x.foot → w.heap.size ≤ b) : Making (w2.setCell ⟨p, k, none⟩ (ptr x.s)) n0 p mb (setF S k x) (k + 1) m := by
  obtain ⟨cs, h1, h2, h3, h4⟩ := h.top
  have hpx : p ∉ x.foot := fun e => by have := hxf p e; omega
  have hkeep : ∀ (y : SegR), (∀ b, b ∈ y.foot → n0 + 2 ≤ b) → SegIs w2 y → SegIs (w2.setCell ⟨p, k, none⟩ (ptr x.s)) y := fun y hy hs => hs.keep fun b hb => heap_setCell_ne _ _ _ _ (by have := hy b hb; simp; omega)
  constructor
  · refine ⟨_, heap_setCell_eq w2 p k _ (hm2.keep h1 (by simp)), by simpa using h2, ?_, ?_⟩
    · intro i hi
      by_cases hik : i = k
      · subst hik
        rw [setF_eq, Array.getElem?_setIfInBounds_self_of_lt (by omega)]
      · rw [setF_ne _ _ hik, Array.getElem?_setIfInBounds_ne (Ne.symm hik)]
        exact h3 i (by omega)
    · rw [Array.getElem?_setIfInBounds_ne (by omega)]
      exact h4
  · rw [heap_setCell_ne _ _ _ _ (Ne.symm hpm)]
    exact hm2.keep h.map (by simp)
  · intro i hi
    by_cases hik : i = k
    · subst hik
      rw [setF_eq]
      have hf2 : ∀ b, b ∈ x.foot → n0 + 2 ≤ b := fun b hb => by have := hxf b hb; omega
      exact ⟨hkeep x hf2 hx, hxm, hf2⟩
    · rw [setF_ne _ _ hik]
      obtain ⟨hs, hm', hf⟩ := h.seg i (by omega)
      exact ⟨hkeep _ hf (hs.keep fun b hb => hm2.block b (hs.lt b hb) (by simp)), hm', hf⟩
  · intro i hi j hj hij b hb hb2
    by_cases hik : i = k
    · subst hik
      rw [setF_eq] at hb
      rw [setF_ne _ _ (Ne.symm hij)] at hb2
      have h5 := hxf b hb
      have h6 := (h.seg j (by omega)).1.lt b hb2
      omega
    · rw [setF_ne _ _ hik] at hb
      by_cases hjk : j = k
      · subst hjk
        rw [setF_eq] at hb2
        have h5 := hxf b hb2
        have h6 := (h.seg i (by omega)).1.lt b hb
        omega
      · rw [setF_ne _ _ hjk] at hb2
        exact h.apart i (by omega) j (by omega) hij b hb hb2

theorem setCell_alloc_comm (w : World) (p : Addr) (v : Value) (o : Obj) (h : p.block < w.heap.size) : (w.setCell p v).alloc o = (w.alloc o).setCell p v := by
  simp only [World.setCell, World.alloc]
  congr 1
  apply Array.ext_getElem?
  intro i
  rw [Array.getElem?_modify, Array.getElem?_push, Array.getElem?_push, Array.getElem?_modify]
  simp only [Array.size_modify]
  by_cases h1 : p.block = i
  · subst h1
    have : p.block ≠ w.heap.size := by omega
    simp [this]
  · simp [h1]

set_option maxRecDepth 100000 in
set_option maxHeartbeats 1000000 in
theorem bridgeNew_any (room life : Int) (w : World) (hl0 : 0 ≤ life) (hl1 : life ≤ 18446744073709551615) :
    Calls Try.prog 14 #[i64 room, .int .u64 life] w fun r w' => ∃ p G, r = .returned (ptr p) ∧ BridgeAt w' p G (newM room life) ∧ Mod [] w w' ∧ ∀ b, b ∈ G → w.heap.size ≤ b := by
  have hmk := fun W => run_makeMap (P := Try.prog) 103 W
  obtain ⟨n0, hn0⟩ : ∃ n, n = w.heap.size := ⟨_, rfl⟩
  go_enter Try.func14, Try.ntmps14
  go_wp2
  go_loopw [6, 10] (fun _ i wr => ∃ (k : Nat) (S : Nat → SegR), k ≤ 8 ∧ i = .int .i64 k ∧ Making wr n0 (w.heap.size + 1) w.heap.size S k ⟨newBaseM room life, [], []⟩ ∧ Mod [] w wr ∧ n0 + 2 ≤ wr.heap.size) (fun _ i _ => 8 - (intOf i).toNat)
  case atStart =>
    refine ⟨0, fun _ => ⟨0, 0, [], .slice none 0 0, .slice none 0 0, ⟨newBaseM room life, [], []⟩⟩, by omega, rfl, ?_, ((Mod.refl _ _).alloc _).alloc _, by simp; omega⟩
    constructor
    · exact ⟨_, heap_alloc_at _ _ _ (by simp), rfl, fun i hi => by omega, rfl⟩
    · exact (heap_alloc_lt _ _ _ (by simp)).trans (heap_alloc_at _ _ _ rfl)
    · exact fun i hi => by omega
    · exact fun i hi => by omega
  case round =>
    obtain ⟨k, S, hk, rfl, hmak, hm, hsz⟩ := hrel
    by_cases hlt : k < 8
    · obtain ⟨cs, h1, h2, h3, h4⟩ := hmak.top
      obtain ⟨v0, hv0⟩ : ∃ v0, cs[k]? = some v0 := ⟨_, Array.getElem?_eq_getElem (by omega)⟩
      have t0 : wr.cell? ⟨w.heap.size + 1, k, none⟩ = some v0 := by rw [cell_of h1, hv0]
      have f0 : wr.frozen? ⟨w.heap.size + 1, k, none⟩ = false := free_of h1 _
      have HM := Lib.hid hmak
      clear h1 h3 h4 hmak
      go_wp2
      go_region_with (go_at_call 35; refine (fdbNew_any room life _ hl0 hl1).mono ?_; rintro r w1 ⟨q, F, rfl, hB, hm1, hF⟩; have HB := Lib.hid hB; have HF := Lib.hid hF; clear hB hF; have t1 : w1.cell? ⟨w.heap.size + 1, k, none⟩ = some v0 := (hm1.cell (by simp; omega) (by simp) k).trans (by simpa using t0); have f1 : w1.frozen? ⟨w.heap.size + 1, k, none⟩ = false := (hm1.free (by simp; omega) (by simp) k).trans (by simpa using f0); have hl1 : w.heap.size + 1 < w1.heap.size := by have := hm1.size; simp at this; omega)
      all_goals
        go_wp2
        go_roundw
        case rel =>
          rw [setCell_alloc_comm _ _ _ _ hl1]
          have hs1 := hm1.size
          simp only [size_drew] at hs1
          have hx : SegIs (w1.alloc (.cells #[ptr q, .slice none 0 0, .slice none 0 0] 110)) ⟨w1.heap.size, q, F, .slice none 0 0, .slice none 0 0, ⟨newBaseM room life, [], []⟩⟩ := by
            refine ⟨heap_alloc_at _ _ _ rfl, HB.out.keep fun b hb => heap_alloc_lt _ _ _ (HB.out.lt b hb), Ints.nil _ _, Ints.nil _ _, fun e => Nat.lt_irrefl _ (HB.out.lt _ e), ?_⟩
            intro b hb
            rcases hb with hb | hb <;> cases hb
          refine ⟨k + 1, setF S k ⟨w1.heap.size, q, F, .slice none 0 0, .slice none 0 0, ⟨newBaseM room life, [], []⟩⟩, by omega, by go_num, ?_, ?_, by rw [size_setCell]; simp; omega⟩
          · refine HM.out.step hlt (by omega) (by omega) (by omega) hsz ((hm1.drew_l).alloc _) hx rfl ?_
            intro b hb
            rcases SegR.mem_foot.1 hb with rfl | hb | hb | hb
            · exact hs1
            · exact HF.out b hb
            · cases hb
            · cases hb
          · exact ((hm.trans hm1.drew_l (by simp)).alloc _).setCell (.inr (by simp)) _
        case measure => simp [intOf]; omega
    · obtain rfl : k = 8 := by omega
      go_wp2
      go_ret
      refine ⟨_, _, rfl, ⟨w.heap.size, S, hmak.done (by omega) (by omega) (by omega), fun i hi => (hmak.seg i hi).2.1, newM_ok room life, rfl⟩, hm, ?_⟩
      intro b hb
      rcases mem_brFoot.1 hb with rfl | rfl | ⟨i, hi, hb⟩
      · omega
      · omega
      · have := (hmak.seg i hi).2.2 b hb
        omega
end Go.Proofs.Ytmhfpiincnadiaa
