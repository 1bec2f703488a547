/- The statements' frame: sixty bytes of two MACs; shown: the small case. -/
import Derived.Test.YtmhfpiincnadiaaBr12
namespace Go.Proofs.Ytmhfpiincnadiaa
open Go.RowKit
open Go.ChangeMaps (setBlock)
set_option linter.unusedSimpArgs false
set_option linter.unusedVariables false

def frameBytes (to of : Mac) : List UInt8 := [to.a0, to.a1, to.a2, to.a3, to.a4, to.a5, of.a0, of.a1, of.a2, of.a3, of.a4, of.a5] ++ List.replicate 48 0
theorem make60 (w : World) : (Instr.makeSlice 32 (.int .i64 60) (.int .i64 60)).run Try.prog w = .ok (.slice (some ⟨w.heap.size, 0, none⟩) 60 60) (w.alloc (.cells (Array.replicate 60 (.int .u8 0)) 5)) := by kernel_rfl

def stageB (to of : Mac) (k : Nat) : List UInt8 := (to.bytes.take k ++ List.replicate (6 - k) 0) ++ (of.bytes.take k ++ List.replicate (6 - k) 0) ++ List.replicate 48 0
def stageC (to of : Mac) (k : Nat) : Array Value := ((stageB to of k).map fun b => Value.int .u8 (b.toNat : Int)).toArray
theorem stage_size (to of : Mac) (k : Nat) (hk : k ≤ 6) : (stageC to of k).size = 60 := by
  match k, hk with
  | 0, _ => rfl
  | 1, _ => rfl
  | 2, _ => rfl
  | 3, _ => rfl
  | 4, _ => rfl
  | 5, _ => rfl
  | 6, _ => rfl
def macByte (m : Mac) (k : Nat) : UInt8 := m.bytes.getD k 0
theorem stage_step (to of : Mac) (k : Nat) (hk : k < 6) : ((stageC to of k).setIfInBounds k (.int .u8 ((macByte to k).toNat : Int))).setIfInBounds (6 + k) (.int .u8 ((macByte of k).toNat : Int)) = stageC to of (k + 1) := by
  match k, hk with
  | 0, _ => rfl
  | 1, _ => rfl
  | 2, _ => rfl
  | 3, _ => rfl
  | 4, _ => rfl
  | 5, _ => rfl
theorem stage_end (to of : Mac) : stageB to of 6 = frameBytes to of := rfl
theorem mac_cell (m : Mac) (k : Nat) (hk : k < 6) : m.cells[k]? = some (.int .u8 ((macByte m k).toNat : Int)) := by
  match k, hk with
  | 0, _ => rfl
  | 1, _ => rfl
  | 2, _ => rfl
  | 3, _ => rfl
  | 4, _ => rfl
  | 5, _ => rfl
theorem stage_cell (to of : Mac) (k : Nat) (hk : k ≤ 6) (j : Nat) (hj : j < 60) : ∃ x, (stageC to of k)[j]? = some x := ⟨_, Array.getElem?_eq_getElem (by rw [stage_size to of k hk]; exact hj)⟩

set_option maxRecDepth 100000 in
set_option maxHeartbeats 1000000 in
theorem mkframe_any (to of : Mac) (w : World) :
    Calls Try.prog 33 #[(.agg #[.int .u8 (to.a0.toNat : Int), .int .u8 (to.a1.toNat : Int), .int .u8 (to.a2.toNat : Int), .int .u8 (to.a3.toNat : Int), .int .u8 (to.a4.toNat : Int), .int .u8 (to.a5.toNat : Int)]), (.agg #[.int .u8 (of.a0.toNat : Int), .int .u8 (of.a1.toNat : Int), .int .u8 (of.a2.toNat : Int), .int .u8 (of.a3.toNat : Int), .int .u8 (of.a4.toNat : Int), .int .u8 (of.a5.toNat : Int)])] w fun r w' => ∃ v, r = .returned v ∧ Bytes w' v (frameBytes to of) ∧ Mod [] w w' := by
  have hmk := make60
  have h0 : blk (((w.alloc (.cells #[.int .u8 (to.a0.toNat : Int), .int .u8 (to.a1.toNat : Int), .int .u8 (to.a2.toNat : Int), .int .u8 (to.a3.toNat : Int), .int .u8 (to.a4.toNat : Int), .int .u8 (to.a5.toNat : Int)] 63)).alloc (.cells #[.int .u8 (of.a0.toNat : Int), .int .u8 (of.a1.toNat : Int), .int .u8 (of.a2.toNat : Int), .int .u8 (of.a3.toNat : Int), .int .u8 (of.a4.toNat : Int), .int .u8 (of.a5.toNat : Int)] 63)).alloc (.cells (Array.replicate 60 (.int .u8 0)) 5)) w.heap.size = some (.cells to.cells 63 (0, 0)) := by rw [heap_alloc_lt _ _ _ (by simp; omega), heap_alloc_lt _ _ _ (by simp)]; exact heap_alloc_at _ _ _ rfl
  have h1 : blk (((w.alloc (.cells #[.int .u8 (to.a0.toNat : Int), .int .u8 (to.a1.toNat : Int), .int .u8 (to.a2.toNat : Int), .int .u8 (to.a3.toNat : Int), .int .u8 (to.a4.toNat : Int), .int .u8 (to.a5.toNat : Int)] 63)).alloc (.cells #[.int .u8 (of.a0.toNat : Int), .int .u8 (of.a1.toNat : Int), .int .u8 (of.a2.toNat : Int), .int .u8 (of.a3.toNat : Int), .int .u8 (of.a4.toNat : Int), .int .u8 (of.a5.toNat : Int)] 63)).alloc (.cells (Array.replicate 60 (.int .u8 0)) 5)) (w.heap.size + 1) = some (.cells of.cells 63 (0, 0)) := by rw [heap_alloc_lt _ _ _ (by simp)]; exact heap_alloc_at _ _ _ (by simp)
  have h2 : blk (((w.alloc (.cells #[.int .u8 (to.a0.toNat : Int), .int .u8 (to.a1.toNat : Int), .int .u8 (to.a2.toNat : Int), .int .u8 (to.a3.toNat : Int), .int .u8 (to.a4.toNat : Int), .int .u8 (to.a5.toNat : Int)] 63)).alloc (.cells #[.int .u8 (of.a0.toNat : Int), .int .u8 (of.a1.toNat : Int), .int .u8 (of.a2.toNat : Int), .int .u8 (of.a3.toNat : Int), .int .u8 (of.a4.toNat : Int), .int .u8 (of.a5.toNat : Int)] 63)).alloc (.cells (Array.replicate 60 (.int .u8 0)) 5)) (w.heap.size + 1 + 1) = some (.cells (stageC to of 0) 5 (0, 0)) := heap_alloc_at _ _ _ (by simp)
  have H0 := Lib.hid h0
  have H1 := Lib.hid h1
  have H2 := Lib.hid h2
  clear h0 h1 h2
  go_enter Try.func33, Try.ntmps33
  go_wp2
  go_loopw [6] (fun i wr => ∃ k : Nat, k ≤ 6 ∧ i = .int .i64 k ∧ blk wr w.heap.size = some (.cells to.cells 63 (0, 0)) ∧ blk wr (w.heap.size + 1) = some (.cells of.cells 63 (0, 0)) ∧
      blk wr (w.heap.size + 1 + 1) = some (.cells (stageC to of k) 5 (0, 0)) ∧ Mod [] w wr) (fun i _ => 6 - (intOf i).toNat)
  case atStart => exact ⟨0, by omega, rfl, H0.out, H1.out, H2.out, by (repeat (first | exact Mod.refl _ _ | refine Mod.alloc ?_ _ | refine Mod.drewN ?_ _ | refine Mod.drew ?_ | refine Mod.setCell ?_ (by first | (simp; done) | (simp; omega)) _ | refine Mod.setBlock ?_ (by first | (simp; done) | (simp; omega)) _ | assumption))⟩
  case round =>
    obtain ⟨k, hk, rfl, b0, b1, b2, hM⟩ := hrel
    by_cases hlt : k < 6
    · have t0 : wr.cell? ⟨w.heap.size, k, none⟩ = some (.int .u8 ((macByte to k).toNat : Int)) := by rw [cell_of b0]; exact mac_cell to k hlt
      have t1 : wr.cell? ⟨w.heap.size + 1, k, none⟩ = some (.int .u8 ((macByte of k).toNat : Int)) := by rw [cell_of b1]; exact mac_cell of k hlt
      obtain ⟨x0, hx0⟩ := stage_cell to of k hk k (by omega)
      obtain ⟨x1, hx1⟩ := stage_cell to of k hk (6 + k) (by omega)
      have t2 : wr.cell? ⟨w.heap.size + 1 + 1, k, none⟩ = some x0 := by rw [cell_of b2]; exact hx0
      have t3 : wr.cell? ⟨w.heap.size + 1 + 1, 6 + k, none⟩ = some x1 := by rw [cell_of b2]; exact hx1
      have f2 := free_of b2 k
      have f3 := free_of b2 (6 + k)
      have B0 := Lib.hid b0
      have B1 := Lib.hid b1
      have B2 := Lib.hid b2
      have hs := lt_of b2
      clear b0 b1 b2 hx0 hx1
      generalize hm0 : macByte to k = y0 at t0
      generalize hm1 : macByte of k = y1 at t1
      have HM0 := Lib.hid hm0
      have HM1 := Lib.hid hm1
      clear hm0 hm1
      go_wp2
      go_roundw
      case rel =>
        refine ⟨k + 1, by omega, by go_num, ?_, ?_, ?_, ?_⟩
        · rw [heap_setCell_ne _ _ _ _ (by first | (simp; done) | (simp; omega)), heap_setCell_ne _ _ _ _ (by first | (simp; done) | (simp; omega))]; exact B0.out
        · rw [heap_setCell_ne _ _ _ _ (by first | (simp; done) | (simp; omega)), heap_setCell_ne _ _ _ _ (by first | (simp; done) | (simp; omega))]; exact B1.out
        · rw [← stage_step to of k hlt, HM0.out, HM1.out]
          exact heap_setCell_eq _ _ _ _ (heap_setCell_eq _ _ _ _ B2.out)
        · exact (hM.setCell (.inr (by simp; omega)) _).setCell (.inr (by simp; omega)) _
      case measure => simp [intOf]; omega
    · obtain rfl : k = 6 := by omega
      have B2 := Lib.hid b2
      clear b0 b1 b2
      go_wp2
      go_ret
      refine ⟨_, rfl, .inr ⟨_, 0, 60, rfl, by simp [frameBytes], lt_of B2.out, fun i hi => ?_⟩, hM⟩
      have hi' : i < 60 := by simpa [frameBytes] using hi
      rw [cell_of B2.out, Nat.zero_add, ← stage_end]
      unfold stageC
      have h5 : i < (stageB to of 6).length := by rw [stage_end]; exact hi
      rw [List.getElem?_toArray, List.getElem?_map, List.getElem?_eq_getElem h5, List.getD_eq_getElem?_getD, List.getElem?_eq_getElem h5]
      rfl
end Go.Proofs.Ytmhfpiincnadiaa
