/- slices.Contains, slices.DeleteFunc at int; with and without of bridge. -/
import Derived.Test.YtmhfpiincnadiaaInts2
import Derived.Lib.RowBridge
namespace Go.Proofs.Ytmhfpiincnadiaa
open Go.RowKit Go.Shelf Go.Lib Go.Sort
open Go.ChangeMaps (setBlock)
set_option linter.unusedSimpArgs false
set_option linter.unusedVariables false

theorem get_bang (L : List Int) (j : Nat) : L[j]! = L.getD j 0 := by
  rw [List.getD_eq_getElem?_getD]
  rcases Nat.lt_or_ge j L.length with h | h
  · rw [getElem!_pos L j h, List.getElem?_eq_getElem h]; rfl
  · rw [getElem!_neg L j (by omega), List.getElem?_eq_none h]; rfl

theorem contains_any {w : World} {B : Nat} {v : Value} {L : List Int} (h : Ints w B v L) (hl : L.length ≤ 1000) (x : Int) :
    Calls Try.prog 57 #[v, i64 x] w fun r w' => r = .returned (.bool (L.contains x)) ∧ w = w' := by
  obtain ⟨a, c, rfl, hc, hc2, ⟨rfl, rfl, rfl⟩ | ⟨g, cur, rfl, hB, hb, h3, h4⟩⟩ := h.slice
  · refine (AnyE.slices_Contains_empty Try.layContains none 0 (i64 x) w).mono ?_
    rintro r w' ⟨rfl, rfl⟩
    exact ⟨rfl, rfl⟩
  · refine (AnyE.slices_Contains Try.layContains i64 (fun x y => x == y) (EqlAt.int _ _ _) g 0 L.length c L x w (Nat.le_refl _) (by omega) (fun j hj => by rw [Nat.zero_add, cell_of hb, ints_at h4 hj, get_bang])).mono ?_
    rintro r w' ⟨rfl, rfl⟩
    refine ⟨?_, rfl⟩
    rw [List.take_length]
    congr 2
    rw [Bool.eq_iff_iff]
    simp

set_option maxRecDepth 100000 in
set_option maxHeartbeats 1000000 in
theorem without1_any (x n : Int) (pb : Nat) (W : World) (hc : W.cell? ⟨pb, 0, none⟩ = some (i64 n)) :
    Calls Try.prog 67 #[i64 x, ptr pb] W fun e w' => e = .returned (.bool (x == n)) ∧ ∃ q, w' = W.drewN q := by
  go_enter Try.func67, Try.ntmps67
  go_wp2
  all_goals (go_ret; exact ⟨by simp, 0, rfl⟩)

set_option maxRecDepth 100000 in
set_option maxHeartbeats 1000000 in
theorem delete_nil (fv : Value) (w : World) (c : Nat) :
    Calls Try.prog 66 #[.slice none 0 c, fv] w fun r w' => r = .returned (.slice none 0 c) ∧ w = w' := by
  have H := AnyE.slices_IndexFunc_empty (P := Try.prog) (ρ := Try.layDelete_ren) { Try.layDelete with } none c fv w
  change Calls Try.prog 98 _ _ _ at H
  go_enter Try.func66, Try.ntmps66
  go_wp2_with (go_at_call 98; refine H.mono ?_; rintro r w' ⟨rfl, rfl⟩)
  go_ret
  exact ⟨rfl, rfl⟩

set_option maxHeartbeats 1000000 in
theorem delete_any {w : World} {B : Nat} {v : Value} {L : List Int} (h : Ints w B v L) (hl : L.length ≤ 1000) (n : Int) (pb : Nat)
    (hpb : blk w pb = some (.cells #[i64 n] 3 (0, 0))) (hne : ∀ b, v.ownBlock = some b → b ≠ pb) :
    Calls Try.prog 66 #[v, .func (.func 67) #[] #[ptr pb]] w fun r w' => ∃ v', r = .returned v' ∧ Ints w' B v' (L.filter fun x => !(x == n)) ∧ Mod v.ownBlock.toList w w' := by
  have hpl := lt_of hpb
  have hpc : w.cell? ⟨pb, 0, none⟩ = some (i64 n) := by rw [cell_of hpb]; rfl
  obtain ⟨a, c, rfl, hc, hc2, ⟨rfl, rfl, rfl⟩ | ⟨g, cur, rfl, hB, hb, h3, h4⟩⟩ := h.slice
  · refine (delete_nil _ w 0).mono ?_
    rintro r w' ⟨rfl, rfl⟩
    exact ⟨_, rfl, Ints.nil _ _, Mod.refl _ _⟩
  · have hg : g ≠ pb := hne g rfl
    have hH : Holds i64 w g 0 L.toArray := fun j hj => by
      have hj' : j < L.length := by simpa using hj
      refine ⟨?_, free_of hb _⟩
      rw [Nat.zero_add, cell_of hb, ints_at h4 hj', List.getElem!_toArray, get_bang]
    have hcon := AnyE.slices_DeleteFunc Try.layDelete i64 (fun _ => rfl) (fun x => x == n) 67 #[ptr pb] (enters_of Try.func67 (by kernel_rfl) rfl) 0 Try.zeroValue3 g 0 c L.toArray w
      (fun W x hW => without1_any x n pb W ((hW.cell (p := ⟨pb, 0, none⟩) hpl).trans hpc))
      (fun m os dk x _ => without1_any x n pb _ (by
        unfold sortWorld
        rw [cell?_grow _ _ _ (by show pb < (putRow _ _ _ _ _).heap.size; rw [size_putRow]; exact hpl), cell?_putRow_other _ _ g 0 _ _ (Or.inl (Ne.symm hg))]
        exact hpc)) hH (by simp; omega) (by simpa using hc)
    simp only [List.size_toArray, List.toList_toArray] at hcon
    refine hcon.mono ?_
    rintro r w' ⟨rfl, q, rfl⟩
    have hfl := List.length_filter_le (fun x => !(x == n)) L
    rw [putRow_eq_setCells i64 w g 0 L.toArray _ q hH (by simp; omega)]
    refine ⟨_, rfl, ?_, mod_setCells _ _ _ (.inl (by simp [Value.ownBlock])) ((Mod.refl _ _).drewN q)⟩
    have hb1 := blk_setCells ((L.filter (fun x => !(x == n)) ++ List.replicate (L.length - (L.filter fun x => !(x == n)).length) 0).map i64) 0 (w.drewN q) _ (heap_drewN w q g ▸ hb)
    refine Ints.mk hB hb1 (by omega) hc2 (by rw [wr_size, h3]) ?_
    refine wr_take h4 (by simp; omega) (by omega) ?_ ?_
    · intro j hj1 hj2 hj3
      rw [Nat.sub_zero, List.getElem?_map, List.getElem?_append_left hj3, List.getElem?_eq_getElem hj3, List.getD_eq_getElem?_getD, List.getElem?_eq_getElem hj3]
      rfl
    · intro j hj1 hj2
      exfalso
      simp at hj2
      omega
end Go.Proofs.Ytmhfpiincnadiaa
