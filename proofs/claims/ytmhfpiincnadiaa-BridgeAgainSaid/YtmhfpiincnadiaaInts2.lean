/- slices.Insert at int, of one number. -/
import Derived.Test.YtmhfpiincnadiaaInts
namespace Go.Proofs.Ytmhfpiincnadiaa
open Go.RowKit Go.Shelf Go.Lib
open Go.ChangeMaps (setBlock)
set_option linter.unusedSimpArgs false
set_option linter.unusedVariables false

def insAt (k : Nat) (n : Int) (L : List Int) : List Int := L.take k ++ n :: L.drop k
theorem insAt_length {k : Nat} {n : Int} {L : List Int} (hk : k ≤ L.length) : (insAt k n L).length = L.length + 1 := by
  simp [insAt]; omega
theorem insAt_get {k : Nat} {n : Int} {L : List Int} (hk : k ≤ L.length) (j : Nat) : (insAt k n L).getD j 0 = if j < k then L.getD j 0 else if j = k then n else L.getD (j - 1) 0 := by
  unfold insAt
  rw [List.getD_eq_getElem?_getD]
  by_cases h1 : j < k
  · rw [if_pos h1, List.getElem?_append_left (by simp; omega), List.getElem?_take, if_pos h1, List.getD_eq_getElem?_getD]
  · rw [if_neg h1, List.getElem?_append_right (by simp; omega), List.length_take, Nat.min_eq_left hk]
    by_cases h2 : j = k
    · subst h2; simp
    · rw [if_neg h2, show j - k = (j - k - 1) + 1 by omega, List.getElem?_cons_succ, List.getElem?_drop, show k + (j - k - 1) = j - 1 by omega, List.getD_eq_getElem?_getD]

theorem map_get {L : List Int} {j : Nat} (hj : j < L.length) : (L.map i64)[j]? = some (i64 (L.getD j 0)) := by
  rw [List.getElem?_map, List.getElem?_eq_getElem hj, List.getD_eq_getElem?_getD, List.getElem?_eq_getElem hj]; rfl
theorem getD_drop (L : List Int) (k j : Nat) : (L.drop k).getD j 0 = L.getD (k + j) 0 := by
  rw [List.getD_eq_getElem?_getD, List.getElem?_drop, List.getD_eq_getElem?_getD]

set_option maxHeartbeats 1000000 in
theorem insert_any {w : World} {B : Nat} {v : Value} {L : List Int} (h : Ints w B v L) (hl : L.length ≤ 1000) (hB : B ≤ w.heap.size) (k : Nat) (hk : k ≤ L.length) (n : Int) (vb : Nat)
    (hvb : blk w vb = some (.cells #[i64 n] 3 (0, 0))) (hne : ∀ b, v.ownBlock = some b → b ≠ vb) :
    Calls Try.prog 65 #[v, i64 k, .slice (some ⟨vb, 0, none⟩) 1 1] w fun r w' => ∃ v', r = .returned v' ∧ Ints w' B v' (insAt k n L) ∧ Mod v.ownBlock.toList w w' := by
  have hvs : ∀ j u, [i64 n][j]? = some u → w.cell? ⟨vb, 0 + j, none⟩ = some u := fun j u hj => by
    rw [Nat.zero_add, cell_of hvb]
    cases j with
    | zero => exact hj
    | succ j => simp at hj
  have h1v : ∀ u ∈ [i64 n], u.oneCell' = true := by simp [Value.oneCell']
  have h1c : ∀ u ∈ L.map i64, u.oneCell' = true := by simp [Value.oneCell']
  have hil := insAt_length (n := n) hk
  obtain ⟨a, c, rfl, hc, hc2, hcase⟩ := h.slice
  by_cases hroom : c < L.length + 1
  · have hgc := grownCap_le_maxLen w (L.length + 1) c 3 (by unfold maxLen; omega)
    have hgl := grownCap_ge w (L.length + 1) c 3
    have hzs : ∀ m, (Builtin.zeroCells (Value.int .i64 0).cells m).size = m := fun m => by simp [Builtin.zeroCells, Value.cells]
    by_cases he : k = L.length
    · subst he
      refine (Any2.slices_Insert_int_end_grow Try.layInsert a L.length c vb 0 1 1 (L.map i64) [i64 n] w (by omega) hc hroom (by omega) (by simp) rfl (fun hn => ?_) (fun p hp j u hj => ?_) hvs h1v).mono ?_
      · rcases hcase with ⟨rfl, rfl, rfl⟩ | ⟨g, cur, rfl, hg⟩
        · rfl
        · cases hn
      · rcases hcase with ⟨rfl, rfl, rfl⟩ | ⟨g, cur, rfl, hgB, hb, h3, h4⟩
        · cases hp
        · cases hp
          have hjl : j < L.length := by have := (List.getElem?_eq_some_iff.1 hj).1; simpa using this
          rw [map_get hjl] at hj
          rw [Addr.add_lit, Nat.zero_add, cell_of hb, ints_at h4 hjl, hj]
      · rintro r w' ⟨rfl, rfl⟩
        refine ⟨_, rfl, ?_, ((Mod.refl _ _).drew).alloc _⟩
        have hx : insAt L.length n L = L ++ [n] := by simp [insAt]
        rw [hx]
        have hm := Ints.mk (w := w.drew.alloc (.cells ((L.map i64 ++ [i64 n]).toArray ++ Builtin.zeroCells (Value.int .i64 0).cells (grownCap w (L.length + 1) c 3 - (L.length + 1))) 3)) (B := B) (g := w.heap.size)
          (c := grownCap w (L.length + 1) c 3) (L := L ++ [n]) hB (heap_alloc_at _ _ _ rfl) (by simpa using hgl) hgc (by simp [hzs]; omega) (by
            rw [Array.toList_append, List.take_append_of_le_length (by simp), List.take_of_length_le (by simp)]; simp)
        rw [List.length_append] at hm
        exact hm
    · rcases hcase with ⟨rfl, rfl, rfl⟩ | ⟨g, cur, rfl, hgB, hb, h3, h4⟩
      · exact absurd (by simpa using hk) he
      · refine (Any2.slices_Insert_int_grow Try.layInsert g 0 L.length c k vb 0 1 1 (L.map i64) [i64 n] w (by omega) (by omega) hc hroom (by omega) (by simp) rfl (fun j u hj => ?_) hvs h1c h1v).mono ?_
        · have hjl : j < L.length := by have := (List.getElem?_eq_some_iff.1 hj).1; simpa using this
          rw [map_get hjl] at hj
          rw [Nat.zero_add, cell_of hb, ints_at h4 hjl, hj]
        · rintro r w' ⟨rfl, rfl⟩
          have hb0 : blk (w.alloc (.cells (((L.map i64).take k).toArray ++ Builtin.zeroCells (Value.int .i64 0).cells (L.length + 1 - k) ++ Builtin.zeroCells (Value.int .i64 0).cells (grownCap w (L.length + 1) c 3 - (L.length + 1))) 3)).drew w.heap.size = some (.cells (((L.map i64).take k).toArray ++ Builtin.zeroCells (Value.int .i64 0).cells (L.length + 1 - k) ++ Builtin.zeroCells (Value.int .i64 0).cells (grownCap w (L.length + 1) c 3 - (L.length + 1))) 3 (0, 0)) := by
            rw [heap_drew]; exact heap_alloc_at _ _ _ rfl
          have hsz : (((L.map i64).take k).toArray ++ Builtin.zeroCells (Value.int .i64 0).cells (L.length + 1 - k) ++ Builtin.zeroCells (Value.int .i64 0).cells (grownCap w (L.length + 1) c 3 - (L.length + 1))).size = grownCap w (L.length + 1) c 3 := by
            simp [hzs]; omega
          have htk : (((L.map i64).take k).toArray ++ Builtin.zeroCells (Value.int .i64 0).cells (L.length + 1 - k) ++ Builtin.zeroCells (Value.int .i64 0).cells (grownCap w (L.length + 1) c 3 - (L.length + 1))).toList.take (L.take k).length = (L.take k).map i64 := by
            rw [Array.toList_append, Array.toList_append, List.append_assoc, List.take_append_of_le_length (by simp), List.take_of_length_le (by simp)]; simp
          obtain ⟨ROW, hR⟩ : ∃ R, R = (((L.map i64).take k).toArray ++ Builtin.zeroCells (Value.int .i64 0).cells (L.length + 1 - k) ++ Builtin.zeroCells (Value.int .i64 0).cells (grownCap w (L.length + 1) c 3 - (L.length + 1))) := ⟨_, rfl⟩
          rw [← hR] at hb0 hsz htk
          have hb1 := blk_setCells [i64 n] k _ _ hb0
          have hb2 := blk_setCells ((L.map i64).drop k) (k + 1) _ _ (heap_drew _ _ ▸ hb1)
          have hkl : (L.take k).length = k := by simp; omega
          have h1 : (wr ROW k [i64 n]).toList.take (L.take k ++ [n]).length = (L.take k ++ [n]).map i64 := by
            refine wr_take htk (by simp; omega) (by simp; omega) ?_ ?_
            · intro j hj1 hj2 hj3
              have : j = k := by simp at hj2; omega
              subst this
              rw [List.getD_eq_getElem?_getD, List.getElem?_append_right (by omega), hkl]
              simp
            · intro j hj1 hj2
              have : j < k := by simp at hj1 hj2; omega
              rw [hkl, List.getD_eq_getElem?_getD, List.getElem?_append_left (by omega), ← List.getD_eq_getElem?_getD]
              exact ⟨this, rfl⟩
          have hfin : (wr (wr ROW k [i64 n]) (k + 1) ((L.map i64).drop k)).toList.take (insAt k n L).length = (insAt k n L).map i64 := by
            refine wr_take h1 (by rw [wr_size]; simp; omega) (by rw [wr_size, hil]; omega) ?_ ?_
            · intro j hj1 hj2 hj3
              have hjl : j - 1 < L.length := by omega
              rw [List.getElem?_drop, show k + (j - (k + 1)) = j - 1 by omega, map_get hjl, insAt_get hk, if_neg (by omega), if_neg (by omega)]
            · intro j hj1 hj2
              have hjk : j < k + 1 := by simp at hj2; omega
              refine ⟨by simp; omega, ?_⟩
              rw [insAt_get hk]
              by_cases hjj : j < k
              · rw [if_pos hjj, List.getD_eq_getElem?_getD, List.getD_eq_getElem?_getD, List.getElem?_append_left (by omega), List.getElem?_take, if_pos hjj]
              · have : j = k := by omega
                subst this
                rw [if_neg hjj, if_pos rfl, List.getD_eq_getElem?_getD, List.getElem?_append_right (by omega), hkl]
                simp
          have hm := Ints.mk (L := insAt k n L) hB hb2 (by rw [hil]; exact hgl) hgc (by rw [wr_size, wr_size, hsz]) hfin
          rw [hil, hR] at hm
          exact ⟨_, rfl, hm, mod_setCells _ _ _ (.inr (Nat.le_refl _)) ((mod_setCells _ _ _ (.inr (Nat.le_refl _)) ((Mod.refl _ _).alloc _).drew).drew)⟩
  · rcases hcase with ⟨rfl, rfl, rfl⟩ | ⟨g, cur, rfl, hgB, hb, h3, h4⟩
    · simp at hroom
    have hgv : g ≠ vb := hne g rfl
    have hcell : ∀ j, j < c → (w.cell? ⟨g, j, none⟩).isSome = true := fun j hj => by rw [cell_of hb, Array.getElem?_eq_getElem (by omega)]; rfl
    by_cases he : k = L.length
    · subst he
      refine (Any2.slices_Insert_int_end_room Try.layInsert g 0 L.length c vb 0 1 1 [i64 n] w (by omega) (by omega) (by unfold maxLen at hc2; omega) rfl (fun j hj => hcell _ (by omega)) (fun j hj => free_of hb _) hvs h1v).mono ?_
      rintro r w' ⟨rfl, rfl⟩
      refine ⟨_, rfl, ?_, mod_setCells _ _ _ (.inl (by simp [Value.ownBlock])) (Mod.refl _ _)⟩
      have hb1 := blk_setCells [i64 n] (0 + L.length) _ _ hb
      rw [← hil]
      refine Ints.mk hgB hb1 (by omega) hc2 (by rw [wr_size, h3]) ?_
      refine wr_take h4 (by simp; omega) (by omega) ?_ ?_
      · intro j hj1 hj2 hj3
        have : j = L.length := by simp at hj2; omega
        subst this
        rw [insAt_get hk, if_neg (by omega), if_pos rfl]
        simp
      · intro j hj1 hj2
        have hjk : j < L.length := by simp at hj2; omega
        exact ⟨hjk, by rw [insAt_get hk, if_pos hjk]⟩
    · refine (Any2.slices_Insert_int_shift Try.layInsert g 0 L.length c k vb 0 1 1 (L.map i64) [i64 n] w (by omega) (by omega) (by omega) (by unfold maxLen at hc2; omega) (Ne.symm hgv) (by simp) rfl (fun j u hj => ?_)
        (fun j hj => by rw [Nat.zero_add]; exact hcell _ (by omega)) (fun j hj => free_of hb _) hvs h1c h1v 3 3 1 c ?_ ?_ (by omega) (free_of hvb _) (free_of hvb _)).mono ?_
      · have hjl : j < L.length := by have := (List.getElem?_eq_some_iff.1 hj).1; simpa using this
        rw [map_get hjl] at hj
        rw [Nat.zero_add, cell_of hb, ints_at h4 hjl, hj]
      · unfold blk at hvb; simp [World.shape?, hvb]
      · unfold blk at hb; simp [World.shape?, hb, h3]
      · rintro r w' ⟨rfl, rfl⟩
        refine ⟨_, rfl, ?_, mod_setCells _ _ _ (.inl (by simp [Value.ownBlock])) (mod_setCells _ _ _ (.inl (by simp [Value.ownBlock])) (Mod.refl _ _).drew)⟩
        have hb1 := blk_setCells ((L.map i64).drop k) (0 + (k + 1)) w.drew _ (heap_drew _ _ ▸ hb)
        have hb2 := blk_setCells [i64 n] (0 + k) _ _ hb1
        rw [← hil]
        refine Ints.mk hgB hb2 (by omega) hc2 (by rw [wr_size, wr_size, h3]) ?_
        apply List.ext_getElem?
        intro j
        by_cases hj : j < (insAt k n L).length
        · rw [List.getElem?_take, if_pos hj, Array.getElem?_toList, wr_at _ _ _ (by rw [wr_size]; simp; omega), map_get hj, insAt_get hk]
          by_cases hj1 : j < k
          · rw [if_neg (by omega), wr_at _ _ _ (by simp; omega), if_neg (by omega), if_pos hj1, ints_at h4 (by omega)]
          · by_cases hj2 : j = k
            · subst hj2
              rw [if_pos (by simp), if_neg hj1, if_pos rfl]
              simp
            · rw [if_neg (by simp; omega), wr_at _ _ _ (by simp; omega), if_pos (by simp; omega), if_neg hj1, if_neg hj2, List.getElem?_drop, show k + (j - (0 + (k + 1))) = j - 1 by omega, map_get (by omega)]
        · rw [List.getElem?_take, if_neg hj, List.getElem?_map, List.getElem?_eq_none (by omega)]; rfl
end Go.Proofs.Ytmhfpiincnadiaa
