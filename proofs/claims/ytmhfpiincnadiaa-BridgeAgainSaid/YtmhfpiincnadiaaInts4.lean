/- bridge: with, without; ints of the statements. -/
import Derived.Test.YtmhfpiincnadiaaInts3
namespace Go.Proofs.Ytmhfpiincnadiaa
open Go.RowKit Go.Shelf Go.Lib Go.Sort
open Go.ChangeMaps (setBlock)
set_option linter.unusedSimpArgs false
set_option linter.unusedVariables false

def withM (n : Int) (L : List Int) : List Int := insAt (L.countP (· < n)) n L
def withoutM (n : Int) (L : List Int) : List Int := L.filter fun x => !(x == n)

theorem ownBlock_mem {v : Value} {b : Nat} : b ∈ v.ownBlock.toList ↔ v.ownBlock = some b := by simp

set_option maxRecDepth 100000 in
set_option maxHeartbeats 1000000 in
theorem with_any {w : World} {B : Nat} {v : Value} {L : List Int} (h : Ints w B v L) (hl : L.length ≤ 900) (hs : L.Pairwise (· ≤ ·)) (n : Int) :
    Calls Try.prog 42 #[v, i64 n] w fun r w' => ∃ v', r = .returned v' ∧ Ints w' w.heap.size v' (withM n L) ∧ Mod [] w w' := by
  have hk : L.countP (· < n) ≤ L.length := List.countP_le_length
  have hsearch := Lib.hid (search_any h (by omega) hs n)
  have H := Lib.hid h
  obtain ⟨k, hke⟩ : ∃ k, k = L.countP (· < n) := ⟨_, rfl⟩
  rw [← hke] at hsearch hk
  have hw : withM n L = insAt k n L := by rw [hke]; rfl
  rw [hw]
  clear h hs hke hw
  go_enter Try.func42, Try.ntmps42
  go_wp2_with (first
    | (go_at_call 64; refine hsearch.out.mono ?_; rintro r w1 ⟨rfl, q, rfl⟩)
    | (go_at_call 45; refine (clone_any (Ints.keep (w' := w.drewN q) H.out (fun b _ => rfl)) (by omega)).mono ?_; rintro r w2 ⟨v2, rfl, hv2, hm2⟩; have HV := Lib.hid hv2; clear hv2)
    | (go_at_call 65; refine (insert_any (Ints.keep (w' := w2.alloc (.cells #[i64 n] 3)) HV.out (fun b hb => heap_alloc_lt _ _ _ (HV.out.lt b hb).2)) (by omega) (by have := hm2.size; simp at this ⊢; omega) k hk n w2.heap.size (heap_alloc_at _ _ _ rfl) (fun b hb => by have := (HV.out.lt b hb).2; omega)).mono ?_; rintro r w3 ⟨v3, rfl, hv3, hm3⟩))
  go_ret
  refine ⟨_, rfl, hv3, ?_⟩
  refine ((hm2.drewN_l).alloc _).trans hm3 ?_
  intro b hb
  have := (HV.out.lt b (ownBlock_mem.1 hb)).1
  exact .inr this

set_option maxRecDepth 100000 in
set_option maxHeartbeats 1000000 in
theorem without_any {w : World} {B : Nat} {v : Value} {L : List Int} (h : Ints w B v L) (hl : L.length ≤ 900) (n : Int) :
    Calls Try.prog 43 #[v, i64 n] w fun r w' => ∃ v', r = .returned v' ∧ Ints w' w.heap.size v' (withoutM n L) ∧ Mod [] w w' := by
  have H := Lib.hid h
  clear h
  go_enter Try.func43, Try.ntmps43
  go_wp2_with (first
    | (go_at_call 45; refine (clone_any (Ints.keep (w' := w.alloc (.cells #[i64 n] 3)) H.out (fun b hb => heap_alloc_lt _ _ _ (H.out.lt b hb).2)) (by omega)).mono ?_; rintro r w2 ⟨v2, rfl, hv2, hm2⟩; have HV := Lib.hid hv2; clear hv2)
    | (go_at_call 66; refine (delete_any HV.out (by omega) n w.heap.size (hm2.keep (heap_alloc_at _ _ _ rfl) (by simp)) (fun b hb => by have := (HV.out.lt b hb).1; simp at this; omega)).mono ?_; rintro r w3 ⟨v3, rfl, hv3, hm3⟩))
  go_ret
  refine ⟨_, rfl, hv3.later (by simp), ?_⟩
  refine (((Mod.refl [] w).alloc _).trans hm2 (by simp)).trans hm3 ?_
  intro b hb
  have := (HV.out.lt b (ownBlock_mem.1 hb)).1
  simp at this
  exact .inr (by omega)
end Go.Proofs.Ytmhfpiincnadiaa
