/- fdb: DeleteFunc where nothing goes, MinFunc, add, Learn. -/
import Derived.Test.YtmhfpiincnadiaaIter
namespace Go.Proofs.Ytmhfpiincnadiaa
open Go.RowKit
open Go.ChangeMaps (setBlock)
set_option linter.unusedSimpArgs false
set_option linter.unusedVariables false

set_option maxRecDepth 100000 in
set_option maxHeartbeats 1000000 in
theorem static_any (e : Nat) (w : World) (h9 : w.cell? ⟨e, 9, none⟩ = some (.bool false)) :
    Calls Try.prog 129 #[ptr e] w fun r w' => r = .returned (.bool false) ∧ w' = w := by
  go_enter Try.func129, Try.ntmps129
  go_wp2
  go_ret
  exact ⟨rfl, rfl⟩

set_option maxRecDepth 100000 in
set_option maxHeartbeats 1000000 in
theorem index_none (g n cap : Nat) (f : Nat → Nat) (w : World) (hn : n ≤ 1000000) (hx : ∀ i, i < n → w.cell? ⟨g, i, none⟩ = some (ptr (f i))) (hs : ∀ i, i < n → w.cell? ⟨f i, 9, none⟩ = some (.bool false)) :
    Calls Try.prog 146 #[.slice (some ⟨g, 0, none⟩) n cap, .func (.func 129) #[] #[]] w fun r w' => r = .returned (.int .i64 (-1)) ∧ w' = w := by
  have HX := Lib.hid hx
  have HS := Lib.hid hs
  clear hx hs
  go_enter Try.func146, Try.ntmps146
  go_wp2
  go_loop [5, 8] (fun _ i => ∃ k : Nat, k ≤ n ∧ i = .int .i64 k) (fun _ i => n - (intOf i).toNat)
  case atStart => exact ⟨0, by omega, rfl⟩
  case round =>
    obtain ⟨k, hk, rfl⟩ := hrel
    by_cases hlt : k < n
    · have hc := HX.out k hlt
      have hd := HS.out k hlt
      go_wp2_with (go_at_call 129; refine (static_any (f k) _ hd).mono ?_; rintro r w' ⟨rfl, rfl⟩)
      go_round
      case rel => exact ⟨k + 1, by omega, by go_num⟩
      case measure => simp [intOf]; omega
    · go_wp2
      go_ret
      exact ⟨rfl, rfl⟩

set_option maxRecDepth 100000 in
set_option maxHeartbeats 1000000 in
theorem delete_none (g n cap : Nat) (f : Nat → Nat) (w : World) (hn : n ≤ 1000000) (hx : ∀ i, i < n → w.cell? ⟨g, i, none⟩ = some (ptr (f i))) (hs : ∀ i, i < n → w.cell? ⟨f i, 9, none⟩ = some (.bool false)) :
    Calls Try.prog 128 #[.slice (some ⟨g, 0, none⟩) n cap, .func (.func 129) #[] #[]] w fun r w' => r = .returned (.slice (some ⟨g, 0, none⟩) n cap) ∧ w = w' := by
  have H := Lib.hid (index_none g n cap f w hn hx hs)
  clear hx hs
  go_enter Try.func128, Try.ntmps128
  go_wp2_with (go_at_call 146; refine H.out.mono ?_; rintro r w' ⟨rfl, rfl⟩)
  go_ret
  exact ⟨rfl, rfl⟩

/-- The place of the least of the first k + 1 entries. -/
def minAt (key : Nat → Int) : Nat → Nat
  | 0 => 0
  | k + 1 => if key (k + 1) < key (minAt key k) then k + 1 else minAt key k

theorem minAt_step (key : Nat → Int) (k : Nat) (h : 1 ≤ k) : minAt key k = if key k < key (minAt key (k - 1)) then k else minAt key (k - 1) := by
  obtain ⟨j, rfl⟩ : ∃ j, k = j + 1 := ⟨k - 1, by omega⟩
  rfl
theorem minAt_le (key : Nat → Int) : ∀ k, minAt key k ≤ k
  | 0 => Nat.le_refl _
  | k + 1 => by
    have := minAt_le key k
    unfold minAt
    split <;> omega
theorem minAt_min (key : Nat → Int) : ∀ k j, j ≤ k → key (minAt key k) ≤ key j
  | 0, j, h => by obtain rfl : j = 0 := by omega
                  exact Int.le_refl _
  | k + 1, j, h => by
    have ih := minAt_min key k
    unfold minAt
    by_cases hj : j = k + 1
    · subst hj
      split
      · exact Int.le_refl _
      · omega
    · have := ih j (by omega)
      split <;> omega

set_option maxRecDepth 100000 in
set_option maxHeartbeats 2000000 in
theorem min_any (g n cap : Nat) (f : Nat → Nat) (e : Nat → EntM) (w : World) (hn : n ≤ 1000000) (h0 : 0 < n) (hx : ∀ i, i < n → w.cell? ⟨g, i, none⟩ = some (ptr (f i)))
    (he : ∀ i, i < n → blk w (f i) = some (.cells (e i).cells 67 (0, 0))) (hg : g < w.heap.size) :
    Calls Try.prog 130 #[.slice (some ⟨g, 0, none⟩) n cap, .func (.func 131) #[] #[]] w fun r w' => r = .returned (ptr (f (minAt (fun i => (e i).key) (n - 1)))) ∧ Mod [] w w' := by
  have HX := Lib.hid hx
  have HE := Lib.hid he
  have hc0 := hx 0 h0
  clear hx he
  go_enter Try.func130, Try.ntmps130
  go_wp2
  go_loopw [5, 6] (fun m i wr => ∃ k : Nat, 1 ≤ k ∧ k ≤ n ∧ i = .int .i64 k ∧ m = ptr (f (minAt (fun i => (e i).key) (k - 1))) ∧ Mod [] w wr) (fun _ i _ => n - (intOf i).toNat)
  case atStart => exact ⟨1, by omega, by omega, rfl, rfl, Mod.refl _ _⟩
  case round =>
    obtain ⟨k, hk1, hk, rfl, rfl, hm⟩ := hrel
    by_cases hlt : k < n
    · have hc : wr.cell? ⟨g, k, none⟩ = some (ptr (f k)) := by rw [hm.cell hg (by simp)]; exact HX.out k hlt
      have hle := minAt_le (fun i => (e i).key) (k - 1)
      have e1 := hm.keep (HE.out k hlt) (by simp)
      have e2 := hm.keep (HE.out (minAt (fun i => (e i).key) (k - 1)) (by omega)) (by simp)
      have hst := minAt_step (fun i => (e i).key) k hk1
      have hcmp := compare_any (e k) (e (minAt (fun i => (e i).key) (k - 1))) _ _ wr e1 e2
      clear e1 e2
      by_cases hl : (e k).key < (e (minAt (fun i => (e i).key) (k - 1))).key
      · rw [if_pos hl] at hst
        have hsg : sgn (e k).key (e (minAt (fun i => (e i).key) (k - 1))).key = -1 := if_pos hl
        rw [hsg] at hcmp
        have HC := Lib.hid hcmp
        have HT := Lib.hid hst
        clear hcmp hst hsg hl
        go_wp2_with (go_at_call 131; refine HC.out.mono ?_; rintro r w1 ⟨rfl, hm1⟩; have hc1 : w1.cell? ⟨g, k, none⟩ = some (ptr (f k)) := (hm1.cell (by have := hm.size; omega) (by simp) k).trans hc)
        go_roundw
        case rel => exact ⟨k + 1, by omega, by omega, by go_num, by rw [show k + 1 - 1 = k by omega, HT.out], hm.trans hm1 (by simp)⟩
        case measure => simp [intOf]; omega
      · rw [if_neg hl] at hst
        have hsg : 0 ≤ sgn (e k).key (e (minAt (fun i => (e i).key) (k - 1))).key := by unfold sgn; rw [if_neg hl]; split <;> omega
        generalize hsv : sgn (e k).key (e (minAt (fun i => (e i).key) (k - 1))).key = sv at hcmp hsg
        clear hsv
        have HC := Lib.hid hcmp
        have HT := Lib.hid hst
        clear hcmp hst hl
        go_wp2_with (go_at_call 131; refine HC.out.mono ?_; rintro r w1 ⟨rfl, hm1⟩)
        go_roundw
        case rel => exact ⟨k + 1, by omega, by omega, by go_num, by rw [show k + 1 - 1 = k by omega, HT.out], hm.trans hm1 (by simp)⟩
        case measure => simp [intOf]; omega
    · obtain rfl : k = n := by omega
      go_wp2
      go_ret
      exact ⟨rfl, hm⟩
end Go.Proofs.Ytmhfpiincnadiaa
