/- The model of bridge; how a bridge lies in memory. -/
import Derived.Test.YtmhfpiincnadiaaBrNew
namespace Go.Proofs.Ytmhfpiincnadiaa
open Go.RowKit
open Go.ChangeMaps (setBlock)
set_option linter.unusedSimpArgs false
set_option linter.unusedVariables false

/-! ### association lists, mapped -/
section
variable {κ α β : Type} [DecidableEq κ] (f : α → β)
theorem look_map (k : κ) : ∀ l : List (κ × α), look k (l.map fun x => (x.1, f x.2)) = (look k l).map f
  | [] => rfl
  | x :: l => by
    simp only [List.map_cons, look]
    by_cases h : k = x.1
    · simp [h]
    · simp [h, look_map k l]
theorem del_map (k : κ) : ∀ l : List (κ × α), del k (l.map fun x => (x.1, f x.2)) = (del k l).map fun x => (x.1, f x.2)
  | [] => rfl
  | x :: l => by
    simp only [List.map_cons, del]
    by_cases h : k = x.1
    · simp [h]
    · simp [h, del_map k l]
theorem upd_map (k : κ) (v : α) : ∀ l : List (κ × α), upd k (f v) (l.map fun x => (x.1, f x.2)) = (upd k v l).map fun x => (x.1, f x.2)
  | [] => rfl
  | x :: l => by
    simp only [List.map_cons, upd]
    by_cases h : k = x.1
    · simp [h]
    · simp [h, upd_map k v l]
end

structure SegM where
  base : BaseM
  ports : List Int
  peers : List Int
/-- A segment where it lies: its struct at s, its base at p with what it holds, its two rows. -/
structure SegR where
  s : Nat
  p : Nat
  F : List Nat
  pv : Value
  qv : Value
  m : SegM
def SegR.foot (x : SegR) : List Nat := x.s :: (x.F ++ (x.pv.ownBlock.toList ++ x.qv.ownBlock.toList))
theorem SegR.mem_foot {x : SegR} {b : Nat} : b ∈ x.foot ↔ b = x.s ∨ b ∈ x.F ∨ x.pv.ownBlock = some b ∨ x.qv.ownBlock = some b := by
  simp [SegR.foot]

structure SegIs (w : World) (x : SegR) : Prop where
  seg : blk w x.s = some (.cells #[ptr x.p, x.pv, x.qv] 110 (0, 0))
  base : BaseAt w x.p x.F x.m.base
  ports : Ints w 0 x.pv x.m.ports
  peers : Ints w 0 x.qv x.m.peers
  sF : x.s ∉ x.F
  own : ∀ b, (x.pv.ownBlock = some b ∨ x.qv.ownBlock = some b) → b ≠ x.s ∧ b ∉ x.F

theorem SegIs.lt {w : World} {x : SegR} (h : SegIs w x) : ∀ b, b ∈ x.foot → b < w.heap.size := by
  intro b hb
  rcases SegR.mem_foot.1 hb with rfl | hb | hb | hb
  · exact lt_of h.seg
  · exact h.base.lt b hb
  · exact (h.ports.lt b hb).2
  · exact (h.peers.lt b hb).2
theorem SegIs.keep {w w' : World} {x : SegR} (h : SegIs w x) (hk : ∀ b, b ∈ x.foot → blk w' b = blk w b) : SegIs w' x where
  seg := (hk _ (SegR.mem_foot.2 (.inl rfl))).trans h.seg
  base := h.base.keep fun b hb => hk b (SegR.mem_foot.2 (.inr (.inl hb)))
  ports := h.ports.keep fun b hb => hk b (SegR.mem_foot.2 (.inr (.inr (.inl hb))))
  peers := h.peers.keep fun b hb => hk b (SegR.mem_foot.2 (.inr (.inr (.inr hb))))
  sF := h.sF
  own := h.own

def setF {α : Type} (S : Nat → α) (k : Nat) (x : α) : Nat → α := fun i => if i = k then x else S i
theorem setF_eq {α : Type} (S : Nat → α) (k : Nat) (x : α) : setF S k x k = x := by simp [setF]
theorem setF_ne {α : Type} (S : Nat → α) {k i : Nat} (x : α) (h : i ≠ k) : setF S k x i = S i := by simp [setF, h]

structure BridgeIs (w : World) (p mb : Nat) (S : Nat → SegR) (bound : List (Int × Int)) : Prop where
  top : blk w p = some (.cells #[ptr (S 0).s, ptr (S 1).s, ptr (S 2).s, ptr (S 3).s, ptr (S 4).s, ptr (S 5).s, ptr (S 6).s, ptr (S 7).s, .map (some mb)] 107 (0, 0))
  map : ∃ es clock, blk w mb = some (.map es clock) ∧ IsMap i64 es clock (bound.map fun x => (x.1, i64 x.2))
  seg : ∀ i, i < 8 → SegIs w (S i)
  pm : p ≠ mb
  out : ∀ i, i < 8 → ∀ b, b ∈ (S i).foot → b ≠ p ∧ b ≠ mb
  apart : ∀ i, i < 8 → ∀ j, j < 8 → i ≠ j → ∀ b, b ∈ (S i).foot → b ∉ (S j).foot

def brFoot (p mb : Nat) (S : Nat → SegR) : List Nat := p :: mb :: (List.range 8).flatMap fun i => (S i).foot
theorem mem_brFoot {p mb : Nat} {S : Nat → SegR} {b : Nat} : b ∈ brFoot p mb S ↔ b = p ∨ b = mb ∨ ∃ i, i < 8 ∧ b ∈ (S i).foot := by
  simp [brFoot]

theorem BridgeIs.lt {w : World} {p mb : Nat} {S : Nat → SegR} {bound : List (Int × Int)} (h : BridgeIs w p mb S bound) : ∀ b, b ∈ brFoot p mb S → b < w.heap.size := by
  intro b hb
  rcases mem_brFoot.1 hb with rfl | rfl | ⟨i, hi, hb⟩
  · exact lt_of h.top
  · obtain ⟨es, clock, h1, _⟩ := h.map; exact lt_of h1
  · exact (h.seg i hi).lt b hb
theorem BridgeIs.keep {w w' : World} {p mb : Nat} {S : Nat → SegR} {bound : List (Int × Int)} (h : BridgeIs w p mb S bound) (hk : ∀ b, b ∈ brFoot p mb S → blk w' b = blk w b) : BridgeIs w' p mb S bound where
  top := (hk p (mem_brFoot.2 (.inl rfl))).trans h.top
  map := by obtain ⟨es, clock, h1, h2⟩ := h.map; exact ⟨es, clock, (hk mb (mem_brFoot.2 (.inr (.inl rfl)))).trans h1, h2⟩
  seg i hi := (h.seg i hi).keep fun b hb => hk b (mem_brFoot.2 (.inr (.inr ⟨i, hi, hb⟩)))
  pm := h.pm
  out := h.out
  apart := h.apart
theorem BridgeIs.mod {w w' : World} {p mb : Nat} {S : Nat → SegR} {bound : List (Int × Int)} {T : List Nat} (h : BridgeIs w p mb S bound) (hm : Mod T w w') (hd : ∀ b, b ∈ brFoot p mb S → b ∉ T) : BridgeIs w' p mb S bound :=
  h.keep fun b hb => hm.block b (h.lt b hb) (hd b hb)

/-- A bridge of which one segment was turned, and perhaps the map. -/
theorem BridgeIs.update {w w' : World} {p mb : Nat} {S : Nat → SegR} {bound bound' : List (Int × Int)} (h : BridgeIs w p mb S bound) {k : Nat} (hk : k < 8) {x' : SegR} (hs : x'.s = (S k).s) (hx : SegIs w' x')
    (hm : Mod (mb :: (S k).s :: (S k).F) w w') (hmap : ∃ es clock, blk w' mb = some (.map es clock) ∧ IsMap i64 es clock (bound'.map fun x => (x.1, i64 x.2)))
    (hfoot : ∀ b, b ∈ x'.foot → b ∈ (S k).foot ∨ w.heap.size ≤ b) : BridgeIs w' p mb (setF S k x') bound' := by
  have hwork : ∀ b, b ∈ (S k).s :: (S k).F → b ∈ (S k).foot := fun b hb => by
    rcases List.mem_cons.1 hb with rfl | hb
    · exact SegR.mem_foot.2 (.inl rfl)
    · exact SegR.mem_foot.2 (.inr (.inl hb))
  have hsi : ∀ i, i < 8 → (setF S k x' i).s = (S i).s := fun i hi => by
    by_cases hik : i = k
    · subst hik; rw [setF_eq, hs]
    · rw [setF_ne _ _ hik]
  constructor
  · rw [hsi 0 (by omega), hsi 1 (by omega), hsi 2 (by omega), hsi 3 (by omega), hsi 4 (by omega), hsi 5 (by omega), hsi 6 (by omega), hsi 7 (by omega)]
    refine hm.keep h.top ?_
    intro hp
    rcases List.mem_cons.1 hp with hp | hp
    · exact h.pm hp
    · exact (h.out k hk p (hwork p hp)).1 rfl
  · exact hmap
  · intro i hi
    by_cases hik : i = k
    · subst hik; rw [setF_eq]; exact hx
    · rw [setF_ne _ _ hik]
      refine (h.seg i hi).keep fun b hb => hm.block b ((h.seg i hi).lt b hb) ?_
      intro hb2
      rcases List.mem_cons.1 hb2 with hb2 | hb2
      · exact (h.out i hi b hb).2 hb2
      · exact h.apart i hi k hk hik b hb (hwork b hb2)
  · exact h.pm
  · intro i hi b hb
    by_cases hik : i = k
    · subst hik
      rw [setF_eq] at hb
      rcases hfoot b hb with hb | hb
      · exact h.out i hi b hb
      · have h1 := h.lt p (mem_brFoot.2 (.inl rfl))
        have h2 := h.lt mb (mem_brFoot.2 (.inr (.inl rfl)))
        omega
    · rw [setF_ne _ _ hik] at hb
      exact h.out i hi b hb
  · intro i hi j hj hij b hb hb2
    by_cases hik : i = k
    · subst hik
      rw [setF_eq] at hb
      rw [setF_ne _ _ (Ne.symm hij)] at hb2
      rcases hfoot b hb with hb | hb
      · exact h.apart i hi j hj hij b hb hb2
      · have := (h.seg j hj).lt b hb2; omega
    · rw [setF_ne _ _ hik] at hb
      by_cases hjk : j = k
      · subst hjk
        rw [setF_eq] at hb2
        rcases hfoot b hb2 with hb2 | hb2
        · exact h.apart i hi j hj hij b hb hb2
        · have := (h.seg i hi).lt b hb; omega
      · rw [setF_ne _ _ hjk] at hb2
        exact h.apart i hi j hj hij b hb hb2

theorem bridge_cell {w : World} {p mb : Nat} {S : Nat → SegR} {bound : List (Int × Int)} (h : BridgeIs w p mb S bound) {k : Nat} (hk : k < 8) : w.cell? ⟨p, k, none⟩ = some (ptr (S k).s) := by
  rw [cell_of h.top]
  match k, hk with
  | 0, _ => rfl
  | 1, _ => rfl
  | 2, _ => rfl
  | 3, _ => rfl
  | 4, _ => rfl
  | 5, _ => rfl
  | 6, _ => rfl
  | 7, _ => rfl

/-! ### segment, Segment, Base -/
set_option maxRecDepth 100000 in
set_option maxHeartbeats 1000000 in
theorem segment_in {p q k : Nat} {w : World} (hk : k < 8) (hc : w.cell? ⟨p, k, none⟩ = some (ptr q)) :
    Calls Try.prog 37 #[ptr p, i64 k] w fun r w' => r = .returned (ptr q) ∧ w = w' := by
  go_enter Try.func37, Try.ntmps37
  go_wp2
  go_ret
  exact ⟨rfl, rfl⟩
set_option maxRecDepth 100000 in
set_option maxHeartbeats 1000000 in
theorem segment_out {p : Nat} {n : Int} {w : World} (hn : n < 0 ∨ 8 ≤ n) :
    Calls Try.prog 37 #[ptr p, i64 n] w fun r w' => r = .returned (.pointer none) ∧ w = w' := by
  rcases hn with hn | hn
  · go_enter Try.func37, Try.ntmps37
    go_wp2
    go_ret
    exact ⟨rfl, rfl⟩
  · go_enter Try.func37, Try.ntmps37
    go_wp2
    go_ret
    exact ⟨rfl, rfl⟩
end Go.Proofs.Ytmhfpiincnadiaa
