/- Slices of int: Clone, BinarySearch, Insert, Contains, DeleteFunc; with and without of bridge. -/
import Derived.Test.YtmhfpiincnadiaaFdb2
import Derived.Test.YtmhfpiincnadiaaShelf
namespace Go.Proofs.Ytmhfpiincnadiaa
open Go.RowKit Go.Shelf Go.Lib
open Go.ChangeMaps (setBlock)
set_option linter.unusedSimpArgs false
set_option linter.unusedVariables false

@[reducible] def i64 (n : Int) : Value := .int .i64 n
/-- A row of ints of one's own (its block lies at B or behind). -/
def Ints (w : World) (B : Nat) (v : Value) (L : List Int) : Prop := w.ownsRow B 3 1 v L.length (L.map i64)

theorem Ints.slice {w : World} {B : Nat} {v : Value} {L : List Int} (h : Ints w B v L) : ∃ a c, v = .slice a L.length c ∧ L.length ≤ c ∧ c ≤ maxLen ∧ ((a = none ∧ L = [] ∧ c = 0) ∨ ∃ g cur, a = some ⟨g, 0, none⟩ ∧ B ≤ g ∧ blk w g = some (.cells cur 3 (0, 0)) ∧ cur.size = c ∧ cur.toList.take L.length = L.map i64) := by
  rcases h.2 with ⟨rfl, h1⟩ | ⟨g, c, cur, rfl, hB, hb, h1, h2, h3, h4⟩
  · exact ⟨none, 0, by rw [h1], by omega, by unfold maxLen; omega, .inl ⟨rfl, List.length_eq_zero_iff.1 h1, rfl⟩⟩
  · exact ⟨_, c, rfl, h1, h2, .inr ⟨g, cur, rfl, hB, hb, by omega, by rw [Nat.mul_one] at h4; exact h4⟩⟩
theorem Ints.mk {w : World} {B g c : Nat} {L : List Int} {cur : Array Value} (hB : B ≤ g) (hb : blk w g = some (.cells cur 3 (0, 0))) (h1 : L.length ≤ c) (h2 : c ≤ maxLen) (h3 : cur.size = c) (h4 : cur.toList.take L.length = L.map i64) :
    Ints w B (.slice (some ⟨g, 0, none⟩) L.length c) L :=
  ⟨by simp, .inr ⟨g, c, cur, rfl, hB, hb, h1, h2, by omega, by rw [Nat.mul_one]; exact h4⟩⟩
theorem Ints.nil (w : World) (B : Nat) : Ints w B (.slice none 0 0) [] := ⟨rfl, .inl ⟨rfl, rfl⟩⟩
theorem Ints.later {w : World} {B B' : Nat} {v : Value} {L : List Int} (h : Ints w B v L) (hb : B' ≤ B) : Ints w B' v L := by
  refine ⟨h.1, h.2.imp id ?_⟩
  rintro ⟨g, c, cur, h0, hB, hr⟩
  exact ⟨g, c, cur, h0, by omega, hr⟩
theorem Ints.keep {w w' : World} {B : Nat} {v : Value} {L : List Int} (h : Ints w B v L) (hk : ∀ b, v.ownBlock = some b → blk w' b = blk w b) : Ints w' B v L := by
  refine ⟨h.1, h.2.imp id ?_⟩
  rintro ⟨g, c, cur, rfl, hB, hb, hr⟩
  exact ⟨g, c, cur, rfl, hB, (hk g rfl).trans hb, hr⟩
theorem Ints.lt {w : World} {B : Nat} {v : Value} {L : List Int} (h : Ints w B v L) : ∀ b, v.ownBlock = some b → B ≤ b ∧ b < w.heap.size := by
  intro b hb
  rcases h.2 with ⟨rfl, h1⟩ | ⟨g, c, cur, rfl, hB, hg, hr⟩
  · cases hb
  · cases hb; exact ⟨hB, lt_of hg⟩

theorem ints_at {cur : Array Value} {L : List Int} (h : cur.toList.take L.length = L.map i64) {j : Nat} (hj : j < L.length) : cur[j]? = some (i64 (L.getD j 0)) := by
  have h5 := congrArg (·[j]?) h
  simp only [List.getElem?_take, hj, if_true, List.getElem?_map, Array.getElem?_toList] at h5
  rw [h5, List.getElem?_eq_getElem hj, List.getD_eq_getElem?_getD, List.getElem?_eq_getElem hj]
  rfl

/-! ### cells written one behind the other -/
def wr : Array Value → Nat → List Value → Array Value
  | cs, _, [] => cs
  | cs, o, v :: r => wr (cs.setIfInBounds o v) (o + 1) r
theorem wr_size : ∀ (vs : List Value) (cs : Array Value) (o : Nat), (wr cs o vs).size = cs.size
  | [], _, _ => rfl
  | v :: r, cs, o => by rw [wr, wr_size r]; simp
theorem wr_at : ∀ (vs : List Value) (cs : Array Value) (o : Nat), o + vs.length ≤ cs.size → ∀ j, (wr cs o vs)[j]? = if o ≤ j ∧ j < o + vs.length then vs[j - o]? else cs[j]?
  | [], cs, o, h, j => by
    rw [if_neg (by simp)]
    rfl
  | v :: r, cs, o, h, j => by
    simp only [List.length_cons] at h
    rw [wr, wr_at r _ _ (by simp; omega)]
    by_cases h1 : j = o
    · subst h1
      rw [if_neg (by omega), if_pos (by simp)]
      have : j < cs.size := by omega
      simp [this]
    · by_cases h2 : o + 1 ≤ j ∧ j < o + 1 + r.length
      · rw [if_pos h2, if_pos (by simp; omega)]
        rw [show j - o = (j - (o + 1)) + 1 by omega]
        rfl
      · rw [if_neg h2, if_neg (by simp; omega), Array.getElem?_setIfInBounds_ne (by omega)]
theorem blk_setCells {g : Nat} {T : TypeId} {fr : Nat × Nat} : ∀ (vs : List Value) (o : Nat) (w : World) (cs : Array Value), blk w g = some (.cells cs T fr) → blk (w.setCells g o vs) g = some (.cells (wr cs o vs) T fr)
  | [], _, _, _, h => h
  | v :: r, o, w, cs, h => blk_setCells r (o + 1) _ _ (heap_setCell_eq w g o v h)
theorem mod_setCells {g : Nat} {S : List Nat} {w0 : World} : ∀ (vs : List Value) (o : Nat) (w : World), (g ∈ S ∨ w0.heap.size ≤ g) → Mod S w0 w → Mod S w0 (w.setCells g o vs)
  | [], _, _, _, h => h
  | v :: r, o, w, hg, h => mod_setCells r (o + 1) _ hg (h.setCell hg v)

theorem wr_take {cur : Array Value} {L : List Int} {o : Nat} {vs : List Value} {L' : List Int} (h : cur.toList.take L.length = L.map i64) (hv : o + vs.length ≤ cur.size) (hl : L'.length ≤ cur.size)
    (hin : ∀ j, o ≤ j → j < o + vs.length → j < L'.length → vs[j - o]? = some (i64 (L'.getD j 0))) (hout : ∀ j, j < L'.length → (j < o ∨ o + vs.length ≤ j) → j < L.length ∧ L'.getD j 0 = L.getD j 0) :
    (wr cur o vs).toList.take L'.length = L'.map i64 := by
  apply List.ext_getElem?
  intro j
  by_cases hj : j < L'.length
  · rw [List.getElem?_take, if_pos hj, Array.getElem?_toList, wr_at _ _ _ hv]
    have e : (L'.map i64)[j]? = some (i64 (L'.getD j 0)) := by
      rw [List.getElem?_map, List.getElem?_eq_getElem hj, List.getD_eq_getElem?_getD, List.getElem?_eq_getElem hj]; rfl
    rw [e]
    by_cases hr : o ≤ j ∧ j < o + vs.length
    · rw [if_pos hr, hin j hr.1 hr.2 hj]
    · obtain ⟨h1, h2⟩ := hout j hj (by omega)
      rw [if_neg hr, ints_at h h1, h2]
  · rw [List.getElem?_take, if_neg hj, List.getElem?_map, List.getElem?_eq_none (by omega)]; rfl

/-! ### Clone, BinarySearch -/
theorem clone_any {w : World} {B : Nat} {v : Value} {L : List Int} (h : Ints w B v L) (hl : L.length ≤ 1000) :
    Calls Try.prog 45 #[v] w fun r w' => ∃ v', r = .returned v' ∧ Ints w' w.heap.size v' L ∧ Mod [] w w' := by
  obtain ⟨a, c, rfl, hc, hc2, ⟨rfl, rfl, rfl⟩ | ⟨g, cur, rfl, hB, hb, h3, h4⟩⟩ := h.slice
  · refine (Any.slices_Clone_int_nil Try.layClone 0 0 w).mono ?_
    rintro r w' ⟨rfl, rfl⟩
    exact ⟨_, rfl, Ints.nil _ _, Mod.refl _ _⟩
  · refine (Any.slices_Clone_int Try.layClone g 0 L.length c L w (Nat.le_refl _) (by omega) (fun j hj => by rw [Nat.zero_add, cell_of hb]; exact ints_at h4 hj)).mono ?_
    rintro r w' ⟨v', rfl, h5, _, h6⟩
    refine ⟨v', rfl, ?_, mod_of_below h6⟩
    rw [List.take_length] at h5
    exact h5
theorem search_any {w : World} {B : Nat} {v : Value} {L : List Int} (h : Ints w B v L) (hl : L.length ≤ 1000) (hs : L.Pairwise (· ≤ ·)) (x : Int) :
    Calls Try.prog 64 #[v, i64 x] w fun r w' => r = .returned (.tuple #[i64 (L.countP (· < x) : Nat), .bool (L.contains x)]) ∧ ∃ q, w' = w.drewN q := by
  obtain ⟨a, c, rfl, hc, hc2, ⟨rfl, rfl, rfl⟩ | ⟨g, cur, rfl, hB, hb, h3, h4⟩⟩ := h.slice
  · refine (Any.slices_BinarySearch_int_empty Try.laySearch none 0 x w).mono ?_
    rintro r w' ⟨rfl, rfl⟩
    exact ⟨rfl, 0, rfl⟩
  · refine (Any.slices_BinarySearch_int Try.laySearch g 0 L.length c L x w (Nat.le_refl _) (by omega) (fun j hj => by rw [Nat.zero_add, cell_of hb]; exact ints_at h4 hj) (by rw [List.take_length]; exact hs)).mono ?_
    rintro r w' ⟨rfl, q, rfl⟩
    rw [List.take_length]
    exact ⟨rfl, q, rfl⟩
end Go.Proofs.Ytmhfpiincnadiaa
