/- fdb: List. -/
import Derived.Test.YtmhfpiincnadiaaBr12
import Derived.Test.YtmhfpiincnadiaaShelf2
import Derived.Deep.AppendLies
namespace Go.Proofs.Ytmhfpiincnadiaa
open Go.RowKit Go.Shelf Go.Lib Go.Sort
open Go.ChangeMaps (setBlock)
set_option linter.unusedSimpArgs false
set_option linter.unusedVariables false

set_option maxRecDepth 100000 in
set_option maxHeartbeats 1000000 in
theorem list1_any (a b : EntM) (w : World) :
    Calls Try.prog 39 #[.agg #[.int .u8 (a.mac.a0.toNat : Int), .int .u8 (a.mac.a1.toNat : Int), .int .u8 (a.mac.a2.toNat : Int), .int .u8 (a.mac.a3.toNat : Int), .int .u8 (a.mac.a4.toNat : Int), .int .u8 (a.mac.a5.toNat : Int), .bool a.tun, .int .i64 a.n, .int .u64 a.at_, .bool false], .agg #[.int .u8 (b.mac.a0.toNat : Int), .int .u8 (b.mac.a1.toNat : Int), .int .u8 (b.mac.a2.toNat : Int), .int .u8 (b.mac.a3.toNat : Int), .int .u8 (b.mac.a4.toNat : Int), .int .u8 (b.mac.a5.toNat : Int), .bool b.tun, .int .i64 b.n, .int .u64 b.at_, .bool false]] w fun e w' => e = .returned (i64 (sgn a.mac.key b.mac.key)) ∧ ∃ q os', w' = grow (w.drewN q) os' := by
  have hp : blk ((w.alloc (.cells #[.int .u8 (a.mac.a0.toNat : Int), .int .u8 (a.mac.a1.toNat : Int), .int .u8 (a.mac.a2.toNat : Int), .int .u8 (a.mac.a3.toNat : Int), .int .u8 (a.mac.a4.toNat : Int), .int .u8 (a.mac.a5.toNat : Int), .bool a.tun, .int .i64 a.n, .int .u64 a.at_, .bool false] 67)).alloc (.cells #[.int .u8 (b.mac.a0.toNat : Int), .int .u8 (b.mac.a1.toNat : Int), .int .u8 (b.mac.a2.toNat : Int), .int .u8 (b.mac.a3.toNat : Int), .int .u8 (b.mac.a4.toNat : Int), .int .u8 (b.mac.a5.toNat : Int), .bool b.tun, .int .i64 b.n, .int .u64 b.at_, .bool false] 67)) w.heap.size = some (.cells #[.int .u8 (a.mac.a0.toNat : Int), .int .u8 (a.mac.a1.toNat : Int), .int .u8 (a.mac.a2.toNat : Int), .int .u8 (a.mac.a3.toNat : Int), .int .u8 (a.mac.a4.toNat : Int), .int .u8 (a.mac.a5.toNat : Int), .bool a.tun, .int .i64 a.n, .int .u64 a.at_, .bool false] 67 (0, 0)) := (heap_alloc_lt _ _ _ (by simp)).trans (heap_alloc_at _ _ _ rfl)
  have hq : blk ((w.alloc (.cells #[.int .u8 (a.mac.a0.toNat : Int), .int .u8 (a.mac.a1.toNat : Int), .int .u8 (a.mac.a2.toNat : Int), .int .u8 (a.mac.a3.toNat : Int), .int .u8 (a.mac.a4.toNat : Int), .int .u8 (a.mac.a5.toNat : Int), .bool a.tun, .int .i64 a.n, .int .u64 a.at_, .bool false] 67)).alloc (.cells #[.int .u8 (b.mac.a0.toNat : Int), .int .u8 (b.mac.a1.toNat : Int), .int .u8 (b.mac.a2.toNat : Int), .int .u8 (b.mac.a3.toNat : Int), .int .u8 (b.mac.a4.toNat : Int), .int .u8 (b.mac.a5.toNat : Int), .bool b.tun, .int .i64 b.n, .int .u64 b.at_, .bool false] 67)) (w.heap.size + 1) = some (.cells #[.int .u8 (b.mac.a0.toNat : Int), .int .u8 (b.mac.a1.toNat : Int), .int .u8 (b.mac.a2.toNat : Int), .int .u8 (b.mac.a3.toNat : Int), .int .u8 (b.mac.a4.toNat : Int), .int .u8 (b.mac.a5.toNat : Int), .bool b.tun, .int .i64 b.n, .int .u64 b.at_, .bool false] 67 (0, 0)) := heap_alloc_at _ _ _ (by simp)
  have ha : (Extern.Bytes.bytesOf (.slice (some ⟨w.heap.size, 0, none⟩) 6 6)).run Try.prog ((w.alloc (.cells #[.int .u8 (a.mac.a0.toNat : Int), .int .u8 (a.mac.a1.toNat : Int), .int .u8 (a.mac.a2.toNat : Int), .int .u8 (a.mac.a3.toNat : Int), .int .u8 (a.mac.a4.toNat : Int), .int .u8 (a.mac.a5.toNat : Int), .bool a.tun, .int .i64 a.n, .int .u64 a.at_, .bool false] 67)).alloc (.cells #[.int .u8 (b.mac.a0.toNat : Int), .int .u8 (b.mac.a1.toNat : Int), .int .u8 (b.mac.a2.toNat : Int), .int .u8 (b.mac.a3.toNat : Int), .int .u8 (b.mac.a4.toNat : Int), .int .u8 (b.mac.a5.toNat : Int), .bool b.tun, .int .i64 b.n, .int .u64 b.at_, .bool false] 67)).drew = .ok ⟨a.mac.bytes.toArray⟩ _ :=
    run_mac a.mac _ 0 _ (by rw [World.cell?_drew, cell_of hp]; rfl) (by rw [World.cell?_drew, cell_of hp]; rfl) (by rw [World.cell?_drew, cell_of hp]; rfl) (by rw [World.cell?_drew, cell_of hp]; rfl) (by rw [World.cell?_drew, cell_of hp]; rfl) (by rw [World.cell?_drew, cell_of hp]; rfl) 6
  have hb : (Extern.Bytes.bytesOf (.slice (some ⟨w.heap.size + 1, 0, none⟩) 6 6)).run Try.prog ((w.alloc (.cells #[.int .u8 (a.mac.a0.toNat : Int), .int .u8 (a.mac.a1.toNat : Int), .int .u8 (a.mac.a2.toNat : Int), .int .u8 (a.mac.a3.toNat : Int), .int .u8 (a.mac.a4.toNat : Int), .int .u8 (a.mac.a5.toNat : Int), .bool a.tun, .int .i64 a.n, .int .u64 a.at_, .bool false] 67)).alloc (.cells #[.int .u8 (b.mac.a0.toNat : Int), .int .u8 (b.mac.a1.toNat : Int), .int .u8 (b.mac.a2.toNat : Int), .int .u8 (b.mac.a3.toNat : Int), .int .u8 (b.mac.a4.toNat : Int), .int .u8 (b.mac.a5.toNat : Int), .bool b.tun, .int .i64 b.n, .int .u64 b.at_, .bool false] 67)).drew = .ok ⟨b.mac.bytes.toArray⟩ _ :=
    run_mac b.mac _ 0 _ (by rw [World.cell?_drew, cell_of hq]; rfl) (by rw [World.cell?_drew, cell_of hq]; rfl) (by rw [World.cell?_drew, cell_of hq]; rfl) (by rw [World.cell?_drew, cell_of hq]; rfl) (by rw [World.cell?_drew, cell_of hq]; rfl) (by rw [World.cell?_drew, cell_of hq]; rfl) 6
  have hc2 := Lib.hid (bcmp_any a.mac b.mac _ _ _ ha hb)
  clear ha hb hp hq
  go_enter Try.func39, Try.ntmps39
  go_wp2
  refine wp_region_still_tail 5 (by kernel_rfl) (by kernel_rfl) ?_
  simp only [List.take_succ_cons, List.take_zero, List.drop_succ_cons, List.drop_zero]
  iterate 4 still_step
  still_call hc2.out
  refine wpStill_nil ?_
  change wpList _ _ _ _ _ _
  go_wp2
  go_ret
  refine ⟨rfl, 1, #[.cells #[.int .u8 (a.mac.a0.toNat : Int), .int .u8 (a.mac.a1.toNat : Int), .int .u8 (a.mac.a2.toNat : Int), .int .u8 (a.mac.a3.toNat : Int), .int .u8 (a.mac.a4.toNat : Int), .int .u8 (a.mac.a5.toNat : Int), .bool a.tun, .int .i64 a.n, .int .u64 a.at_, .bool false] 67, .cells #[.int .u8 (b.mac.a0.toNat : Int), .int .u8 (b.mac.a1.toNat : Int), .int .u8 (b.mac.a2.toNat : Int), .int .u8 (b.mac.a3.toNat : Int), .int .u8 (b.mac.a4.toNat : Int), .int .u8 (b.mac.a5.toNat : Int), .bool b.tun, .int .i64 b.n, .int .u64 b.at_, .bool false] 67], ?_⟩
  rw [alloc_eq_grow, alloc_eq_grow, grow_grow]
  rfl

/-! ### rows of entries -/
theorem info_ent : (Try.prog.info? 67).map (fun i => (i.zero, i.size, i.bytes)) = some (some (.agg #[.int .u8 0, .int .u8 0, .int .u8 0, .int .u8 0, .int .u8 0, .int .u8 0, .bool false, .int .i64 0, .int .u64 0, .bool false]), 10, 40) := by kernel_rfl
def flatE (l : List EntM) : List Value := l.flatMap fun e => e.cells.toList
theorem flatE_length : ∀ l : List EntM, (flatE l).length = l.length * 10
  | [] => rfl
  | e :: l => by
    have h := flatE_length l
    unfold flatE at h ⊢
    simp only [List.flatMap_cons, List.length_append, h, List.length_cons]
    simp
    omega
theorem flatE_append (l : List EntM) (e : EntM) : flatE (l ++ [e]) = flatE l ++ e.cells.toList := by simp [flatE]
theorem flatE_get : ∀ (l : List EntM) (i j : Nat) (e : EntM), l[i]? = some e → j < 10 → (flatE l)[i * 10 + j]? = e.cells[j]?
  | [], i, j, e, h, _ => by simp at h
  | x :: l, 0, j, e, h, hj => by
    simp only [List.getElem?_cons_zero, Option.some.injEq] at h
    subst h
    unfold flatE
    rw [List.flatMap_cons, List.getElem?_append_left (by simp; omega), Array.getElem?_toList]
    congr 1
    omega
  | x :: l, i + 1, j, e, h, hj => by
    simp only [List.getElem?_cons_succ] at h
    have ih := flatE_get l i j e h hj
    unfold flatE at ih ⊢
    rw [List.flatMap_cons, List.getElem?_append_right (by simp; omega)]
    rw [← ih]
    congr 1
    simp
    omega

/-- A row of entries that can be read. -/
def EntRow (w : World) (B : Nat) (v : Value) (L : List EntM) : Prop :=
  (v = .slice none 0 0 ∧ L = []) ∨ ∃ g c, v = .slice (some ⟨g, 0, none⟩) L.length c ∧ L.length ≤ c ∧ B ≤ g ∧ g < w.heap.size ∧ ∀ i e, L[i]? = some e → ∀ j u, e.cells[j]? = some u → w.cell? ⟨g, i * 10 + j, none⟩ = some u
theorem EntRow.keep {w w' : World} {B : Nat} {v : Value} {L : List EntM} (h : EntRow w B v L) {S : List Nat} (hm : Mod S w w') (hS : ∀ k, k ∈ S → k < B) : EntRow w' B v L := by
  rcases h with h | ⟨g, c, h1, h2, h3, h4, h5⟩
  · exact .inl h
  · refine .inr ⟨g, c, h1, h2, h3, Nat.lt_of_lt_of_le h4 hm.size, fun i e hi j u hu => (hm.cell h4 (fun hk => ?_) _).trans (h5 i e hi j u hu)⟩
    have := hS g hk; omega
def listM (B : BaseM) : List EntM := B.ents.mergeSort fun a b => decide (a.mac.key ≤ b.mac.key)
theorem listM_perm (B : BaseM) : (listM B).Perm B.ents := List.mergeSort_perm _ _
theorem listM_sorted (B : BaseM) : (listM B).Pairwise fun a b => a.mac.key ≤ b.mac.key := by
  have h := List.pairwise_mergeSort (le := fun a b : EntM => decide (a.mac.key ≤ b.mac.key)) (fun a b c h1 h2 => by simp at *; omega) (fun a b => by simp; omega) B.ents
  exact h.imp (fun h => by simpa using h)
theorem listM_unique {B : BaseM} (hm : (B.ents.map (·.mac)).Nodup) {l : List EntM} (hp : l.Perm B.ents) (hs : l.Pairwise fun a b => a.mac.key ≤ b.mac.key) : l = listM B := by
  refine List.Perm.eq_of_pairwise (le := fun a b : EntM => a.mac.key ≤ b.mac.key) ?_ hs (listM_sorted B) (hp.trans (listM_perm B).symm)
  intro a b ha hb h1 h2
  have hk : a.mac = b.mac := key_inj (by omega)
  have ha' := hp.mem_iff.1 ha
  have hb' := (listM_perm B).mem_iff.1 hb
  have : ∀ (L : List EntM), (L.map (·.mac)).Nodup → a ∈ L → b ∈ L → a = b := by
    intro L
    induction L with
    | nil => intro _ h; cases h
    | cons x L ih =>
      intro hn h3 h4
      simp only [List.map_cons, List.nodup_cons] at hn
      rcases List.mem_cons.1 h3 with rfl | h5 <;> rcases List.mem_cons.1 h4 with rfl | h6
      · rfl
      · exact absurd (List.mem_map.2 ⟨b, h6, hk.symm⟩ : a.mac ∈ L.map (·.mac)) hn.1
      · exact absurd (List.mem_map.2 ⟨a, h5, hk⟩ : b.mac ∈ L.map (·.mac)) hn.1
      · exact ih hn.2 h5 h6
  exact this _ hm ha' hb'

/-- Entries with unlike blocks, known by their blocks. -/
theorem perm_of_blocks {L pre : List (EntM × Nat)} (hn : (L.map (·.2)).Nodup) (hin : ∀ x ∈ pre, x ∈ L) (hp : (pre.map (·.2)).Perm (L.map (·.2))) : pre.Perm L := by
  have hf : ∀ l : List (EntM × Nat), (∀ x ∈ l, x ∈ L) → (l.map (·.2)).map (fun b => (L.find? fun x => x.2 == b).getD (⟨⟨0, 0, 0, 0, 0, 0⟩, false, 0, 0⟩, b)) = l := by
    intro l hl
    rw [List.map_map]
    refine (List.map_congr_left (g := id) fun x hx => ?_).trans (List.map_id l)
    simp only [Function.comp, id]
    cases hfi : L.find? fun y => y.2 == x.2 with
    | none =>
      have := List.find?_eq_none.1 hfi x (hl x hx)
      simp at this
    | some y =>
      have h1 := List.find?_some hfi
      have h2 := List.mem_of_find?_eq_some hfi
      obtain ⟨y1, y2⟩ := y
      obtain ⟨x1, x2⟩ := x
      simp only [beq_iff_eq] at h1
      subst h1
      simp only [Option.getD_some, Prod.mk.injEq, and_true]
      exact nodup_snd hn h2 (hl _ hx)
  have h2 := hp.map (fun b => (L.find? fun x => x.2 == b).getD (⟨⟨0, 0, 0, 0, 0, 0⟩, false, 0, 0⟩, b))
  rwa [hf pre hin, hf L (fun _ h => h)] at h2

/-! ### the sort -/
theorem ltOf_key (x y : EntM) : ltOf (fun x y : EntM => sgn x.mac.key y.mac.key) x y = decide (x.mac.key < y.mac.key) := by
  unfold ltOf sgn
  by_cases h1 : x.mac.key < y.mac.key
  · simp [h1]
  · by_cases h2 : y.mac.key < x.mac.key <;> simp [h1, h2]
theorem swo_key : SWO (ltOf fun x y : EntM => sgn x.mac.key y.mac.key) where
  irrefl x := by rw [ltOf_key]; simp
  trans x y z h1 h2 := by rw [ltOf_key] at *; simp at *; omega
  ntrans x y z h1 h2 := by rw [ltOf_key] at *; simp at *; omega
theorem mod_grow {S : List Nat} {w w' : World} (h : Mod S w w') (os : Array Obj) : Mod S w (grow w' os) :=
  ⟨h.os, h.tape, h.output, by have := h.size; simp [grow]; omega, fun k hk hn => by
    rw [← h.block k hk hn]
    have := h.size
    unfold blk grow
    simp only
    rw [Array.getElem?_append_left (by omega)]⟩
instance : Inhabited EntM := ⟨⟨⟨0, 0, 0, 0, 0, 0⟩, false, 0, 0⟩⟩
def encE (e : EntM) : List Value := e.cells.toList
theorem flatK_flatE (d : Array EntM) : (flatK encE 10 d).toList = flatE d.toList := by
  apply List.ext_getElem?
  intro t
  by_cases ht : t < d.size * 10
  · have h1 : t / 10 < d.size := by omega
    have h2 := flatE_get d.toList (t / 10) (t % 10) d[t / 10] (by simp [h1]) (Nat.mod_lt _ (by omega))
    rw [show t / 10 * 10 + t % 10 = t by omega] at h2
    rw [h2]
    have h3 := get_flatK encE 10 d t ht
    have h4 : (flatK encE 10 d)[t]? = some (flatK encE 10 d)[t]! := by
      rw [getElem!_pos _ t (by simpa using ht)]
      exact Array.getElem?_eq_getElem _
    rw [Array.getElem?_toList, h4, h3]
    have h5 : d[t / 10]! = d[t / 10] := getElem!_pos d _ h1
    rw [h5]
    have h6 : t % 10 < (encE d[t / 10]).length := by
      show t % 10 < (EntM.cells d[t / 10]).toList.length
      simp
      omega
    rw [getElem!_pos (encE d[t / 10]) _ h6, ← List.getElem?_eq_getElem h6]
    unfold encE
    rw [Array.getElem?_toList]
  · rw [List.getElem?_eq_none (by simp; omega), List.getElem?_eq_none (by rw [flatE_length]; simp; omega)]

/-- slices.SortFunc over a row of one's own: it lies sorted. -/
theorem sort_any {w : World} {B g c : Nat} {l : List EntM} (hrow : w.ownsRow B 67 10 (.slice (some ⟨g, 0, none⟩) l.length c) l.length (flatE l)) (hl : l.length ≤ 1000) (hne : l ≠ []) :
    Calls Try.prog 38 #[.slice (some ⟨g, 0, none⟩) l.length c, .func (.func 39) #[] #[]] w fun r w' => r = .returned (.tuple #[]) ∧ Mod [g] w w' ∧
      ∃ l', l'.Perm l ∧ l'.Pairwise (fun a b => a.mac.key ≤ b.mac.key) ∧ EntRow w' B (.slice (some ⟨g, 0, none⟩) l.length c) l' := by
  obtain ⟨hlen, ⟨h0, _⟩ | ⟨g', c', cur, hv, hB, hb, h1, h2, h3, h4⟩⟩ := hrow
  · cases h0
  simp only [Value.slice.injEq, Option.some.injEq, Addr.mk.injEq, true_and, and_true] at hv
  obtain ⟨rfl, rfl⟩ := hv
  have hgl : g < w.heap.size := lt_of (w := w) hb
  have hH : HoldsK encE 10 w g 0 l.toArray := by
    intro j hj
    have hj' : j < l.length * 10 := by simpa using hj
    refine ⟨?_, free_of (w := w) hb _⟩
    rw [cell_of (w := w) hb, Nat.zero_add]
    have h5 := congrArg (·[j]?) h4
    simp only [List.getElem?_take, hj', if_true, Array.getElem?_toList] at h5
    rw [h5, show flatE l = flatE l.toArray.toList from rfl, ← flatK_flatE, Array.getElem?_toList]
    have h6 : j < (flatK encE 10 l.toArray).size := by simpa using hj'
    rw [Array.getElem?_eq_getElem h6, getElem!_pos _ j h6]
    rfl
  have eg : ∀ args w, (callFunc 39 args).run Try.prog w = .ok (.enter 39 args) w := enters_of Try.func39 (by kernel_rfl) rfl
  have hcon := AnyQ.slices_SortFunc Try.laySort 10 (fun w => by kernel_rfl) (fun w => by kernel_rfl) encE (fun _ => rfl) (fun x v hv => by
      simp only [encE, EntM.cells, List.mem_cons, List.not_mem_nil, or_false] at hv
      rcases hv with rfl | rfl | rfl | rfl | rfl | rfl | rfl | rfl | rfl | rfl <;> rfl) (fun x y => sgn x.mac.key y.mac.key) swo_key 39 #[] g 0 c l.toArray w eg
    (fun _ _ _ _ x y => list1_any x y _) hH hgl (by simp; omega)
  change Calls Try.prog 38 _ _ _ at hcon
  simp only [List.size_toArray] at hcon
  refine hcon.mono ?_
  rintro r w' ⟨rfl, d', n, os, hp, hs, rfl⟩
  obtain ⟨hp1, hp2, hp3⟩ := hp
  simp only [List.size_toArray] at hp1
  have hw : sortWorldK encE 10 w g 0 n d' os = grow ((w.drewN n).setCells g 0 (flatE d'.toList)) os := by
    unfold sortWorldK putRowK
    have h7 := putRow_eq_setCells id w g 0 (flatK encE 10 l.toArray) (flatE d'.toList) n hH (by rw [flatE_length]; simp [hp1])
    rw [List.map_id, ← flatK_flatE, Array.toArray_toList] at h7
    rw [h7, flatK_flatE]
  rw [hw]
  have hM : Mod [g] w (grow ((w.drewN n).setCells g 0 (flatE d'.toList)) os) := mod_grow (mod_setCells _ _ _ (.inl (by simp)) ((Mod.refl _ _).drewN n)) os
  refine ⟨rfl, hM, d'.toList, ?_, ?_, ?_⟩
  · have e1 : d'.extract 0 l.length = d' := by rw [← hp1]; simp
    have e2 : l.toArray.extract 0 l.length = l.toArray := by simp
    rw [e1, e2] at hp3
    simpa using hp3
  · rw [List.pairwise_iff_getElem]
    intro i j hi hj hij
    have h8 := hs i j (Nat.zero_le _) hij (by simp at hj; omega)
    rw [ltOf_key] at h8
    simp only [Array.length_toList] at hi hj
    rw [getElem!_pos d' j hj, getElem!_pos d' i hi] at h8
    simp at h8
    simpa using h8
  · have hlen' : d'.toList.length = l.length := by simp [hp1]
    refine .inr ⟨g, c, by rw [hlen'], by omega, hB, Nat.lt_of_lt_of_le hgl hM.size, fun i e hi j u hu => ?_⟩
    have hb0 : blk (w.drewN n) g = some (.cells cur 67 (0, 0)) := hb
    have hb1 := blk_setCells (flatE d'.toList) 0 (w.drewN n) _ hb0
    have hb2 : blk (grow ((w.drewN n).setCells g 0 (flatE d'.toList)) os) g = some (.cells (wr cur 0 (flatE d'.toList)) 67 (0, 0)) := by
      have hlt := lt_of hb1
      rw [← hb1]
      unfold blk grow
      simp only
      rw [Array.getElem?_append_left hlt]
    rw [cell_of hb2]
    have hj : j < 10 := by
      have := (Array.getElem?_eq_some_iff.1 hu).1
      simpa using this
    have hil : i < d'.toList.length := (List.getElem?_eq_some_iff.1 hi).1
    rw [wr_at _ _ _ (by rw [flatE_length, hlen', h3]; omega), if_pos ⟨Nat.zero_le _, by rw [flatE_length]; omega⟩, Nat.sub_zero, flatE_get _ _ _ _ hi hj]
    exact hu
end Go.Proofs.Ytmhfpiincnadiaa
