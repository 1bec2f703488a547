/- fdb: List. -/
import Derived.Test.YtmhfpiincnadiaaBr13
namespace Go.Proofs.Ytmhfpiincnadiaa
open Go.RowKit Go.Shelf Go.Lib Go.Sort
open Go.ChangeMaps (setBlock)
set_option linter.unusedSimpArgs false
set_option linter.unusedVariables false

theorem cells_oneCell (e : EntM) : ∀ u ∈ e.cells.toList, u.oneCell' = true := by
  intro v hv
  simp only [EntM.cells, List.mem_cons, List.not_mem_nil, or_false] at hv
  rcases hv with rfl | rfl | rfl | rfl | rfl | rfl | rfl | rfl | rfl | rfl <;> rfl

theorem EntRow.later {w : World} {B B' : Nat} {v : Value} {L : List EntM} (h : EntRow w B v L) (hb : B' ≤ B) : EntRow w B' v L := by
  refine h.imp id ?_
  rintro ⟨g, c, h1, h2, h3, h4⟩
  exact ⟨g, c, h1, h2, by omega, h4⟩
/-- A row appended to is apart from old blocks. -/
theorem grown_keep {w w' : World} {row : Option Nat} (hg : w.grownBy w' row) {k : Nat} (hk : k < w.heap.size) (hn : some k ≠ row) : blk w' k = blk w k := hg.block k hk hn

theorem mod_grown {S : List Nat} {w w1 w2 : World} (h : Mod S w w1) {row : Option Nat} (hg : w1.grownBy w2 row) (hr : ∀ k, row = some k → w.heap.size ≤ k) : Mod S w w2 :=
  ⟨hg.os.trans h.os, hg.tape.trans h.tape, hg.output.trans h.output, Nat.le_trans h.size hg.size, fun k hk hn => by
    rw [grown_keep hg (Nat.lt_of_lt_of_le hk h.size) (fun e => by have := hr k e.symm; omega)]
    exact h.block k hk hn⟩
theorem ownsRow_block {w : World} {B : Nat} {E : TypeId} {size n : Nat} {v : Value} {xs : List Value} (h : w.ownsRow B E size v n xs) {k : Nat} (hk : v.ownBlock = some k) : B ≤ k ∧ k < w.heap.size := by
  rcases h.2 with ⟨rfl, _⟩ | ⟨g, c, cur, rfl, hB, hb, _⟩
  · cases hk
  · cases hk
    exact ⟨hB, lt_of (w := w) hb⟩

theorem sort_all {w0 w : World} {B : Nat} {v : Value} {l : List EntM} (hrow : w.ownsRow B 67 10 v l.length (flatE l)) (hl : l.length ≤ 1000) (hM : Mod [] w0 w) (hB : w0.heap.size ≤ B) :
    Calls Try.prog 38 #[v, .func (.func 39) #[] #[]] w fun r w' => r = .returned (.tuple #[]) ∧ Mod [] w0 w' ∧
      ∃ l', l'.Perm l ∧ l'.Pairwise (fun a b => a.mac.key ≤ b.mac.key) ∧ EntRow w' B v l' := by
  by_cases hne : l = []
  · subst hne
    have hv : ∃ a c, v = .slice a 0 c := by
      rcases hrow.2 with ⟨rfl, _⟩ | ⟨g, c, cur, rfl, _⟩
      · exact ⟨_, _, rfl⟩
      · exact ⟨_, _, rfl⟩
    have hrow2 := hrow.2
    obtain ⟨a, c, rfl⟩ := hv
    have H := AnyF.slices_SortFunc_none (P := Try.prog) (ρ := Try.laySort_ren) { Try.laySort with } a c (.func (.func 39) #[] #[]) w
    change Calls Try.prog 38 _ _ _ at H
    refine H.mono ?_
    rintro r w' ⟨rfl, rfl⟩
    refine ⟨rfl, hM, [], List.Perm.refl _, List.Pairwise.nil, ?_⟩
    rcases hrow2 with ⟨h1, _⟩ | ⟨g, c', cur, h1, h2, h3, h4, _⟩
    · exact .inl ⟨h1, rfl⟩
    · exact .inr ⟨g, c', h1, by simp, h2, lt_of (w := w') h3, fun i e hi => by simp at hi⟩
  · have hrow2 := hrow.2
    rcases hrow2 with ⟨h1, h0⟩ | ⟨g, c', cur, rfl, h2, h3, h4, _⟩
    · exact absurd (List.length_eq_zero_iff.1 h0) hne
    · refine (sort_any hrow hl hne).mono ?_
      rintro r w' ⟨rfl, hm, l', h5, h6, h7⟩
      exact ⟨rfl, hM.trans hm (fun k hk => by simp only [List.mem_singleton] at hk; subst hk; exact .inr (by omega)), l', h5, h6, h7⟩

set_option maxRecDepth 100000 in
set_option maxHeartbeats 2000000 in
theorem list_walk (p mb : Nat) (es : Array MapEntry) (clock : Nat) (room life : Int) (L : List (EntM × Nat)) (w : World)
   (h0 : blk w p = some (.cells #[.int .i64 room, .int .u64 life, .map (some mb)] 114 (0, 0)))
   (hmb : blk w mb = some (.map es clock)) (hm : IsMap Mac.v es clock (L.map fun x => (x.1.mac, ptr x.2))) (hnd : (L.map (·.2)).Nodup) (hlen : L.length ≤ 64)
   (hents : ∀ x ∈ L, blk w x.2 = some (.cells x.1.cells 67 (0, 0))) :
    Calls Try.prog 17 #[ptr p] w fun r w' => ∃ v l, r = .returned v ∧ l.Perm (L.map (·.1)) ∧ l.Pairwise (fun a b => a.mac.key ≤ b.mac.key) ∧ EntRow w' w.heap.size v l ∧ Mod [] w w' := by
  obtain ⟨_, _, c2⟩ := cells_3 h0
  have p0 := lt_of h0
  have hlt := lt_of hmb
  have hrange := run_range (P := Try.prog) Try.underlying112 hmb
  have hmb1 : blk (w.alloc (.mapIter (some mb) clock #[] clock)) mb = some (.map es clock) := by rw [heap_alloc_lt _ _ _ hlt]; exact hmb
  have hr1 : blk (w.alloc (.mapIter (some mb) clock #[] clock)) w.heap.size = some (.mapIter (some mb) clock #[] clock) := heap_alloc_at _ _ _ rfl
  have HE := Lib.hid hents
  have HM := Lib.hid hm
  have HND := Lib.hid hnd
  have HR1 := Lib.hid hr1
  have HMB1 := Lib.hid hmb1
  have hrl : w.heap.size < (w.alloc (.mapIter (some mb) clock #[] clock)).heap.size := by simp
  obtain ⟨i0, hi, hz0, hz1, hz2⟩ := info_parts info_ent
  clear hents hm hnd h0 hr1 hmb1
  go_enter Try.func17, Try.ntmps17
  go_wp2
  clear hrange c2
  go_loopw [3, 5] (fun v _ wr => ∃ (pre : List (EntM × Nat)) (seen : Array Nat) (c0 : Nat), blk wr w.heap.size = some (.mapIter (some mb) clock seen c0) ∧ clock ≤ c0 ∧ blk wr mb = some (.map es clock) ∧ Seen Mac.v es (L.map fun x => (x.1.mac, ptr x.2)) seen (pre.map fun x => ptr x.2) ∧
      (∀ x ∈ pre, x ∈ L) ∧ wr.ownsRow (w.heap.size + 1) 67 10 v pre.length (flatE (pre.map (·.1))) ∧ Mod [] w wr)
    (fun _ _ wr => match blk wr w.heap.size with | some (.mapIter _ _ seen _) => L.length - seen.size | _ => 0)
  case atStart => exact ⟨[], #[], clock, HR1.out, Nat.le_refl _, HMB1.out, seen_nil HM.out, fun x hx => (by cases hx), World.ownsRow_nil _ _ _ _, (Mod.refl _ _).alloc _⟩
  case round =>
    obtain ⟨pre, seen, c0, hri, hc0, hmi, hse, hin, hrow, hMr⟩ := hrel
    have hm := HM.out
    rcases run_next_at (P := Try.prog) wr 0 w.heap.size mb clock c0 seen es clock hri hmi hm.born hc0 with ⟨hz, hn⟩ | ⟨e, he, w1, hw1, hn⟩
    · have hn' : ∀ ty, (Instr.next (.pointer (some ⟨w.heap.size, 0, none⟩)) false ty).run Try.prog wr = .ok (.tuple #[.bool false]) wr := fun ty => hn
      have hfin := seen_done hse hz
      have HFIN := Lib.hid hfin
      have HIN := Lib.hid hin
      have HROW := Lib.hid hrow
      have hl1 : (pre.map (·.1)).length ≤ 1000 := by
        have h5 := hfin.length_eq
        simp at h5 ⊢
        omega
      have hrow' : wr.ownsRow (w.heap.size + 1) 67 10 u3 (pre.map (·.1)).length (flatE (pre.map (·.1))) := by simpa using hrow
      have HS := Lib.hid (sort_all hrow' hl1 hMr (Nat.le_succ _))
      clear hn hfin hin hm hse hrow hrow' hl1
      go_wp2_with (go_at_call 38; refine HS.out.mono ?_; rintro r w2 ⟨rfl, hM2, l', hp, hs, hrow2⟩)
      go_ret
      have h6 : (pre.map (·.2)).Perm (L.map (·.2)) := by
        have h7 : ((pre.map (·.2)).map ptr).Perm ((L.map (·.2)).map ptr) := by
          have h8 := HFIN.out
          rw [List.map_map] at h8 ⊢
          rw [List.map_map]
          exact h8
        exact perm_ptr h7
      exact ⟨_, l', rfl, hp.trans ((perm_of_blocks HND.out HIN.out h6).map _), hs, hrow2.later (Nat.le_succ _), hM2⟩
    · have hn' : ∀ ty, (Instr.next (.pointer (some ⟨w.heap.size, 0, none⟩)) false ty).run Try.prog wr = .ok (.tuple #[.bool true, e.key, e.val]) (setBlock w1 w.heap.size (.mapIter (some mb) clock (seen.push e.born) clock)) := fun ty => hn
      clear hn
      obtain ⟨hse2, hlen2, hes⟩ := seen_step hm hse he
      obtain ⟨x, hx, hxv⟩ : ∃ x, x ∈ L ∧ e.val = ptr x.2 := by
        have h5 : (e.key, e.val) ∈ es.toList.map (fun e => (e.key, e.val)) := List.mem_map.2 ⟨e, hes, rfl⟩
        rw [hm.kv] at h5
        simp only [List.map_map, List.mem_map] at h5
        obtain ⟨y, hy, h6⟩ := h5
        exact ⟨y, hy, (congrArg Prod.snd h6).symm⟩
      have hw1h : ∀ b, blk w1 b = blk wr b := fun b => by rcases hw1 with rfl | rfl <;> rfl
      have hw1s : w1.heap.size = wr.heap.size := by rcases hw1 with rfl | rfl <;> rfl
      have hrl2 := lt_of hri
      have hM2 : Mod [] w (setBlock w1 w.heap.size (.mapIter (some mb) clock (seen.push e.born) clock)) := by
        refine Mod.setBlock ?_ (.inr (Nat.le_refl _)) _
        rcases hw1 with rfl | rfl
        · exact hMr
        · exact hMr.drew
      have hrow2 : (setBlock w1 w.heap.size (.mapIter (some mb) clock (seen.push e.born) clock)).ownsRow (w.heap.size + 1) 67 10 u3 pre.length (flatE (pre.map (·.1))) := by
        refine ⟨hrow.1, hrow.2.imp id ?_⟩
        rintro ⟨g, c, cur, h1, h2, h3, h4⟩
        refine ⟨g, c, cur, h1, h2, ?_, h4⟩
        have h8 := heap_setBlock_ne w1 w.heap.size (.mapIter (some mb) clock (seen.push e.born) clock) g (by omega)
        rw [hw1h] at h8
        exact h8.trans h3
      have hs2 : (setBlock w1 w.heap.size (.mapIter (some mb) clock (seen.push e.born) clock)).heap.size = wr.heap.size := by rw [size_setBlock, hw1s]
      have hr2 : blk (setBlock w1 w.heap.size (.mapIter (some mb) clock (seen.push e.born) clock)) w.heap.size = some (.mapIter (some mb) clock (seen.push e.born) clock) := heap_setBlock_at _ _ _ (by omega)
      generalize setBlock w1 w.heap.size (.mapIter (some mb) clock (seen.push e.born) clock) = w2 at hn' hM2 hrow2 hr2 hs2
      have hm2 := hM2.keep hmb (by simp)
      have hent := run_entry_at (P := Try.prog) w2 w.heap.size mb clock seen es clock e hr2 hm2 hes hm.nodup
      have hxb := hM2.keep (HE.out x hx) (by simp)
      rw [hxv] at hn' hent hse2
      obtain ⟨e0, e1, e2, e3, e4, e5, e6, e7, e8, e9⟩ := cells_10 hxb
      have hlen2 : pre.length < L.length := by simpa using hlen2
      have hpl : pre.length < 64 := by omega
      have hsw : w.heap.size < w2.heap.size := lt_of hr2
      have HX := Lib.hid hx
      have HSE := Lib.hid hse2
      have HIN := Lib.hid hin
      have HR2 := Lib.hid hr2
      have HM2 := Lib.hid hm2
      have HSS := Lib.hid hse.size
      have HRI := Lib.hid hri
      have HROW := Lib.hid hrow2
      clear hx hse2 hin hr2 hm2 hse hm hrow hxb hw1h hw1s hes he hrow2 hri hmi hxv
      have hnews : blk (w2.alloc (.cells x.1.cells 67)) wr.heap.size = some (.cells x.1.cells 67 (0, 0)) := heap_alloc_at _ _ _ hs2.symm
      have HNEWS := Lib.hid hnews
      have hM3 : Mod [] w (w2.alloc (.cells x.1.cells 67)) := hM2.alloc _
      have HM3 := Lib.hid hM3
      have HM2' := Lib.hid hM2
      clear hnews hM3 hM2
      go_wp2_with (at_builtin; refine wpList_append_lies _ (by rfl) _ _ _ (by rfl) (w.heap.size + 1) 67 i0 _ 10 40 Try.underlying55 hi hz0 hz1 hz2 (by rfl) (by omega) u3 pre.length _ (by rfl) (HROW.out.alloc _) ⟨wr.heap.size, 0, none⟩ 1 1 x.1.cells.toList (by rfl) (by rfl) (World.news_of_block HNEWS.out) (cells_oneCell _) (by omega) (by unfold maxLen; omega) (by omega) (by simp; omega) (wr.heap.size + 1) (by simp; omega) ?_; intro g cap w3 hown hgrow hat hlt3; have HOWN := Lib.hid hown; have HGROW := Lib.hid hgrow; have HAT := Lib.hid hat; clear hown hgrow hat)
      go_roundw
      case rel =>
        have hfar : ∀ k, k < w2.heap.size → k ≤ w.heap.size → blk w3 k = blk w2 k := fun k h1 h2 => by
          have h3 := grown_keep HGROW.out (k := k) (by simp; omega) (fun e => by have := (ownsRow_block HROW.out e.symm).1; omega)
          rw [h3, heap_alloc_lt _ _ _ h1]
        refine ⟨pre ++ [x], seen.push e.born, clock, ?_, Nat.le_refl _, ?_, ?_, ?_, ?_, ?_⟩
        · rw [hfar _ hsw (Nat.le_refl _)]; exact HR2.out
        · rw [hfar _ (by omega) (by omega)]; exact HM2.out
        · have h5 := HSE.out
          rw [List.map_append]
          exact h5
        · intro y hy
          rcases List.mem_append.1 hy with hy | hy
          · exact HIN.out y hy
          · simp only [List.mem_singleton] at hy; subst hy; exact HX.out
        · have h5 := HOWN.out
          rw [← flatE_append] at h5
          simpa using h5
        · exact mod_grown HM3.out HGROW.out (fun k hk => by have := (ownsRow_block HROW.out hk).1; omega)
      case measure =>
        have hfar : blk w3 w.heap.size = blk w2 w.heap.size := by
          have h3 := grown_keep HGROW.out (k := w.heap.size) (by simp; omega) (fun e => by have := (ownsRow_block HROW.out e.symm).1; omega)
          rw [h3, heap_alloc_lt _ _ _ hsw]
        rw [hfar, HR2.out, HRI.out]
        have h5 := HSS.out
        have h6 := hpl
        have h7 := hlen2
        simp at h5 ⊢
        omega

theorem list_any {w : World} {p : Nat} {F : List Nat} {B : BaseM} (h : BaseAt w p F B) :
    Calls Try.prog 17 #[ptr p] w fun r w' => ∃ v, r = .returned v ∧ EntRow w' w.heap.size v (listM B) ∧ Mod [] w w' := by
  obtain ⟨mb, L, h1, h2, rfl⟩ := h
  obtain ⟨es, clock, h3, h4⟩ := h1.map
  have hnd := h1.nodup
  simp only [List.nodup_cons] at hnd
  have hl := h1.len
  have hr := h1.room2
  refine (list_walk p mb es clock B.room B.life L w h1.base h3 h4 hnd.2.2 (by omega) h1.ents).mono ?_
  rintro r w' ⟨v, l, rfl, hp, hs, hrow, hm⟩
  rw [h2] at hp
  have hu := listM_unique (B := B) (by rw [← h2, List.map_map]; exact h1.macs) hp hs
  subst hu
  exact ⟨v, rfl, hrow, hm⟩
end Go.Proofs.Ytmhfpiincnadiaa
