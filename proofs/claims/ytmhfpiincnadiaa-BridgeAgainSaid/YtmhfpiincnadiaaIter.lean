/- Collecting a map's values: maps.Values, slices.AppendSeq, slices.Collect at *fdb.Entry. -/
import Derived.Test.YtmhfpiincnadiaaFdb2
import Derived.RangeFuncNested
import Derived.RangeFuncBound
import Derived.RangeFuncCalls
import Derived.RangeFuncLeaves
import Derived.RangeFuncBox
import Derived.Shelf.Abstract
import Derived.Shelf.RegionOpen
import Derived.OwnWalkIn
import Derived.TacticsInMore
import Derived.LoopNIn
import Derived.LoopIn
import Derived.Maps.AppendAt
namespace Go.Proofs.Ytmhfpiincnadiaa
open Go.RowKit Go.Shelf
open Go.ChangeMaps (setBlock)
set_option linter.unusedSimpArgs false
set_option linter.unusedVariables false
attribute [local go_sem] Oper.semAt_some

/-! ### an iterator over a map: what is left -/
theorem grown_setBlock (W : World) (r : Nat) (o : Obj) : W.grownBy (setBlock W r o) (some r) :=
  ⟨rfl, rfl, rfl, by rw [size_setBlock]; exact Nat.le_refl _, fun k _ hk => heap_setBlock_ne W r o k (fun e => hk (by rw [e]))⟩
theorem grown_drew (W : World) : W.grownBy W.drew none := ⟨rfl, rfl, rfl, Nat.le_refl _, fun _ _ _ => rfl⟩

theorem run_range {P : Program} {T K E : TypeId} {w : World} {mb : Nat} {es : Array MapEntry} {clock : Nat} (hu : P.underlying T = some (.map K E)) (hb : blk w mb = some (.map es clock)) :
    (Instr.range T (.map (some mb))).run P w = .ok (.pointer (some ⟨w.heap.size, 0, none⟩)) (w.alloc (.mapIter (some mb) clock #[] clock)) := by
  simp only [Instr.range, Sem.run_bind, run_underlying hu, Result.andThen, run_get hb, Sem.run_pure]
  rfl

/-- Of a map's entries those that were seen, in the order in which they were; the rest. -/
structure Seen {κ : Type} (ks : κ → Value) (es : Array MapEntry) (l : List (κ × Value)) (seen : Array Nat) (pre : List Value) : Prop where
  perm : ∃ rest, (pre ++ rest).Perm (l.map (·.2)) ∧ rest = ((es.toList.filter fun e => !seen.contains e.born).map (·.val))
  size : seen.size = pre.length
theorem seen_nil {κ : Type} {ks : κ → Value} {es : Array MapEntry} {clock : Nat} {l : List (κ × Value)} (hm : IsMap ks es clock l) : Seen ks es l #[] [] := by
  refine ⟨⟨_, ?_, rfl⟩, rfl⟩
  have h := congrArg (List.map (·.2)) hm.kv
  simp only [List.map_map] at h
  have h2 : es.toList.map (·.val) = l.map (·.2) := by
    rw [show ((fun x => x.2) ∘ fun e : MapEntry => (e.key, e.val)) = (·.val) from rfl, show ((fun x : Value × Value => x.2) ∘ fun x : κ × Value => (ks x.1, x.2)) = (·.2) from rfl] at h
    exact h
  have h3 : es.toList.filter (fun e => !(#[] : Array Nat).contains e.born) = es.toList := List.filter_eq_self.2 (by simp)
  rw [h3, h2]
  exact List.Perm.refl _
theorem filter_remove (e : MapEntry) (seen : Array Nat) : ∀ (es : List MapEntry), (es.map (·.born)).Nodup → e ∈ es → seen.contains e.born = false →
    ((es.filter fun x => !seen.contains x.born).map (·.val)).Perm (e.val :: ((es.filter fun x => !(seen.push e.born).contains x.born).map (·.val)))
  | [], _, h, _ => by simp at h
  | x :: es, hn, h, hs => by
    simp only [List.map_cons, List.nodup_cons] at hn
    have hc : ∀ b : Nat, (seen.push e.born).contains b = (seen.contains b || b == e.born) := fun b => by
      rw [Bool.eq_iff_iff]; simp
    rcases List.mem_cons.1 h with rfl | h'
    · have hs' : (!seen.contains e.born) = true := by rw [hs]; rfl
      have hs2 : (!(seen.push e.born).contains e.born) = false := by rw [hc]; simp
      simp only [List.filter_cons, hs', hs2, if_true, Bool.false_eq_true, if_false, List.map_cons]
      refine List.Perm.cons _ ?_
      refine List.Perm.of_eq (congrArg _ (List.filter_congr fun y hy => ?_))
      have : y.born ≠ e.born := fun heq => hn.1 (heq ▸ List.mem_map.2 ⟨y, hy, rfl⟩)
      rw [hc]
      simp [this]
    · have hne : x.born ≠ e.born := fun heq => hn.1 (heq ▸ List.mem_map.2 ⟨e, h', rfl⟩)
      have ih := filter_remove e seen es hn.2 h' hs
      simp only [List.filter_cons]
      rw [hc]
      by_cases hx : seen.contains x.born = true
      · simp only [hx, Bool.true_or, Bool.not_true, Bool.false_eq_true, if_false]
        exact ih
      · have hx' : seen.contains x.born = false := by simpa using hx
        have hb : (x.born == e.born) = false := by simpa using hne
        simp only [hx', hb, Bool.or_self, Bool.not_false, if_true, List.map_cons]
        exact (List.Perm.cons _ ih).trans (List.Perm.swap _ _ _)
theorem seen_step {κ : Type} {ks : κ → Value} {es : Array MapEntry} {clock : Nat} {l : List (κ × Value)} {seen : Array Nat} {pre : List Value} {e : MapEntry} (hm : IsMap ks es clock l)
    (h : Seen ks es l seen pre) (he : e ∈ (leftOf es seen).toList) : Seen ks es l (seen.push e.born) (pre ++ [e.val]) ∧ pre.length < l.length ∧ e ∈ es.toList := by
  obtain ⟨⟨rest, hp, hr⟩, hs⟩ := h
  simp only [leftOf, Array.toList_filter, List.mem_filter] at he
  have h1 := filter_remove e seen es.toList hm.nodup he.1 (by simpa using he.2)
  rw [← hr] at h1
  refine ⟨⟨⟨_, ?_, rfl⟩, by simp [hs]⟩, ?_, he.1⟩
  · rw [List.append_assoc]
    exact (List.Perm.append_left pre h1.symm).trans hp
  · have h2 := hp.length_eq
    have h3 := h1.length_eq
    simp at h2 h3
    omega
theorem seen_done {κ : Type} {ks : κ → Value} {es : Array MapEntry} {l : List (κ × Value)} {seen : Array Nat} {pre : List Value}
    (h : Seen ks es l seen pre) (he : (leftOf es seen).size = 0) : pre.Perm (l.map (·.2)) := by
  obtain ⟨⟨rest, hp, hr⟩, hs⟩ := h
  have : es.toList.filter (fun e => !seen.contains e.born) = [] := by
    have : (leftOf es seen).toList = [] := by
      apply List.eq_nil_of_length_eq_zero
      simpa using he
    simpa [leftOf, Array.toList_filter] using this
  rw [this] at hr
  subst hr
  simpa using hp

theorem perm_ptr {a b : List Nat} (h : (a.map ptr).Perm (b.map ptr)) : a.Perm b := by
  have hf : ∀ l : List Nat, (l.map ptr).map (fun v => match v with | .pointer (some p) => p.block | _ => 0) = l := fun l => by
    rw [List.map_map]
    exact (List.map_congr_left (fun x _ => rfl)).trans (List.map_id l)
  have h2 := h.map (fun v => match v with | .pointer (some p) => p.block | _ => 0)
  rwa [hf, hf] at h2

set_option maxRecDepth 100000 in
set_option maxHeartbeats 1000000 in
/-- maps.Values' iterator: what comes is the map's elements, in some order. -/
theorem values1_in (l Bm mb : Nat) (es : Array MapEntry) (clock : Nat) (L : List (EntM × Nat)) (J Jx : List Nat → World → Prop)
    (hY : ∀ pre x W, J pre W → pre.length < L.length → YieldAt Fence.wide 1 Try.prog l #[ptr x] W fun e W' => (e = .returned (.bool true) ∧ J (pre ++ [x]) W' ∧ KeepsWalks W W') ∨ (e = .returned (.bool false) ∧ Jx (pre ++ [x]) W'))
    (W : World) (hJ : AbidesFrom W.heap.size J) (hBm : W.cell? ⟨Bm, 0, none⟩ = some (.map (some mb))) (hmb : blk W mb = some (.map es clock))
    (hm : IsMap Mac.v es clock (L.map fun x => (x.1.mac, ptr x.2))) (h0 : J [] W) :
    CallsIn Fence.wide 2 Try.prog 145 #[.func (.yield l) #[] #[], ptr Bm] W fun e W' => (∃ v, e = .returned v) ∧
      ((∃ xs, xs.Perm (L.map (·.2)) ∧ J xs W') ∨ (∃ pre : List Nat, True ∧ Jx pre W')) := by
  have hlt := lt_of hmb
  have hrange := run_range (P := Try.prog) Try.underlying112 hmb
  refine callsIn_of_wp Try.func145 rfl trivial ?_ rfl
  simp only [Try.ntmps145, List.size_toArray, List.length_cons, List.length_nil, Nat.reduceAdd, Nat.reduceSub, Array.replicate_succ, Array.replicate_zero, List.push_toArray, List.append_toArray, List.nil_append, List.cons_append]
  have hmb1 : blk (W.alloc (.mapIter (some mb) clock #[] clock)) mb = some (.map es clock) := by rw [heap_alloc_lt _ _ _ hlt]; exact hmb
  have hr1 : blk (W.alloc (.mapIter (some mb) clock #[] clock)) W.heap.size = some (.mapIter (some mb) clock #[] clock) := heap_alloc_at _ _ _ rfl
  have h01 : J [] (W.alloc (.mapIter (some mb) clock #[] clock)) := hJ _ _ _ none h0 (World.grownBy_alloc W _ none) (fun r e => by cases e)
  obtain ⟨r, hr⟩ : ∃ r, r = W.heap.size := ⟨_, rfl⟩
  have hrB : W.heap.size ≤ r := by omega
  rw [← hr] at hrange hr1
  clear hr
  gi_wp2
  clear hrange
  gi_loopw [4] (fun _ wr => ∃ (pre : List Nat) (seen : Array Nat) (c0 : Nat), blk wr r = some (.mapIter (some mb) clock seen c0) ∧ clock ≤ c0 ∧ blk wr mb = some (.map es clock) ∧ Seen Mac.v es (L.map fun x => (x.1.mac, ptr x.2)) seen (pre.map ptr) ∧ J pre wr)
    (fun _ wr => match blk wr r with | some (.mapIter _ _ seen _) => L.length - seen.size | _ => 0)
  case atStart => exact ⟨[], #[], clock, hr1, Nat.le_refl _, hmb1, seen_nil hm, h01⟩
  case round =>
    obtain ⟨pre, seen, c0, hri, hc0, hmi, hse, hJi⟩ := hrel
    rcases run_next_at (P := Try.prog) wr 0 r mb clock c0 seen es clock hri hmi hm.born hc0 with ⟨hz, hn⟩ | ⟨e, he, w1, hw1, hn⟩
    · have hn' : ∀ ty, (Instr.next (.pointer (some ⟨r, 0, none⟩)) false ty).run Try.prog wr = .ok (.tuple #[.bool false]) wr := fun ty => hn
      clear hn
      have hfin := seen_done hse hz
      gi_wp2
      go_end0
      refine ⟨⟨_, rfl⟩, .inl ⟨pre, ?_, hJi⟩⟩
      have h6 : (pre.map ptr).Perm ((L.map (·.2)).map ptr) := by rw [List.map_map] at hfin ⊢; exact hfin
      exact perm_ptr h6
    · have hn' : ∀ ty, (Instr.next (.pointer (some ⟨r, 0, none⟩)) false ty).run Try.prog wr = .ok (.tuple #[.bool true, e.key, e.val]) (setBlock w1 r (.mapIter (some mb) clock (seen.push e.born) clock)) := fun ty => hn
      clear hn
      obtain ⟨hse2, hlen, hes⟩ := seen_step hm hse he
      obtain ⟨x, hx⟩ : ∃ x, e.val = ptr x := by
        have h5 : (e.key, e.val) ∈ es.toList.map (fun e => (e.key, e.val)) := List.mem_map.2 ⟨e, hes, rfl⟩
        rw [hm.kv] at h5
        simp only [List.map_map, List.mem_map] at h5
        obtain ⟨y, hy, h6⟩ := h5
        exact ⟨y.2, (congrArg Prod.snd h6).symm⟩
      have hw1h : ∀ b, blk w1 b = blk wr b := fun b => by rcases hw1 with rfl | rfl <;> rfl
      have hw1s : w1.heap.size = wr.heap.size := by rcases hw1 with rfl | rfl <;> rfl
      have hrl := lt_of hri
      obtain ⟨w2, hw2⟩ : ∃ w2, setBlock w1 r (.mapIter (some mb) clock (seen.push e.born) clock) = w2 := ⟨_, rfl⟩
      have hr2 : blk w2 r = some (.mapIter (some mb) clock (seen.push e.born) clock) := by rw [← hw2]; exact heap_setBlock_at _ _ _ (by omega)
      have hne : mb ≠ r := fun h => by rw [← h, hmi] at hri; cases hri
      have hm2 : blk w2 mb = some (.map es clock) := by rw [← hw2, heap_setBlock_ne _ _ _ _ hne, hw1h]; exact hmi
      have hJ2 : J pre w2 := by
        rw [← hw2]
        refine hJ _ _ _ (some r) ?_ (grown_setBlock w1 r _) (fun k hk => by cases hk; exact ⟨hrB, _, (by have := hw1h r; unfold blk at this hri; rw [this]; exact hri), rfl⟩)
        rcases hw1 with rfl | rfl
        · exact hJi
        · exact hJ _ _ _ none hJi (grown_drew _) (fun k hk => by cases hk)
      rw [hw2] at hn'
      clear hw2 hw1 hw1h hw1s
      have hent := run_entry_at (P := Try.prog) w2 r mb clock seen es clock e hr2 hm2 hes hm.nodup
      rw [hx] at hn' hent
      have hlen' : pre.length < L.length := by simpa using hlen
      obtain ⟨fn, tmps, assign, body, hy, hR⟩ := hY pre x w2 hJ2 hlen'
      gi_wp2
      refine hR.mono ?_
      rintro e' W3 (⟨rfl, hJ3, hk3⟩ | ⟨rfl, hJx3⟩)
      · gi_wp2
        go_roundw
        case rel => 
          rw [hx] at hse2
          exact ⟨pre ++ [x], seen.push e.born, clock, hk3.same r _ hr2 rfl, Nat.le_refl _, hk3.same mb _ hm2 rfl, by simpa using hse2, hJ3⟩
        case measure => 
          have h7 : blk W3 r = _ := hk3.same r _ hr2 rfl
          have h8 := hse.size
          simp only [List.length_map] at h8
          rw [h7, hri]
          simp
          omega
      · gi_wp2
        refine bodyPost_ret (results_none rfl _ _ _) rfl ?_
        exact ⟨⟨_, rfl⟩, .inr ⟨_, trivial, hJx3⟩⟩

theorem values_stops (Bm mb : Nat) (es : Array MapEntry) (clock : Nat) (L : List (EntM × Nat)) (w : World) (hBm : w.cell? ⟨Bm, 0, none⟩ = some (.map (some mb))) (hB : Bm < w.heap.size) (hmb : blk w mb = some (.map es clock))
    (hm : IsMap Mac.v es clock (L.map fun x => (x.1.mac, ptr x.2))) :
    SeqStops Fence.wide 2 Try.prog 145 #[ptr Bm] ptr (fun xs => xs.Perm (L.map (·.2))) (fun _ => True) L.length w := fun l J Jx W hW hJ hJx hY h0 =>
  values1_in l Bm mb es clock L J Jx hY W hJ ((hW.cell (p := ⟨Bm, 0, none⟩) hB).trans hBm) ((hW.block mb (lt_of hmb)).trans hmb) hm h0

/-! ### slices.AppendSeq, slices.Collect -/
theorem infoE : (Try.prog.info? 115).map (fun i => (i.zero, i.size, i.bytes)) = some (some (.pointer none), 1, 8) := by kernel_rfl

set_option maxRecDepth 100000 in
set_option maxHeartbeats 2000000 in
theorem appendSeq_in (g : Nat) (lb : Array Value) (eg : ∀ args w, (callFunc g args).run Try.prog w = .ok (.enter g args) w) (S : List Nat → Prop) (N : Nat) (hN : N ≤ 1000000) (w : World)
    (hseq : SeqStops Fence.wide 2 Try.prog g lb ptr S (fun _ => True) N w) (hS : ∀ xs, S xs → xs.length ≤ N) :
    CallsIn Fence.wide 3 Try.prog 144 #[.slice none 0 0, .func (.func g) #[] lb] w fun e W' => ∃ v xs, e = .returned v ∧ S xs ∧ W'.ownsRow w.heap.size 115 1 v xs.length (xs.map ptr) ∧ Below w.heap.size w W' := by
  have h1 : 1 ≤ 3 := by omega
  obtain ⟨i0, hi, hz0, hz1, hz2⟩ := info_parts infoE
  refine callsIn_of_wp_marks Try.func144 rfl trivial ?_ rfl
  simp only [Try.ntmps144, List.size_toArray, List.length_cons, List.length_nil, Nat.reduceAdd, Nat.reduceSub, Array.replicate_succ, Array.replicate_zero, List.push_toArray, List.append_toArray, List.nil_append, List.cons_append]
  gi_wp2
  have bO := Boxed.new w 234 (.slice none 0 0)
  have hB0 : Below w.heap.size w (w.alloc (.cells #[.slice none 0 0] 234)) := (Below.refl _ w).alloc (Nat.le_refl _) _
  refine wpIn_rangeFunc_ownG rfl h1 (gf := g) (lb := lb) rfl trivial eg
    (hseq.later hB0) walksK_t walksK_b (Below.refl _ _) (fun _ => rfl)
    (fun pre W => (∃ v, Boxed W w.heap.size 234 v ∧ W.ownsRow w.heap.size 115 1 v pre.length (pre.map ptr) ∧ True) ∧ Below w.heap.size w W)
    (fun _ _ _ => False)
    (OwnFrom.and (Own.from (holdsRow_own w.heap.size w.heap.size 234 115 1 (fun pre : List Nat => pre.length) (fun pre => pre.map ptr) (fun pre v => True)) _) (ownFrom_below (Nat.le_refl _) (by simp)))
    (fun _ _ _ _ _ hs _ _ => hs)
    ⟨⟨_, bO, World.ownsRow_nil _ _ _ _, trivial⟩, hB0⟩
    (fun x => { tmps := #[.slice none 0 0, .func (.func g) #[] lb, .pointer (some ⟨w.heap.size, 0, none⟩), undef, .slice none 0 0, ptr x, .func (.func g) #[] lb, ptr x, undef, undef, undef, undef, undef], defers := [] }) ?assign ?body ?done ?stop
  case assign =>
    intro l x W K hK
    gi_wp2
    exact hK
  case body =>
    rintro l pre x W ⟨⟨v, hv, hrow, hnil⟩, hB⟩ hlt
    have hc := hv.cell
    gi_wp2_with (gi_at_builtin; refine wpListIn_append_own _ rfl _ _ 234 rfl w.heap.size 115 i0 (.pointer none) 1 8 Try.underlying234 hi hz0 hz1 hz2 rfl (by decide) _ _ _ rfl (hrow.alloc _) ⟨W.heap.size, 0, none⟩ 1 1 [ptr x] rfl rfl (cell_one_new _ _ _) (by simp [Value.oneCell']) (by unfold maxLen; omega) (by omega) (by have := hB.size; simp; omega) ?_; intro v' w1 hown' hgrow _; obtain ⟨g', cap', rfl⟩ := ownsRow_succ hown'; obtain ⟨hv1, hv2, hr2, hk2, hb2⟩ := hv.appended (by decide) hrow hB.size (Nat.le_refl _) hown' hgrow; have hc1 := hv1.cell; have hf1 := hv1.frozen)
    exact ⟨hk2.from _, hk2.walks, ⟨_, hv2, by simpa using hr2, trivial⟩, hB.trans hb2⟩
  case done =>
    rintro D ys W hD hSy ⟨⟨v, hv, hrow, hnil⟩, hB⟩ hK
    have hc := hv.cell
    gi_wp2
    refine ⟨by simp, .inl ⟨_, _, rfl, run_takeDeferred hK, ?_⟩⟩
    exact ⟨_, results_tmp rfl _ _ _, v, ys, rfl, hSy, ownsRow_putObj hrow _ hK rfl, hB.trans (belowK_b (w := w) (Nat.le_refl _) W D _ _ (by simp at hD; omega) hK rfl rfl)⟩
  case stop =>
    rintro D c pre W _ _ h _
    exact h.elim

set_option maxHeartbeats 1000000 in
theorem collect_any (g : Nat) (lb : Array Value) (eg : ∀ args w, (callFunc g args).run Try.prog w = .ok (.enter g args) w) (S : List Nat → Prop) (N : Nat) (hN : N ≤ 1000000) (w : World)
    (hseq : SeqStops Fence.wide 2 Try.prog g lb ptr S (fun _ => True) N w) (hS : ∀ xs, S xs → xs.length ≤ N) :
    Calls Try.prog 126 #[.func (.func g) #[] lb] w fun e W' => ∃ v xs, e = .returned v ∧ S xs ∧ W'.ownsRow w.heap.size 115 1 v xs.length (xs.map ptr) ∧ Below w.heap.size w W' := by
  have hc := Lib.hid (callsIn_wide.1 (appendSeq_in g lb eg S N hN w hseq hS))
  clear hseq hS eg
  go_enter Try.func126, Try.ntmps126
  go_wp2_with (go_at_call 144; refine hc.out.mono ?_; rintro e W' ⟨v, xs, rfl, hS, hrow, hB⟩)
  go_ret
  exact ⟨_, xs, rfl, hS, hrow, hB⟩

set_option maxHeartbeats 1000000 in
theorem values_any (mb : Nat) (w : World) :
    Calls Try.prog 127 #[.map (some mb)] w fun e W' => e = .returned (.func (.func 145) #[] #[ptr w.heap.size]) ∧ W' = w.alloc (.cells #[.map (some mb)] 112) := by
  go_enter Try.func127, Try.ntmps127
  go_wp2
  go_ret
  exact ⟨rfl, rfl⟩
end Go.Proofs.Ytmhfpiincnadiaa
