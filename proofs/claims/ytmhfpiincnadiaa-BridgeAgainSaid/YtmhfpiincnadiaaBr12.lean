/- The statements' does: one step, on the model. -/
import Derived.Test.YtmhfpiincnadiaaBr11
namespace Go.Proofs.Ytmhfpiincnadiaa
open Go.RowKit
open Go.ChangeMaps (setBlock)
set_option linter.unusedSimpArgs false
set_option linter.unusedVariables false

theorem Bytes.form {w : World} {v : Value} {d : List UInt8} (h : Bytes w v d) : ∃ a n c, v = .slice a n c := by
  rcases h with ⟨_, a, c, rfl⟩ | ⟨bb, off, c, rfl, _⟩
  · exact ⟨_, _, _, rfl⟩
  · exact ⟨_, _, _, rfl⟩
theorem Turns.wrap {p : Nat} {G : List Nat} {M' : BridgeM} {w w1 w2 w3 : World} (hG : ∀ b, b ∈ G → b < w.heap.size) (hm1 : Mod [] w w1) (ht : Turns p G M' w1 w2) {T : List Nat} (hm3 : Mod T w2 w3) (hT : ∀ k, k ∈ T → w.heap.size ≤ k ∧ k < w1.heap.size) : Turns p G M' w w3 := by
  obtain ⟨G', hB, hm, hg⟩ := ht
  have hs := hm1.size
  refine ⟨G', hB.mod hm3 (fun b hb hT' => ?_), (hm1.nil.trans hm (fun k hk => .inl hk)).trans hm3 (fun k hk => .inr (hT k hk).1), fun b hb => ?_⟩
  · have h1 := hT b hT'
    rcases hg b hb with h2 | h2
    · have := hG b h2; omega
    · omega
  · rcases hg b hb with h2 | h2
    · exact .inl h2
    · exact .inr (by omega)

/-- Behind a step that sends nothing: nothing goes out. -/
theorem nothing_res {p : Nat} {G : List Nat} {M' : BridgeM} {w w1 w2 w3 : World} (hG : ∀ b, b ∈ G → b < w.heap.size) (hm1 : Mod [] w w1) (ht : Turns p G M' w1 w2) {ob : Nat} (hm3 : Mod [ob] w2 w3) (h1 : w.heap.size ≤ ob) (h2 : ob < w1.heap.size) :
    OutRes zeroOut (-1) w (.returned (.tuple #[.agg #[.slice none 0 0, .slice none 0 0, .bool false], i64 (-1)])) w3 ∧ Turns p G M' w w3 :=
  ⟨⟨_, _, rfl, Ints.nil _ _, Ints.nil _ _⟩, ht.wrap hG hm1 hm3 (fun k hk => by simp only [List.mem_singleton] at hk; subst hk; exact ⟨h1, h2⟩)⟩

theorem out_keep {w2 w3 : World} {ob : Nat} (hm3 : Mod [ob] w2 w3) {B : Nat} (h2 : ob < B) {v : Value} {L : List Int} (hi : Ints w2 B v L) : Ints w3 B v L :=
  hi.keep fun b hb => hm3.block b (hi.lt b hb).2 (by have := (hi.lt b hb).1; simp; omega)

theorem some_res {p : Nat} {G : List Nat} {M' : BridgeM} {O : OutM} {e : Int} {pv qv : Value} {w w1 w2 w3 : World} (hG : ∀ b, b ∈ G → b < w.heap.size) (hm1 : Mod [] w w1) (ht : Turns p G M' w1 w2) {ob : Nat} (hm3 : Mod [ob] w2 w3) (h1 : w.heap.size ≤ ob) (h2 : ob < w1.heap.size)
    (hp : Ints w2 w1.heap.size pv O.ports) (hq : Ints w2 w1.heap.size qv O.tunnels) : OutRes O e w (.returned (.tuple #[.agg #[pv, qv, .bool O.flood], i64 e])) w3 ∧ Turns p G M' w w3 :=
  ⟨⟨_, _, rfl, (out_keep hm3 h2 hp).later hm1.size, (out_keep hm3 h2 hq).later hm1.size⟩, ht.wrap hG hm1 hm3 (fun k hk => by simp only [List.mem_singleton] at hk; subst hk; exact ⟨h1, h2⟩)⟩
theorem cells_5 {w : World} {b : Nat} {T : TypeId} {fr : Nat × Nat} {v0 v1 v2 v3 v4 : Value} (h : blk w b = some (.cells #[v0, v1, v2, v3, v4] T fr)) :
    w.cell? ⟨b, 0, none⟩ = some v0 ∧ w.cell? ⟨b, 1, none⟩ = some v1 ∧ w.cell? ⟨b, 2, none⟩ = some v2 ∧ w.cell? ⟨b, 3, none⟩ = some v3 ∧ w.cell? ⟨b, 4, none⟩ = some v4 :=
  ⟨cell_of h 0, cell_of h 1, cell_of h 2, cell_of h 3, cell_of h 4⟩

section
variable {w : World} {p : Nat} {G : List Nat} {M : BridgeM} (h : BridgeAt w p G M)
include h

set_option maxRecDepth 100000 in
set_option maxHeartbeats 2000000 in
theorem does_quiet (kind n s by_ now : Int) (a : Option Addr) (n0 c0 : Nat) (M' : BridgeM) (f : Nat) (args : Array Value)
    (hk : (kind = 0 ∧ f = 20 ∧ args = #[ptr p, i64 n, i64 s]) ∨ (kind = 1 ∧ f = 21 ∧ args = #[ptr p, i64 n]) ∨ (kind = 2 ∧ f = 32 ∧ args = #[ptr p, i64 s, i64 n]) ∨ (kind = 3 ∧ f = 36 ∧ args = #[ptr p, i64 s, i64 n]))
    (hc : ∀ W, Mod [] w W → Calls Try.prog f args W fun r w' => (∃ e, r = .returned (i64 e)) ∧ Turns p G M' W w') :
    Calls Try.prog 15 #[ptr p, .agg #[i64 kind, i64 n, i64 s, .slice a n0 c0, .int .u8 by_], .int .u64 now] w fun r w' => OutRes zeroOut (-1) w r w' ∧ Turns p G M' w w' := by
  have hG := h.lt
  have HG := Lib.hid hG
  have HC := Lib.hid hc
  have hM0 : Mod [] w ((w.alloc (.cells #[i64 kind, i64 n, i64 s, .slice a n0 c0, .int .u8 by_] 49)).alloc (.cells #[.slice none 0 0, .slice none 0 0, .bool false] 52)) := by (repeat (first | exact Mod.refl _ _ | refine Mod.alloc ?_ _ | refine Mod.drewN ?_ _ | refine Mod.drew ?_ | refine Mod.setCell ?_ (by first | (simp; done) | (simp; omega)) _ | refine Mod.setBlock ?_ (by first | (simp; done) | (simp; omega)) _ | assumption))
  have HO : blk ((w.alloc (.cells #[i64 kind, i64 n, i64 s, .slice a n0 c0, .int .u8 by_] 49)).alloc (.cells #[.slice none 0 0, .slice none 0 0, .bool false] 52)) (w.heap.size + 1) = some (.cells #[.slice none 0 0, .slice none 0 0, .bool false] 52 (0, 0)) := heap_alloc_at _ _ _ (by simp)
  have hsw : ((w.alloc (.cells #[i64 kind, i64 n, i64 s, .slice a n0 c0, .int .u8 by_] 49)).alloc (.cells #[.slice none 0 0, .slice none 0 0, .bool false] 52)).heap.size = w.heap.size + 2 := by simp
  have HSW := Lib.hid hsw
  have HM0 := Lib.hid hM0
  have HOH := Lib.hid HO
  have hfl : w.heap.size + 1 ∉ G := fun e => by have := hG _ e; omega
  have HFL := Lib.hid hfl
  clear h hG hc hM0 hsw HO hfl
  rcases hk with ⟨rfl, rfl, rfl⟩ | ⟨rfl, rfl, rfl⟩ | ⟨rfl, rfl, rfl⟩ | ⟨rfl, rfl, rfl⟩
  all_goals
    go_enter Try.func15, Try.ntmps15
    go_wp2_with (first
      | (go_at_call 20; refine (HC.out _ HM0.out).mono ?_; rintro r w2 ⟨⟨e, rfl⟩, ht⟩; have HT := Lib.hid ht; have hm2 := ht.choose_spec.2.1; have ho2 := hm2.keep HOH.out HFL.out; obtain ⟨o0, o1, o2⟩ := cells_3 ho2; have g0 := free_of ho2 0; have g1 := free_of ho2 1; have g2 := free_of ho2 2; have ol := lt_of ho2; clear ho2 hm2 ht)
      | (go_at_call 21; refine (HC.out _ HM0.out).mono ?_; rintro r w2 ⟨⟨e, rfl⟩, ht⟩; have HT := Lib.hid ht; have hm2 := ht.choose_spec.2.1; have ho2 := hm2.keep HOH.out HFL.out; obtain ⟨o0, o1, o2⟩ := cells_3 ho2; have g0 := free_of ho2 0; have g1 := free_of ho2 1; have g2 := free_of ho2 2; have ol := lt_of ho2; clear ho2 hm2 ht)
      | (go_at_call 32; refine (HC.out _ HM0.out).mono ?_; rintro r w2 ⟨⟨e, rfl⟩, ht⟩; have HT := Lib.hid ht; have hm2 := ht.choose_spec.2.1; have ho2 := hm2.keep HOH.out HFL.out; obtain ⟨o0, o1, o2⟩ := cells_3 ho2; have g0 := free_of ho2 0; have g1 := free_of ho2 1; have g2 := free_of ho2 2; have ol := lt_of ho2; clear ho2 hm2 ht)
      | (go_at_call 36; refine (HC.out _ HM0.out).mono ?_; rintro r w2 ⟨⟨e, rfl⟩, ht⟩; have HT := Lib.hid ht; have hm2 := ht.choose_spec.2.1; have ho2 := hm2.keep HOH.out HFL.out; obtain ⟨o0, o1, o2⟩ := cells_3 ho2; have g0 := free_of ho2 0; have g1 := free_of ho2 1; have g2 := free_of ho2 2; have ol := lt_of ho2; clear ho2 hm2 ht))
    refine bodyPost_ret (v := .tuple #[.agg #[.slice none 0 0, .slice none 0 0, .bool false], i64 (-1)]) (by simp [results, Try.results15, go_sem, o0, o1, o2, ol, size_setCell, cell_set_self]) rfl ?_
    exact nothing_res HG.out HM0.out HT.out ((((Mod.refl [w.heap.size + 1] w2).setCell (.inl (by simp)) _).setCell (.inl (by simp)) _).setCell (.inl (by simp)) _) (Nat.le_succ _) (by rw [HSW.out]; omega)

set_option maxRecDepth 100000 in
set_option maxHeartbeats 4000000 in
theorem does_port (kind n s by_ now : Int) (a : Option Addr) (n0 c0 : Nat) (M' : BridgeM) (O : OutM) (e sN : Int) (bd : Bool) (hk : kind = 4 ∨ kind = 5 ∨ kind = 6 ∨ kind = 7)
    (hs : ∀ W, Mod [] w W → Calls Try.prog 19 #[ptr p, i64 n] W fun r w' => r = .returned (.tuple #[i64 sN, .bool bd]) ∧ W = w')
    (hc : ∀ W, Mod [] w W → Calls Try.prog 18 #[ptr p, i64 n, .slice a n0 c0, .int .u64 now] W fun r w' => OutRes O e W r w' ∧ Turns p G M' W w') :
    Calls Try.prog 15 #[ptr p, .agg #[i64 kind, i64 n, i64 s, .slice a n0 c0, .int .u8 by_], .int .u64 now] w fun r w' => OutRes (if e = 0 then O else zeroOut) (if e = 0 then sN else -1) w r w' ∧ Turns p G M' w w' := by
  have hG := h.lt
  have HG := Lib.hid hG
  have HC := Lib.hid hc
  have HS := Lib.hid hs
  clear hs
  have hM0 : Mod [] w ((w.alloc (.cells #[i64 kind, i64 n, i64 s, .slice a n0 c0, .int .u8 by_] 49)).alloc (.cells #[.slice none 0 0, .slice none 0 0, .bool false] 52)) := by (repeat (first | exact Mod.refl _ _ | refine Mod.alloc ?_ _ | refine Mod.drewN ?_ _ | refine Mod.drew ?_ | refine Mod.setCell ?_ (by first | (simp; done) | (simp; omega)) _ | refine Mod.setBlock ?_ (by first | (simp; done) | (simp; omega)) _ | assumption))
  have HO : blk ((w.alloc (.cells #[i64 kind, i64 n, i64 s, .slice a n0 c0, .int .u8 by_] 49)).alloc (.cells #[.slice none 0 0, .slice none 0 0, .bool false] 52)) (w.heap.size + 1) = some (.cells #[.slice none 0 0, .slice none 0 0, .bool false] 52 (0, 0)) := heap_alloc_at _ _ _ (by simp)
  have HB : blk ((w.alloc (.cells #[i64 kind, i64 n, i64 s, .slice a n0 c0, .int .u8 by_] 49)).alloc (.cells #[.slice none 0 0, .slice none 0 0, .bool false] 52)) w.heap.size = some (.cells #[i64 kind, i64 n, i64 s, .slice a n0 c0, .int .u8 by_] 49 (0, 0)) := (heap_alloc_lt _ _ _ (by simp)).trans (heap_alloc_at _ _ _ rfl)
  have hsw : ((w.alloc (.cells #[i64 kind, i64 n, i64 s, .slice a n0 c0, .int .u8 by_] 49)).alloc (.cells #[.slice none 0 0, .slice none 0 0, .bool false] 52)).heap.size = w.heap.size + 2 := by simp
  have HSW := Lib.hid hsw
  have HM0 := Lib.hid hM0
  have HOH := Lib.hid HO
  have HBX := Lib.hid HB
  have hfl : w.heap.size + 1 ∉ G := fun e => by have := hG _ e; omega
  have HFL := Lib.hid hfl
  have hfb : w.heap.size ∉ G := fun e => by have := hG _ e; omega
  have HFB := Lib.hid hfb
  clear h hG hc hM0 hsw HO hfl hfb HB
  by_cases he : e = 0
  · rw [if_pos he, if_pos he]
    subst he
    rcases hk with rfl | rfl | rfl | rfl
    all_goals
      go_enter Try.func15, Try.ntmps15
      go_wp2_with (first
        | (go_at_call 19; refine (HS.out _ HM0.out).mono ?_; rintro r w' ⟨rfl, rfl⟩)
        | (go_at_call 18; refine (HC.out _ HM0.out).mono ?_; rintro r w2 ⟨⟨pv, qv, rfl, hpv, hqv⟩, ht⟩; obtain ⟨a1, n1, c1, rfl⟩ := hpv.form; obtain ⟨a2, n2, c2, rfl⟩ := hqv.form; have HP := Lib.hid hpv; have HQ := Lib.hid hqv; have HT := Lib.hid ht; have hm2 := ht.choose_spec.2.1; have ho2 := hm2.keep HOH.out HFL.out; obtain ⟨o0, o1, o2⟩ := cells_3 ho2; have g0 := free_of ho2 0; have g1 := free_of ho2 1; have g2 := free_of ho2 2; have ol := lt_of ho2; have hb2 := hm2.keep HBX.out HFB.out; obtain ⟨b0, b1, b2, b3, b4⟩ := cells_5 hb2; have bl := lt_of hb2; clear ho2 hm2 ht hpv hqv hb2))
      refine bodyPost_ret (v := .tuple #[.agg #[.slice a1 n1 c1, .slice a2 n2 c2, .bool O.flood], i64 sN]) (by simp [results, Try.results15, go_sem, o0, o1, o2, ol, size_setCell, cell_set_self]) rfl ?_
      exact some_res HG.out HM0.out HT.out (((((Mod.refl [w.heap.size + 1] w2).setCell (.inl (by simp)) _).setCell (.inl (by simp)) _).setCell (.inl (by simp)) _).alloc _) (Nat.le_succ _) (by rw [HSW.out]; omega) HP.out HQ.out
  · rw [if_neg he, if_neg he]
    have hef : (e == 0) = false := by simpa using he
    have HE := Lib.hid he
    clear he
    rcases hk with rfl | rfl | rfl | rfl
    all_goals
      go_enter Try.func15, Try.ntmps15
      go_wp2_with (first
        | (go_at_call 19; refine (HS.out _ HM0.out).mono ?_; rintro r w' ⟨rfl, rfl⟩)
        | (go_at_call 18; refine (HC.out _ HM0.out).mono ?_; rintro r w2 ⟨⟨pv, qv, rfl, hpv, hqv⟩, ht⟩; obtain ⟨a1, n1, c1, rfl⟩ := hpv.form; obtain ⟨a2, n2, c2, rfl⟩ := hqv.form; have HP := Lib.hid hpv; have HQ := Lib.hid hqv; have HT := Lib.hid ht; have hm2 := ht.choose_spec.2.1; have ho2 := hm2.keep HOH.out HFL.out; obtain ⟨o0, o1, o2⟩ := cells_3 ho2; have g0 := free_of ho2 0; have g1 := free_of ho2 1; have g2 := free_of ho2 2; have ol := lt_of ho2; have hb2 := hm2.keep HBX.out HFB.out; obtain ⟨b0, b1, b2, b3, b4⟩ := cells_5 hb2; have bl := lt_of hb2; clear ho2 hm2 ht hpv hqv hb2))
      refine bodyPost_ret (v := .tuple #[.agg #[.slice none 0 0, .slice none 0 0, .bool false], i64 (-1)]) (by simp [results, Try.results15, go_sem, o0, o1, o2, ol, size_setCell, cell_set_self]) rfl ?_
      exact nothing_res HG.out HM0.out HT.out (((((Mod.refl [w.heap.size + 1] w2).setCell (.inl (by simp)) _).setCell (.inl (by simp)) _).setCell (.inl (by simp)) _).alloc _) (Nat.le_succ _) (by rw [HSW.out]; omega)
set_option maxRecDepth 100000 in
set_option maxHeartbeats 4000000 in
theorem does_tunnel (kind n s by_ now : Int) (a : Option Addr) (n0 c0 : Nat) (M' : BridgeM) (O : OutM) (e : Int) (hk : kind = 8 ∨ kind = 9)
    (hc : ∀ W, Mod [] w W → Calls Try.prog 34 #[ptr p, i64 s, i64 n, .slice a n0 c0, .int .u64 now] W fun r w' => OutRes O e W r w' ∧ Turns p G M' W w') :
    Calls Try.prog 15 #[ptr p, .agg #[i64 kind, i64 n, i64 s, .slice a n0 c0, .int .u8 by_], .int .u64 now] w fun r w' => OutRes (if e = 0 then O else zeroOut) (if e = 0 then s else -1) w r w' ∧ Turns p G M' w w' := by
  have hG := h.lt
  have HG := Lib.hid hG
  have HC := Lib.hid hc
  have hM0 : Mod [] w ((w.alloc (.cells #[i64 kind, i64 n, i64 s, .slice a n0 c0, .int .u8 by_] 49)).alloc (.cells #[.slice none 0 0, .slice none 0 0, .bool false] 52)) := by (repeat (first | exact Mod.refl _ _ | refine Mod.alloc ?_ _ | refine Mod.drewN ?_ _ | refine Mod.drew ?_ | refine Mod.setCell ?_ (by first | (simp; done) | (simp; omega)) _ | refine Mod.setBlock ?_ (by first | (simp; done) | (simp; omega)) _ | assumption))
  have HO : blk ((w.alloc (.cells #[i64 kind, i64 n, i64 s, .slice a n0 c0, .int .u8 by_] 49)).alloc (.cells #[.slice none 0 0, .slice none 0 0, .bool false] 52)) (w.heap.size + 1) = some (.cells #[.slice none 0 0, .slice none 0 0, .bool false] 52 (0, 0)) := heap_alloc_at _ _ _ (by simp)
  have HB : blk ((w.alloc (.cells #[i64 kind, i64 n, i64 s, .slice a n0 c0, .int .u8 by_] 49)).alloc (.cells #[.slice none 0 0, .slice none 0 0, .bool false] 52)) w.heap.size = some (.cells #[i64 kind, i64 n, i64 s, .slice a n0 c0, .int .u8 by_] 49 (0, 0)) := (heap_alloc_lt _ _ _ (by simp)).trans (heap_alloc_at _ _ _ rfl)
  have hsw : ((w.alloc (.cells #[i64 kind, i64 n, i64 s, .slice a n0 c0, .int .u8 by_] 49)).alloc (.cells #[.slice none 0 0, .slice none 0 0, .bool false] 52)).heap.size = w.heap.size + 2 := by simp
  have HSW := Lib.hid hsw
  have HM0 := Lib.hid hM0
  have HOH := Lib.hid HO
  have HBX := Lib.hid HB
  have hfl : w.heap.size + 1 ∉ G := fun e => by have := hG _ e; omega
  have HFL := Lib.hid hfl
  have hfb : w.heap.size ∉ G := fun e => by have := hG _ e; omega
  have HFB := Lib.hid hfb
  clear h hG hc hM0 hsw HO hfl hfb HB
  by_cases he : e = 0
  · rw [if_pos he, if_pos he]
    subst he
    rcases hk with rfl | rfl
    all_goals
      go_enter Try.func15, Try.ntmps15
      go_wp2_with (first
        | (go_at_call 34; refine (HC.out _ HM0.out).mono ?_; rintro r w2 ⟨⟨pv, qv, rfl, hpv, hqv⟩, ht⟩; obtain ⟨a1, n1, c1, rfl⟩ := hpv.form; obtain ⟨a2, n2, c2, rfl⟩ := hqv.form; have HP := Lib.hid hpv; have HQ := Lib.hid hqv; have HT := Lib.hid ht; have hm2 := ht.choose_spec.2.1; have ho2 := hm2.keep HOH.out HFL.out; obtain ⟨o0, o1, o2⟩ := cells_3 ho2; have g0 := free_of ho2 0; have g1 := free_of ho2 1; have g2 := free_of ho2 2; have ol := lt_of ho2; have hb2 := hm2.keep HBX.out HFB.out; obtain ⟨b0, b1, b2, b3, b4⟩ := cells_5 hb2; have bl := lt_of hb2; clear ho2 hm2 ht hpv hqv hb2))
      go_region
      all_goals
        go_wp2
        refine bodyPost_ret (v := .tuple #[.agg #[.slice a1 n1 c1, .slice a2 n2 c2, .bool O.flood], i64 s]) (by simp [results, Try.results15, go_sem, o0, o1, o2, ol, size_setCell, cell_set_self]) rfl ?_
        exact some_res HG.out HM0.out HT.out ((((((Mod.refl [w.heap.size + 1] w2).setCell (.inl (by simp)) _).setCell (.inl (by simp)) _).setCell (.inl (by simp)) _).alloc _).drew) (Nat.le_succ _) (by rw [HSW.out]; omega) HP.out HQ.out
  · rw [if_neg he, if_neg he]
    have hef : (e == 0) = false := by simpa using he
    have HE := Lib.hid he
    clear he
    rcases hk with rfl | rfl
    all_goals
      go_enter Try.func15, Try.ntmps15
      go_wp2_with (first
        | (go_at_call 34; refine (HC.out _ HM0.out).mono ?_; rintro r w2 ⟨⟨pv, qv, rfl, hpv, hqv⟩, ht⟩; obtain ⟨a1, n1, c1, rfl⟩ := hpv.form; obtain ⟨a2, n2, c2, rfl⟩ := hqv.form; have HP := Lib.hid hpv; have HQ := Lib.hid hqv; have HT := Lib.hid ht; have hm2 := ht.choose_spec.2.1; have ho2 := hm2.keep HOH.out HFL.out; obtain ⟨o0, o1, o2⟩ := cells_3 ho2; have g0 := free_of ho2 0; have g1 := free_of ho2 1; have g2 := free_of ho2 2; have ol := lt_of ho2; have hb2 := hm2.keep HBX.out HFB.out; obtain ⟨b0, b1, b2, b3, b4⟩ := cells_5 hb2; have bl := lt_of hb2; clear ho2 hm2 ht hpv hqv hb2))
      refine bodyPost_ret (v := .tuple #[.agg #[.slice none 0 0, .slice none 0 0, .bool false], i64 (-1)]) (by simp [results, Try.results15, go_sem, o0, o1, o2, ol, size_setCell, cell_set_self]) rfl ?_
      exact nothing_res HG.out HM0.out HT.out (((((Mod.refl [w.heap.size + 1] w2).setCell (.inl (by simp)) _).setCell (.inl (by simp)) _).setCell (.inl (by simp)) _).alloc _) (Nat.le_succ _) (by rw [HSW.out]; omega)

set_option maxRecDepth 100000 in
set_option maxHeartbeats 2000000 in
theorem does_other (kind n s by_ now : Int) (a : Option Addr) (n0 c0 : Nat) (hk : kind < 0 ∨ 9 < kind) :
    Calls Try.prog 15 #[ptr p, .agg #[i64 kind, i64 n, i64 s, .slice a n0 c0, .int .u8 by_], .int .u64 now] w fun r w' => OutRes zeroOut (-1) w r w' ∧ Turns p G M w w' := by
  have H := Lib.hid h
  have h0 : (kind == 0) = false := by simp; omega
  have h1 : (kind == 1) = false := by simp; omega
  have h2 : (kind == 2) = false := by simp; omega
  have h3 : (kind == 3) = false := by simp; omega
  have h4 : (kind == 4) = false := by simp; omega
  have h5 : (kind == 5) = false := by simp; omega
  have h6 : (kind == 6) = false := by simp; omega
  have h7 : (kind == 7) = false := by simp; omega
  have h8 : (kind == 8) = false := by simp; omega
  have h9 : (kind == 9) = false := by simp; omega
  clear hk h
  go_enter Try.func15, Try.ntmps15
  go_wp2
  refine bodyPost_ret (v := .tuple #[.agg #[.slice none 0 0, .slice none 0 0, .bool false], i64 (-1)]) (by simp [results, Try.results15, go_sem]) rfl ?_
  refine (zero_res H.out (-1) ⟨rfl, ?_⟩).both
  (repeat (first | exact Mod.refl _ _ | refine Mod.alloc ?_ _ | refine Mod.drewN ?_ _ | refine Mod.drew ?_ | refine Mod.setCell ?_ (by first | (simp; done) | (simp; omega)) _ | refine Mod.setBlock ?_ (by first | (simp; done) | (simp; omega)) _ | assumption))

theorem segmentOf_at (n : Int) : ∀ W, Mod [] w W → Calls Try.prog 19 #[ptr p, i64 n] W fun r w' => r = .returned (.tuple #[i64 ((look n M.bound).getD 0), .bool (look n M.bound).isSome]) ∧ W = w' := by
  intro W hW
  obtain ⟨mb, S, h1, h2, h3, rfl⟩ := h
  exact segmentOf_any (h1.mod hW (by simp)) n

theorem does_any (x : StepM) {v : Value} (now : Int) (hb : Bytes w v x.b) (hn : -9223372036854775808 ≤ x.n ∧ x.n ≤ 9223372036854775807) (hnow : 0 ≤ now ∧ now ≤ 18446744073709551615) :
    Calls Try.prog 15 #[ptr p, .agg #[i64 x.kind, i64 x.n, i64 x.s, v, .int .u8 (x.by_ : Int)], .int .u64 now] w fun r w' => OutRes (doesM M x now).1 (doesM M x now).2.1 w r w' ∧ Turns p G (doesM M x now).2.2 w w' := by
  obtain ⟨kind, n, s, b, by_⟩ := x
  simp only at hb hn
  obtain ⟨a, n0, c0, rfl⟩ := hb.form
  have hat : ∀ W, Mod [] w W → BridgeAt W p G M := fun W hW => h.mod hW (by simp)
  unfold doesM
  simp only
  by_cases k0 : kind = 0
  · rw [if_pos k0]
    exact does_quiet h kind n s _ now a n0 c0 _ _ _ (.inl ⟨k0, rfl, rfl⟩) (fun W hW => (bind_any (hat W hW) n s).mono fun _ _ hr => ⟨⟨_, hr.1⟩, hr.2⟩)
  rw [if_neg k0]
  by_cases k1 : kind = 1
  · rw [if_pos k1]
    exact does_quiet h kind n s _ now a n0 c0 _ _ _ (.inr (.inl ⟨k1, rfl, rfl⟩)) (fun W hW => (unbind_any (hat W hW) n).mono fun _ _ hr => ⟨⟨_, hr.1⟩, hr.2⟩)
  rw [if_neg k1]
  by_cases k2 : kind = 2
  · rw [if_pos k2]
    exact does_quiet h kind n s _ now a n0 c0 _ _ _ (.inr (.inr (.inl ⟨k2, rfl, rfl⟩))) (fun W hW => (peer_any (hat W hW) s n).mono fun _ _ hr => ⟨⟨_, hr.1⟩, hr.2⟩)
  rw [if_neg k2]
  by_cases k3 : kind = 3
  · rw [if_pos k3]
    exact does_quiet h kind n s _ now a n0 c0 _ _ _ (.inr (.inr (.inr ⟨k3, rfl, rfl⟩))) (fun W hW => (unpeer_any (hat W hW) s n).mono fun _ _ hr => ⟨⟨_, hr.1⟩, hr.2⟩)
  rw [if_neg k3]
  by_cases k4 : 4 ≤ kind ∧ kind ≤ 7
  · rw [if_pos k4]
    refine (does_port h kind n s _ now a n0 c0 (fromPortM M n b now).2.2 (fromPortM M n b now).1 (fromPortM M n b now).2.1 _ _ (by omega) (segmentOf_at h n) (fun W hW => fromPort_any (hat W hW) (hb.keep hW) hn hnow)).mono fun r w' hr => ?_
    by_cases he : (fromPortM M n b now).2.1 = 0
    · rw [if_pos he, if_pos he] at hr
      rw [if_pos he]
      exact hr
    · rw [if_neg he, if_neg he] at hr
      rw [if_neg he]
      exact hr
  rw [if_neg k4]
  by_cases k8 : 8 ≤ kind ∧ kind ≤ 9
  · rw [if_pos k8]
    refine (does_tunnel h kind n s _ now a n0 c0 (fromTunnelM M s n b now).2.2 (fromTunnelM M s n b now).1 (fromTunnelM M s n b now).2.1 (by omega) (fun W hW => fromTunnel_any (hat W hW) (hb.keep hW) hn hnow)).mono fun r w' hr => ?_
    by_cases he : (fromTunnelM M s n b now).2.1 = 0
    · rw [if_pos he, if_pos he] at hr
      rw [if_pos he]
      exact hr
    · rw [if_neg he, if_neg he] at hr
      rw [if_neg he]
      exact hr
  rw [if_neg k8]
  exact does_other h kind n s _ now a n0 c0 (by omega)
end
end Go.Proofs.Ytmhfpiincnadiaa
