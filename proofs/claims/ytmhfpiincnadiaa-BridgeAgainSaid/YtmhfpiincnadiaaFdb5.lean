/- fdb: Learn. -/
import Derived.Test.YtmhfpiincnadiaaFdbL
namespace Go.Proofs.Ytmhfpiincnadiaa
open Go.RowKit
open Go.ChangeMaps (setBlock)
set_option linter.unusedSimpArgs false
set_option linter.unusedVariables false

def updE (mac : Mac) (tun : Bool) (n now : Int) (l : List EntM) : List EntM := l.map fun e => if e.mac = mac then ⟨e.mac, tun, n, now⟩ else e
def learnM (B : BaseM) (mac : Mac) (tun : Bool) (n now : Int) : Bool × Int × BaseM :=
  if mac.group then (false, 1, B) else
  match lookE mac B.ents with
  | none => (false, 0, addM B ⟨mac, tun, n, now⟩)
  | some e => (!(e.tun == tun && e.n == n), 0, { B with ents := updE mac tun n now B.ents })

set_option maxRecDepth 100000 in
set_option maxHeartbeats 600000 in
theorem learn_group (p : Nat) (m : Mac) (tun : Bool) (n now : Int) (w : World) (hgr : m.group = true) :
    Calls Try.prog 62 #[ptr p, (.agg #[.int .u8 (m.a0.toNat : Int), .int .u8 (m.a1.toNat : Int), .int .u8 (m.a2.toNat : Int), .int .u8 (m.a3.toNat : Int), .int .u8 (m.a4.toNat : Int), .int .u8 (m.a5.toNat : Int)]), .agg #[.bool tun, .int .i64 n], .int .u64 now] w fun r w' => r = .returned (.tuple #[.bool false, .int .i64 1]) ∧ Mod [] w w' := by
  have hc := fun W => group_any m W
  rw [hgr] at hc
  have HC := Lib.hid hc
  clear hc hgr
  go_enter Try.func62, Try.ntmps62
  go_wp2_with (go_at_call 61; refine (HC.out _).mono ?_; rintro r w1 ⟨rfl, hm1⟩)
  go_ret2
  exact ⟨rfl, (((Mod.refl _ _).alloc _).alloc _).trans hm1 (by simp)⟩

set_option maxRecDepth 100000 in
set_option maxHeartbeats 600000 in
theorem learn_new (p mb : Nat) (F : List Nat) (B : BaseM) (m : Mac) (tun : Bool) (n now : Int) (es : Array MapEntry) (clock : Nat) (room life : Int) (w : World) (hgr : m.group = false)
   (h0 : blk w p = some (.cells #[.int .i64 room, .int .u64 life, .map (some mb)] 114 (0, 0)))
   (hm : blk w mb = some (.map es clock)) (hB : BaseAt w p F B) (hok : EntM.ok ⟨m, tun, n, now⟩) (hno : lookE m B.ents = none)
   (hl : ∀ W : World, blk W mb = some (.map es clock) → (Instr.lookup 112 (.map (some mb)) (.agg #[.int .u8 (m.a0.toNat : Int), .int .u8 (m.a1.toNat : Int), .int .u8 (m.a2.toNat : Int), .int .u8 (m.a3.toNat : Int), .int .u8 (m.a4.toNat : Int), .int .u8 (m.a5.toNat : Int)]) false).run Try.prog W = .ok (.pointer none) W) :
    Calls Try.prog 62 #[ptr p, (.agg #[.int .u8 (m.a0.toNat : Int), .int .u8 (m.a1.toNat : Int), .int .u8 (m.a2.toNat : Int), .int .u8 (m.a3.toNat : Int), .int .u8 (m.a4.toNat : Int), .int .u8 (m.a5.toNat : Int)]), .agg #[.bool tun, .int .i64 n], .int .u64 now] w fun r w' => r = .returned (.tuple #[.bool false, .int .i64 0]) ∧
      ∃ F', BaseAt w' p F' (addM B ⟨m, tun, n, now⟩) ∧ Mod F w w' ∧ ∀ b, b ∈ F' → b ∈ F ∨ w.heap.size ≤ b := by
  have hc := fun W => group_any m W
  rw [hgr] at hc
  have HC := Lib.hid hc
  have HB := Lib.hid hB
  have HL := Lib.hid hl
  clear hc hgr hB hl
  have p0 := lt_of h0
  have q0 := lt_of hm
  go_enter Try.func62, Try.ntmps62
  go_wp2_with (go_at_call 61; refine (HC.out _).mono ?_; rintro r w1 ⟨rfl, hm1⟩)
  have hM1 : Mod [] w w1 := (((Mod.refl _ _).alloc _).alloc _).trans hm1 (by simp)
  have a0 := hM1.keep h0 (by simp)
  have a1 := hM1.keep hm (by simp)
  obtain ⟨_, _, c2⟩ := cells_3 a0
  have bx : blk w1 w.heap.size = some (.cells #[.int .u8 (m.a0.toNat : Int), .int .u8 (m.a1.toNat : Int), .int .u8 (m.a2.toNat : Int), .int .u8 (m.a3.toNat : Int), .int .u8 (m.a4.toNat : Int), .int .u8 (m.a5.toNat : Int)] 63 (0, 0)) := hm1.keep (by rw [heap_alloc_lt _ _ _ (by simp)]; exact heap_alloc_at _ _ _ rfl) (by simp)
  have by_ : blk w1 (w.heap.size + 1) = some (.cells #[.bool tun, .int .i64 n] 65 (0, 0)) := hm1.keep (heap_alloc_at _ _ _ (by simp)) (by simp)
  obtain ⟨x0, x1, x2, x3, x4, x5⟩ := cells_6 bx
  obtain ⟨y0, y1⟩ := cells_2 by_
  have hl1 : ∀ n, (Instr.lookup 112 (.map (some mb)) (.agg #[.int .u8 (m.a0.toNat : Int), .int .u8 (m.a1.toNat : Int), .int .u8 (m.a2.toNat : Int), .int .u8 (m.a3.toNat : Int), .int .u8 (m.a4.toNat : Int), .int .u8 (m.a5.toNat : Int)]) false).run Try.prog (w1.drewN n) = .ok (.pointer none) (w1.drewN n) := fun n => HL.out _ (by rw [heap_drewN]; exact a1)
  clear bx by_ a0 a1
  go_quiet (fail)
  have hadd := Lib.hid (add_any (((HB.out).mod hM1 (by simp)).mod ((Mod.refl [] w1).drewN nq) (by simp)) ⟨m, tun, n, now⟩ hok hno)
  go_wp2_with (go_at_call 92; refine hadd.out.mono ?_; rintro r w2 ⟨rfl, F', hF1, hF2, hF3⟩)
  go_ret2
  have hs := hM1.size
  refine ⟨rfl, F', hF1, hM1.nil.trans hF2.drewN_l (fun k hk => .inl hk), fun b hb => ?_⟩
  rcases hF3 b hb with h | h
  · exact .inl h
  · exact .inr (by rw [size_drewN] at h; omega)

set_option maxRecDepth 100000 in
set_option maxHeartbeats 1000000 in
theorem learn_old (p mb eb : Nat) (e : EntM) (m : Mac) (tun : Bool) (n now : Int) (es : Array MapEntry) (clock : Nat) (room life : Int) (w : World) (hgr : m.group = false)
   (h0 : blk w p = some (.cells #[.int .i64 room, .int .u64 life, .map (some mb)] 114 (0, 0)))
   (hm : blk w mb = some (.map es clock)) (he : blk w eb = some (.cells #[.int .u8 (e.mac.a0.toNat : Int), .int .u8 (e.mac.a1.toNat : Int), .int .u8 (e.mac.a2.toNat : Int), .int .u8 (e.mac.a3.toNat : Int), .int .u8 (e.mac.a4.toNat : Int), .int .u8 (e.mac.a5.toNat : Int), .bool e.tun, .int .i64 e.n, .int .u64 e.at_, .bool false] 67 (0, 0))) 
   (hl : ∀ W : World, blk W mb = some (.map es clock) → (Instr.lookup 112 (.map (some mb)) (.agg #[.int .u8 (m.a0.toNat : Int), .int .u8 (m.a1.toNat : Int), .int .u8 (m.a2.toNat : Int), .int .u8 (m.a3.toNat : Int), .int .u8 (m.a4.toNat : Int), .int .u8 (m.a5.toNat : Int)]) false).run Try.prog W = .ok (ptr eb) W) :
    Calls Try.prog 62 #[ptr p, (.agg #[.int .u8 (m.a0.toNat : Int), .int .u8 (m.a1.toNat : Int), .int .u8 (m.a2.toNat : Int), .int .u8 (m.a3.toNat : Int), .int .u8 (m.a4.toNat : Int), .int .u8 (m.a5.toNat : Int)]), .agg #[.bool tun, .int .i64 n], .int .u64 now] w fun r w' => r = .returned (.tuple #[.bool (!(e.tun == tun && e.n == n)), .int .i64 0]) ∧
      Mod [eb] w w' ∧ blk w' eb = some (.cells (EntM.cells ⟨e.mac, tun, n, now⟩) 67 (0, 0)) := by
  have hc := fun W => group_any m W
  rw [hgr] at hc
  have HC := Lib.hid hc
  have HL := Lib.hid hl
  clear hc hgr hl
  have p0 := lt_of h0
  have q0 := lt_of hm
  have r0 := lt_of he
  go_enter Try.func62, Try.ntmps62
  go_wp2_with (go_at_call 61; refine (HC.out _).mono ?_; rintro r w1 ⟨rfl, hm1⟩)
  have hM1 : Mod [] w w1 := (((Mod.refl _ _).alloc _).alloc _).trans hm1 (by simp)
  have a0 := hM1.keep h0 (by simp)
  have a1 := hM1.keep hm (by simp)
  have a2 := hM1.keep he (by simp)
  obtain ⟨_, _, c2⟩ := cells_3 a0
  have bx : blk w1 w.heap.size = some (.cells #[.int .u8 (m.a0.toNat : Int), .int .u8 (m.a1.toNat : Int), .int .u8 (m.a2.toNat : Int), .int .u8 (m.a3.toNat : Int), .int .u8 (m.a4.toNat : Int), .int .u8 (m.a5.toNat : Int)] 63 (0, 0)) := hm1.keep (by rw [heap_alloc_lt _ _ _ (by simp)]; exact heap_alloc_at _ _ _ rfl) (by simp)
  have by_ : blk w1 (w.heap.size + 1) = some (.cells #[.bool tun, .int .i64 n] 65 (0, 0)) := hm1.keep (heap_alloc_at _ _ _ (by simp)) (by simp)
  obtain ⟨x0, x1, x2, x3, x4, x5⟩ := cells_6 bx
  obtain ⟨y0, y1⟩ := cells_2 by_
  obtain ⟨_, _, _, _, _, _, e6, e7, e8, e9⟩ := cells_10 a2
  have f6 := free_of a2 6
  have f7 := free_of a2 7
  have f8 := free_of a2 8
  have hne : eb ≠ w.heap.size + 1 := by omega
  have hpg := place_guard
  have hpe := fun W => place_eq W e.tun tun e.n n
  have hl1 : ∀ n, (Instr.lookup 112 (.map (some mb)) (.agg #[.int .u8 (m.a0.toNat : Int), .int .u8 (m.a1.toNat : Int), .int .u8 (m.a2.toNat : Int), .int .u8 (m.a3.toNat : Int), .int .u8 (m.a4.toNat : Int), .int .u8 (m.a5.toNat : Int)]) false).run Try.prog (w1.drewN n) = .ok (ptr eb) (w1.drewN n) := fun n => HL.out _ (by rw [heap_drewN]; exact a1)
  clear bx by_ a0 a1
  go_quiet (fail)
  go_wp2
  go_quiet (fail)
  go_wp2
  go_ret2
  have hM2 : Mod [eb] w w1 := hM1.nil
  refine ⟨by simp [Bool.not_and], by (repeat (first | exact Mod.refl _ _ | refine Mod.alloc ?_ _ | refine Mod.drewN ?_ _ | refine Mod.drew ?_ | refine Mod.setCell ?_ (by first | (simp; done) | (simp; omega)) _ | refine Mod.setBlock ?_ (by first | (simp; done) | (simp; omega)) _ | assumption)), ?_⟩
  exact heap_setCell_eq _ _ _ _ (heap_setCell_eq _ _ _ _ (heap_setCell_eq _ _ _ _ a2))

theorem updE_L (mac : Mac) (tun : Bool) (n now : Int) (L : List (EntM × Nat)) : (L.map fun x => ((if x.1.mac = mac then (⟨x.1.mac, tun, n, now⟩ : EntM) else x.1), x.2)).map (·.1) = updE mac tun n now (L.map (·.1)) := by
  simp [updE, List.map_map]

theorem learn_any {w : World} {p : Nat} {F : List Nat} {B : BaseM} (h : BaseAt w p F B) (m : Mac) (tun : Bool) (n now : Int) (hok : EntM.ok ⟨m, tun, n, now⟩) :
    Calls Try.prog 62 #[ptr p, m.v, .agg #[.bool tun, .int .i64 n], .int .u64 now] w fun r w' => r = .returned (.tuple #[.bool (learnM B m tun n now).1, .int .i64 (learnM B m tun n now).2.1]) ∧
      ∃ F', BaseAt w' p F' (learnM B m tun n now).2.2 ∧ Mod F w w' ∧ ∀ b, b ∈ F' → b ∈ F ∨ w.heap.size ≤ b := by
  unfold learnM
  by_cases hgr : m.group = true
  · rw [if_pos hgr]
    refine (learn_group p m tun n now w hgr).mono ?_
    rintro r w' ⟨rfl, hm⟩
    exact ⟨rfl, F, h.mod hm (by simp), hm.nil, fun b hb => .inl hb⟩
  · rw [if_neg hgr]
    have hgr' : m.group = false := by simpa using hgr
    have hB := h
    obtain ⟨mb, L, h1, h2, rfl⟩ := h
    obtain ⟨es, clock, h3, h4⟩ := h1.map
    have hl : ∀ W : World, blk W mb = some (.map es clock) → (Instr.lookup 112 (.map (some mb)) m.v false).run Try.prog W = .ok ((look m (L.map fun x => (x.1.mac, ptr x.2))).getD (.pointer none)) W :=
      fun W hW => run_lookup mac_law Try.underlying112 h4 hW m _ zero_ent
    rw [look_ents] at hl
    have hf0 : lookE m B.ents = (L.find? fun x => m = x.1.mac).map (·.1) := by rw [← h2, lookE_find]
    cases hf : L.find? fun x => decide (m = x.1.mac) with
    | none =>
      rw [hf] at hl hf0
      simp only [Option.map_none] at hf0
      rw [hf0]
      exact learn_new p mb _ B m tun n now es clock B.room B.life w hgr' h1.base h3 hB hok hf0 hl
    | some x =>
      rw [hf] at hl hf0
      simp only [Option.map_some] at hf0
      rw [hf0]
      have hx : x ∈ L := List.mem_of_find?_eq_some hf
      have hxm : m = x.1.mac := by have := List.find?_some hf; simpa using this
      refine (learn_old p mb x.2 x.1 m tun n now es clock B.room B.life w hgr' h1.base h3 (h1.ents x hx) hl).mono ?_
      rintro r w' ⟨rfl, hm, hb⟩
      have hnd := h1.nodup
      simp only [List.nodup_cons, List.mem_cons, not_or] at hnd
      have hxin : x.2 ∈ L.map (·.2) := List.mem_map.2 ⟨x, hx, rfl⟩
      refine ⟨rfl, p :: mb :: L.map (·.2), ⟨mb, L.map (fun y => ((if y.1.mac = m then (⟨y.1.mac, tun, n, now⟩ : EntM) else y.1), y.2)), ?_, ?_, by simp [List.map_map, Function.comp_def]⟩, hm.mono (fun k hk => by simp only [List.mem_singleton] at hk; subst hk; exact List.mem_cons_of_mem _ (List.mem_cons_of_mem _ hxin)), fun b hb => .inl hb⟩
      · have hsnd : (L.map (fun y => ((if y.1.mac = m then (⟨y.1.mac, tun, n, now⟩ : EntM) else y.1), y.2))).map (·.2) = L.map (·.2) := by simp [List.map_map, Function.comp_def]
        have hmacs : ∀ y : EntM × Nat, (if y.1.mac = m then (⟨y.1.mac, tun, n, now⟩ : EntM) else y.1).mac = y.1.mac := fun y => by split <;> rfl
        constructor
        · exact hm.keep h1.base (by simp; exact fun hh => hnd.1.2 (by rw [hh]; exact hxin))
        · refine ⟨es, clock, hm.keep h3 (by simp; exact fun hh => hnd.2.1 (by rw [hh]; exact hxin)), ?_⟩
          rw [List.map_map]
          have : ((fun x : EntM × Nat => (x.1.mac, ptr x.2)) ∘ fun y : EntM × Nat => ((if y.1.mac = m then (⟨y.1.mac, tun, n, now⟩ : EntM) else y.1), y.2)) = fun x : EntM × Nat => (x.1.mac, ptr x.2) := by
            funext y
            simp only [Function.comp, hmacs]
          rw [this]
          exact h4
        · intro z hz
          obtain ⟨y, hy, rfl⟩ := List.mem_map.1 hz
          by_cases hym : y.1.mac = m
          · have hyx : y = x := nodup_mac h1.macs hy hx (by rw [hym, hxm])
            subst hyx
            simp only [hym, if_true]
            rw [hym] at hb
            exact hb
          · simp only [hym, if_false]
            refine hm.keep (h1.ents y hy) ?_
            simp only [List.mem_singleton]
            intro hh
            have h5 : (y.1, x.2) ∈ L := by rw [← hh]; exact hy
            have := nodup_snd hnd.2.2 h5 hx
            exact hym (by rw [this, ← hxm])
        · rw [hsnd]; exact h1.nodup
        · rw [List.map_map]
          have : ((fun x : EntM × Nat => x.1.mac) ∘ fun y : EntM × Nat => ((if y.1.mac = m then (⟨y.1.mac, tun, n, now⟩ : EntM) else y.1), y.2)) = fun x : EntM × Nat => x.1.mac := by
            funext y
            simp only [Function.comp, hmacs]
          rw [this]
          exact h1.macs
        · intro z hz
          obtain ⟨y, hy, rfl⟩ := List.mem_map.1 hz
          by_cases hym : y.1.mac = m
          · simp only [hym, if_true]; exact hok
          · simp only [hym, if_false]; exact h1.ok y hy
        · exact h1.room1
        · exact h1.room2
        · simp; exact h1.len
        · exact h1.life0
        · exact h1.life1
      · rw [updE_L, h2]
end Go.Proofs.Ytmhfpiincnadiaa
