/- fdb: old, Group, Find, New. -/
import Derived.Test.YtmhfpiincnadiaaFdbM
namespace Go.Proofs.Ytmhfpiincnadiaa
open Go.RowKit
open Go.ChangeMaps (setBlock)
set_option linter.unusedSimpArgs false
set_option linter.unusedVariables false

set_option maxHeartbeats 400000 in
theorem old_any (b e : Nat) (life at_ now : Int) (w : World) (hlt : 0 ≤ at_) (hnow : 0 ≤ now) (hn2 : now ≤ 18446744073709551615) (ha2 : at_ ≤ 18446744073709551615)
   (h1 : w.cell? ⟨b, 1, none⟩ = some (.int .u64 life))
   (h8 : w.cell? ⟨e, 8, none⟩ = some (.int .u64 at_))
   (h9 : w.cell? ⟨e, 9, none⟩ = some (.bool false)) :
    Calls Try.prog 93 #[ptr b, ptr e, .int .u64 now] w fun e w' => e = .returned (.bool (oldM life at_ now)) ∧ ∃ n, w' = w.drewN n := by
  go_enter Try.func93, Try.ntmps93
  go_wp2
  go_quiet (fail)
  go_wp2
  all_goals
    go_ret
    refine ⟨?_, nq, rfl⟩
    simp [oldM]
    split <;> omega

theorem and_one (a : UInt8) : (bits BinOp.and IntKind.u8 (a.toNat : Int) 1 == 1) = (a.toNat % 2 == 1) := by
  have h : ∀ n : Fin 256, (bits BinOp.and IntKind.u8 (n.val : Int) 1 == 1) = (n.val % 2 == 1) := by decide +kernel
  exact h ⟨a.toNat, a.toNat_lt⟩

set_option maxHeartbeats 400000 in
theorem group_any (m : Mac) (w : World) :
    Calls Try.prog 61 #[(.agg #[.int .u8 (m.a0.toNat : Int), .int .u8 (m.a1.toNat : Int), .int .u8 (m.a2.toNat : Int), .int .u8 (m.a3.toNat : Int), .int .u8 (m.a4.toNat : Int), .int .u8 (m.a5.toNat : Int)])] w fun e w' => e = .returned (.bool m.group) ∧ Mod [] w w' := by
  have hb := and_one m.a0
  have H := Lib.hid hb
  clear hb
  go_enter Try.func61, Try.ntmps61
  go_wp2
  go_ret
  refine ⟨?_, (Mod.refl _ _).alloc _⟩
  simp only [List.getElem_toArray, Mac.group]
  have := H.out
  simpa using this

set_option maxHeartbeats 400000 in
theorem find_none (p mb : Nat) (es : Array MapEntry) (clock : Nat) (room life : Int) (m : Mac) (now : Int) (w : World)
   (h0 : blk w p = some (.cells #[.int .i64 room, .int .u64 life, .map (some mb)] 114 (0, 0)))
   (hm : blk w mb = some (.map es clock))
   (hl : ∀ W : World, blk W mb = some (.map es clock) → (Instr.lookup 112 (.map (some mb)) (.agg #[.int .u8 (m.a0.toNat : Int), .int .u8 (m.a1.toNat : Int), .int .u8 (m.a2.toNat : Int), .int .u8 (m.a3.toNat : Int), .int .u8 (m.a4.toNat : Int), .int .u8 (m.a5.toNat : Int)]) false).run Try.prog W = .ok (.pointer none) W) :
    Calls Try.prog 63 #[ptr p, (.agg #[.int .u8 (m.a0.toNat : Int), .int .u8 (m.a1.toNat : Int), .int .u8 (m.a2.toNat : Int), .int .u8 (m.a3.toNat : Int), .int .u8 (m.a4.toNat : Int), .int .u8 (m.a5.toNat : Int)]), .int .u64 now] w fun e w' => e = .returned (.tuple #[.agg #[.bool false, .int .i64 0], .bool false]) ∧ Mod [] w w' := by
  have c2 : w.cell? ⟨p, 2, none⟩ = some (.map (some mb)) := by rw [cell_of h0]; rfl
  obtain ⟨p1, p2, p3, p4, p5⟩ := lts (lt_of h0)
  obtain ⟨q1, q2, q3, q4, q5⟩ := lts (lt_of hm)
  have p0 := lt_of h0
  have q0 := lt_of hm
  go_enter Try.func63, Try.ntmps63
  go_wp2
  go_quiet (fail)
  go_wp2
  exact bodyPost_ret (v := .tuple #[.agg #[.bool false, .int .i64 0], .bool false]) (by simp [results, Try.results63, go_sem]) rfl ⟨rfl, by (repeat (first | exact Mod.refl _ _ | refine Mod.alloc ?_ _ | refine Mod.drewN ?_ _ | refine Mod.drew ?_ | refine Mod.setCell ?_ (by first | (simp; done) | (simp; omega)) _ | refine Mod.setBlock ?_ (by first | (simp; done) | (simp; omega)) _ | assumption))⟩

set_option maxHeartbeats 400000 in
theorem find_some (p mb eb : Nat) (es : Array MapEntry) (clock : Nat) (room life : Int) (m : Mac) (now : Int) (e : EntM) (old : Bool) (w : World)
   (h0 : blk w p = some (.cells #[.int .i64 room, .int .u64 life, .map (some mb)] 114 (0, 0)))
   (hm : blk w mb = some (.map es clock))
   (he : blk w eb = some (.cells #[.int .u8 (e.mac.a0.toNat : Int), .int .u8 (e.mac.a1.toNat : Int), .int .u8 (e.mac.a2.toNat : Int), .int .u8 (e.mac.a3.toNat : Int), .int .u8 (e.mac.a4.toNat : Int), .int .u8 (e.mac.a5.toNat : Int), .bool e.tun, .int .i64 e.n, .int .u64 e.at_, .bool false] 67 (0, 0))) (hok : e.ok) (hn0 : 0 ≤ now) (hn1 : now ≤ 18446744073709551615)
   (hold : oldM life e.at_ now = old)
   (hl : ∀ W : World, blk W mb = some (.map es clock) → (Instr.lookup 112 (.map (some mb)) (.agg #[.int .u8 (m.a0.toNat : Int), .int .u8 (m.a1.toNat : Int), .int .u8 (m.a2.toNat : Int), .int .u8 (m.a3.toNat : Int), .int .u8 (m.a4.toNat : Int), .int .u8 (m.a5.toNat : Int)]) false).run Try.prog W = .ok (ptr eb) W) :
    Calls Try.prog 63 #[ptr p, (.agg #[.int .u8 (m.a0.toNat : Int), .int .u8 (m.a1.toNat : Int), .int .u8 (m.a2.toNat : Int), .int .u8 (m.a3.toNat : Int), .int .u8 (m.a4.toNat : Int), .int .u8 (m.a5.toNat : Int)]), .int .u64 now] w fun r w' => r = .returned (.tuple #[if old then .agg #[.bool false, .int .i64 0] else .agg #[.bool e.tun, .int .i64 e.n], .bool (!old)]) ∧ Mod [] w w' := by
  have c2 : w.cell? ⟨p, 2, none⟩ = some (.map (some mb)) := by rw [cell_of h0]; rfl
  have c1 : w.cell? ⟨p, 1, none⟩ = some (.int .u64 life) := by rw [cell_of h0]; rfl
  have e6 : w.cell? ⟨eb, 6, none⟩ = some (.bool e.tun) := by rw [cell_of he]; rfl
  have e7 : w.cell? ⟨eb, 7, none⟩ = some (.int .i64 e.n) := by rw [cell_of he]; rfl
  have e8 : w.cell? ⟨eb, 8, none⟩ = some (.int .u64 e.at_) := by rw [cell_of he]; rfl
  have e9 : w.cell? ⟨eb, 9, none⟩ = some (.bool false) := by rw [cell_of he]; rfl
  have p0 := lt_of h0
  obtain ⟨p1, p2, p3, p4, p5⟩ := lts p0
  have q0 := lt_of hm
  obtain ⟨q1, q2, q3, q4, q5⟩ := lts q0
  have r0 := lt_of he
  obtain ⟨r1, r2, r3, r4, r5⟩ := lts r0
  obtain ⟨_, _, ha0, ha1⟩ := hok
  have H := Lib.hid hold
  clear hold
  have hc := fun (W : World) => old_any p eb life e.at_ now W ha0 hn0 hn1 ha1
  cases old
  all_goals
    rw [H.out] at hc
    go_enter Try.func63, Try.ntmps63
    go_wp2
    go_quiet (fail)
    go_wp2_with (go_at_call 93; refine (hc _ (by go_simp) (by go_simp) (by go_simp)).mono ?_; rintro r w' ⟨rfl, nq, rfl⟩)
    refine bodyPost_ret (v := .tuple #[.agg #[_, _], .bool _]) (by simp [results, Try.results63, go_sem]) rfl ⟨rfl, by (repeat (first | exact Mod.refl _ _ | refine Mod.alloc ?_ _ | refine Mod.drewN ?_ _ | refine Mod.drew ?_ | refine Mod.setCell ?_ (by first | (simp; done) | (simp; omega)) _ | refine Mod.setBlock ?_ (by first | (simp; done) | (simp; omega)) _ | assumption))⟩

theorem find_any {w : World} {p : Nat} {F : List Nat} {B : BaseM} (h : BaseAt w p F B) (m : Mac) (now : Int) (hn0 : 0 ≤ now) (hn1 : now ≤ 18446744073709551615) :
    Calls Try.prog 63 #[ptr p, m.v, .int .u64 now] w fun r w' =>
      r = .returned (.tuple #[(match findM B m now with | some (t, n) => .agg #[.bool t, .int .i64 n] | none => .agg #[.bool false, .int .i64 0]), .bool (findM B m now).isSome]) ∧ Mod [] w w' := by
  obtain ⟨mb, L, h1, h2, rfl⟩ := h
  obtain ⟨es, clock, h3, h4⟩ := h1.map
  have hl : ∀ W : World, blk W mb = some (.map es clock) → (Instr.lookup 112 (.map (some mb)) m.v false).run Try.prog W = .ok ((look m (L.map fun x => (x.1.mac, ptr x.2))).getD (.pointer none)) W :=
    fun W hW => run_lookup mac_law Try.underlying112 h4 hW m _ zero_ent
  rw [look_ents] at hl
  unfold findM
  rw [← h2, lookE_find]
  cases hf : L.find? fun x => decide (m = x.1.mac) with
  | none =>
    rw [hf] at hl
    exact find_none p mb es clock B.room B.life m now w h1.base h3 hl
  | some x =>
    rw [hf] at hl
    have hx : x ∈ L := List.mem_of_find?_eq_some hf
    refine (find_some p mb x.2 es clock B.room B.life m now x.1 (oldM B.life x.1.at_ now) w h1.base h3 (h1.ents x hx) (h1.ok x hx) hn0 hn1 rfl hl).mono fun r w' hr => ⟨?_, hr.2⟩
    rw [hr.1]
    simp only [Option.map_some]
    cases oldM B.life x.1.at_ now <;> rfl
end Go.Proofs.Ytmhfpiincnadiaa
