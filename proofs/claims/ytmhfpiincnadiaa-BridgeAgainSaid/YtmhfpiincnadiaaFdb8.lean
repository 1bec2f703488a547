/- fdb: drop, Forget. -/
import Derived.Test.YtmhfpiincnadiaaFdb7
namespace Go.Proofs.Ytmhfpiincnadiaa
open Go.RowKit
open Go.ChangeMaps (setBlock)
set_option linter.unusedSimpArgs false
set_option linter.unusedVariables false

def atPlace (tun : Bool) (n : Int) (e : EntM) : Bool := e.tun == tun && e.n == n
def forgetM (B : BaseM) (tun : Bool) (n : Int) : BaseM := { B with ents := B.ents.filter fun e => !atPlace tun n e }

set_option maxRecDepth 100000 in
set_option maxHeartbeats 600000 in
theorem holds_any (eb pb : Nat) (e : EntM) (tun : Bool) (n : Int) (w : World) (he : blk w eb = some (.cells #[.int .u8 (e.mac.a0.toNat : Int), .int .u8 (e.mac.a1.toNat : Int), .int .u8 (e.mac.a2.toNat : Int), .int .u8 (e.mac.a3.toNat : Int), .int .u8 (e.mac.a4.toNat : Int), .int .u8 (e.mac.a5.toNat : Int), .bool e.tun, .int .i64 e.n, .int .u64 e.at_, .bool false] 67 (0, 0))) (hp : blk w pb = some (.cells #[.bool tun, .int .i64 n] 65 (0, 0))) :
    Calls Try.prog 69 #[ptr eb, ptr pb] w fun r w' => r = .returned (.bool (atPlace tun n e)) ∧ Mod [] w w' := by
  obtain ⟨_, _, _, _, _, _, e6, e7, _, _⟩ := cells_10 he
  obtain ⟨y0, y1⟩ := cells_2 hp
  have hpg := place_guard
  have hpe := fun W => place_eq W e.tun tun e.n n
  clear he hp
  go_enter Try.func69, Try.ntmps69
  go_wp2
  go_quiet (fail)
  go_wp2
  go_ret
  exact ⟨rfl, (Mod.refl _ _).drewN _⟩

set_option maxRecDepth 100000 in
set_option maxHeartbeats 600000 in
theorem drop1_forget (x : EntM × Nat) (cbx pb : Nat) (tun : Bool) (n : Int) (w : World) (he : blk w x.2 = some (.cells x.1.cells 67 (0, 0))) (hp : blk w pb = some (.cells #[.bool tun, .int .i64 n] 65 (0, 0)))
    (hc : blk w cbx = some (.cells #[.func (.func 69) #[] #[ptr pb]] 155 (0, 0))) :
    Calls Try.prog 100 #[(.agg #[.int .u8 (x.1.mac.a0.toNat : Int), .int .u8 (x.1.mac.a1.toNat : Int), .int .u8 (x.1.mac.a2.toNat : Int), .int .u8 (x.1.mac.a3.toNat : Int), .int .u8 (x.1.mac.a4.toNat : Int), .int .u8 (x.1.mac.a5.toNat : Int)]), ptr x.2, ptr cbx] w fun r w' => r = .returned (.bool (atPlace tun n x.1)) ∧ Mod [] w w' := by
  have c0 := cells_1 hc
  have q0 := lt_of hc
  obtain ⟨q1, q2, q3, q4, q5⟩ := lts q0
  have he' : blk (w.alloc (.cells #[.int .u8 (x.1.mac.a0.toNat : Int), .int .u8 (x.1.mac.a1.toNat : Int), .int .u8 (x.1.mac.a2.toNat : Int), .int .u8 (x.1.mac.a3.toNat : Int), .int .u8 (x.1.mac.a4.toNat : Int), .int .u8 (x.1.mac.a5.toNat : Int)] 63)) x.2 = some (.cells x.1.cells 67 (0, 0)) := by rw [heap_alloc_lt _ _ _ (lt_of he)]; exact he
  have hp' : blk (w.alloc (.cells #[.int .u8 (x.1.mac.a0.toNat : Int), .int .u8 (x.1.mac.a1.toNat : Int), .int .u8 (x.1.mac.a2.toNat : Int), .int .u8 (x.1.mac.a3.toNat : Int), .int .u8 (x.1.mac.a4.toNat : Int), .int .u8 (x.1.mac.a5.toNat : Int)] 63)) pb = some (.cells #[.bool tun, .int .i64 n] 65 (0, 0)) := by rw [heap_alloc_lt _ _ _ (lt_of hp)]; exact hp
  have HC := Lib.hid (holds_any x.2 pb x.1 tun n _ he' hp')
  clear he hp hc he' hp'
  go_enter Try.func100, Try.ntmps100
  go_wp2_with (go_at_call 69; refine HC.out.mono ?_; rintro r w1 ⟨rfl, hm1⟩)
  go_ret
  exact ⟨rfl, ((Mod.refl _ _).alloc _).trans hm1 (by simp)⟩

set_option maxRecDepth 100000 in
set_option maxHeartbeats 1000000 in
theorem drop_forget (p mb pb : Nat) (es : Array MapEntry) (clock : Nat) (room life : Int) (L : List (EntM × Nat)) (tun : Bool) (n : Int) (w : World)
   (h0 : blk w p = some (.cells #[.int .i64 room, .int .u64 life, .map (some mb)] 114 (0, 0))) (hpm : p ≠ mb)
   (hmb : blk w mb = some (.map es clock)) (hm : IsMap Mac.v es clock (L.map fun x => (x.1.mac, ptr x.2))) (hmacs : (L.map (·.1.mac)).Nodup) (hnd : (mb :: L.map (·.2)).Nodup)
   (hents : ∀ x ∈ L, blk w x.2 = some (.cells x.1.cells 67 (0, 0))) (hp : blk w pb = some (.cells #[.bool tun, .int .i64 n] 65 (0, 0))) :
    Calls Try.prog 68 #[ptr p, .func (.func 69) #[] #[ptr pb]] w fun r w' => (∃ k, r = .returned (.int .i64 k)) ∧
      ∃ es', blk w' mb = some (.map es' clock) ∧ IsMap Mac.v es' clock ((L.filter fun x => !atPlace tun n x.1).map fun x => (x.1.mac, ptr x.2)) ∧ Mod [mb] w w' := by
  simp only [List.nodup_cons] at hnd
  obtain ⟨_, _, c2⟩ := cells_3 h0
  have p0 := lt_of h0
  obtain ⟨p1, p2, p3, p4, p5⟩ := lts p0
  have q0 := lt_of hmb
  obtain ⟨q1, q2, q3, q4, q5⟩ := lts q0
  have hg : ∀ W : World, blk W mb = some (.map es clock) → (Builtin.len_ #[112] 3 #[.map (some mb)]).run Try.prog W = .ok (.int .i64 (es.size : Int)) W := fun W h => run_len Try.underlying112 _ h
  have hpbm : pb ≠ mb := fun h => by rw [h, hmb] at hp; cases hp
  have hbx : blk (w.alloc (.cells #[.func (.func 69) #[] #[ptr pb]] 155)) w.heap.size = some (.cells #[.func (.func 69) #[] #[ptr pb]] 155 (0, 0)) := heap_alloc_at _ _ _ rfl
  have hmb1 : blk (w.alloc (.cells #[.func (.func 69) #[] #[ptr pb]] 155)) mb = some (.map es clock) := by rw [heap_alloc_lt _ _ _ q0]; exact hmb
  have hcall := Lib.hid (deleteFunc_any mb w.heap.size es clock L (atPlace tun n) _ hmb1 hm hmacs hnd.2 (fun W x hx hW => drop1_forget x w.heap.size pb tun n W
    (hW.keep (by rw [heap_alloc_lt _ _ _ (lt_of (hents x hx))]; exact hents x hx) (by simp only [List.mem_singleton]; exact fun h => hnd.1 (h ▸ List.mem_map.2 ⟨x, hx, rfl⟩)))
    (hW.keep (by rw [heap_alloc_lt _ _ _ (lt_of hp)]; exact hp) (by simpa using hpbm)) (hW.keep hbx (by simp; omega))))
  have hs : es.size = L.length := by simpa using congrArg List.length hm.kv
  clear hm hmacs hnd hents hp hbx hmb1 h0 hs
  go_enter Try.func68, Try.ntmps68
  go_wp2_with (go_at_call 99; go_loud (refine hcall.out.mono ?_; rintro r w1 ⟨rfl, es', hes, hism, hm1⟩; have d2 : w1.cell? ⟨p, 2, none⟩ = some (.map (some mb)) := (hm1.cell (by rw [World.size_alloc]; omega) (by simpa using hpm) 2).trans (by go_simp); have hg1 : (Builtin.len_ #[112] 3 #[.map (some mb)]).run Try.prog w1 = .ok (.int .i64 (es'.size : Int)) w1 := run_len Try.underlying112 _ hes; have HI := Lib.hid hism; clear hism))
  go_outline
  go_ret
  exact ⟨⟨_, rfl⟩, es', hes, HI.out, ((Mod.refl _ _).alloc _).trans hm1 (by simp)⟩

set_option maxRecDepth 100000 in
set_option maxHeartbeats 600000 in
theorem forget_any {w : World} {p : Nat} {F : List Nat} {B : BaseM} (h : BaseAt w p F B) (tun : Bool) (n : Int) :
    Calls Try.prog 44 #[ptr p, .agg #[.bool tun, .int .i64 n]] w fun r w' => (∃ k, r = .returned (.int .i64 k)) ∧
      ∃ F', BaseAt w' p F' (forgetM B tun n) ∧ Mod F w w' ∧ ∀ b, b ∈ F' → b ∈ F := by
  obtain ⟨mb, L, h1, h2, rfl⟩ := h
  obtain ⟨es, clock, h3, h4⟩ := h1.map
  have hnd := h1.nodup
  simp only [List.nodup_cons, List.mem_cons, not_or] at hnd
  have H1 : BaseIs (w.alloc (.cells #[.bool tun, .int .i64 n] 65)) p mb L B.room B.life := h1.keep fun b hb => heap_alloc_lt _ _ _ (BaseAt.lt ⟨mb, L, h1, h2, rfl⟩ b hb)
  have hcall := Lib.hid (drop_forget p mb w.heap.size es clock B.room B.life L tun n _ H1.base hnd.1.1 (by rw [heap_alloc_lt _ _ _ (lt_of h3)]; exact h3) h4 h1.macs (List.nodup_cons.2 hnd.2) H1.ents (heap_alloc_at _ _ _ rfl))
  have HH := Lib.hid h1
  clear h1 h4 hnd H1
  go_enter Try.func44, Try.ntmps44
  go_wp2_with (go_at_call 68; refine hcall.out.mono ?_; rintro r w1 ⟨⟨k, rfl⟩, es', hes, hism, hm1⟩)
  go_ret
  have h1 := HH.out
  have hm2 : Mod [mb] w w1 := ((Mod.refl _ _).alloc _).trans hm1 (fun k hk => .inl hk)
  have hnd := h1.nodup
  simp only [List.nodup_cons, List.mem_cons, not_or] at hnd
  have hsub : (L.filter fun x => !atPlace tun n x.1).Sublist L := List.filter_sublist
  refine ⟨⟨_, rfl⟩, p :: mb :: (L.filter fun x => !atPlace tun n x.1).map (·.2), ⟨mb, L.filter fun x => !atPlace tun n x.1, ?_, ?_, rfl⟩, hm2.mono (by simp), ?_⟩
  · constructor
    · exact hm2.keep h1.base (by simpa using hnd.1.1)
    · exact ⟨es', clock, hes, hism⟩
    · intro x hx
      have hxL := hsub.subset hx
      exact hm2.keep (h1.ents x hxL) (by simp only [List.mem_singleton]; exact fun hh => hnd.2.1 (hh ▸ List.mem_map.2 ⟨x, hxL, rfl⟩))
    · exact h1.nodup.sublist (((hsub.map _).cons_cons mb).cons_cons p)
    · exact h1.macs.sublist (hsub.map _)
    · exact fun x hx => h1.ok x (hsub.subset hx)
    · exact h1.room1
    · exact h1.room2
    · have h5 := hsub.length_le
      have h6 := h1.len
      have h7 : (forgetM B tun n).room = B.room := rfl
      omega
    · exact h1.life0
    · exact h1.life1
  · rw [forgetM, ← h2, List.filter_map]
    rfl
  · intro b hb
    simp only [List.mem_cons] at hb ⊢
    rcases hb with hb | hb | hb
    · exact .inl hb
    · exact .inr (.inl hb)
    · exact .inr (.inr ((hsub.map _).subset hb))
end Go.Proofs.Ytmhfpiincnadiaa
