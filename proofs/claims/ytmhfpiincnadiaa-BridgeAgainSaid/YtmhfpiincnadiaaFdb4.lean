/- fdb: add, Learn. -/
import Derived.Test.YtmhfpiincnadiaaFdb3
import Derived.Deep.RegionWith
namespace Go.Proofs.Ytmhfpiincnadiaa
open Go.RowKit
open Go.ChangeMaps (setBlock)
set_option linter.unusedSimpArgs false
set_option linter.unusedVariables false

set_option maxRecDepth 100000 in
set_option maxHeartbeats 2000000 in
/-- add, where there is room. -/
theorem add_room (p mb : Nat) (es : Array MapEntry) (clock : Nat) (room life : Int) (e : EntM) (w : World)
   (h0 : blk w p = some (.cells #[.int .i64 room, .int .u64 life, .map (some mb)] 114 (0, 0)))
   (hm : blk w mb = some (.map es clock)) (hroom : (es.size : Int) < room) (es' : Array MapEntry) (clock' : Nat)
   (hu : ∀ W : World, blk W mb = some (.map es clock) → (Instr.mapUpdate 112 (.map (some mb)) (.agg #[.int .u8 (e.mac.a0.toNat : Int), .int .u8 (e.mac.a1.toNat : Int), .int .u8 (e.mac.a2.toNat : Int), .int .u8 (e.mac.a3.toNat : Int), .int .u8 (e.mac.a4.toNat : Int), .int .u8 (e.mac.a5.toNat : Int)]) (ptr w.heap.size)).run Try.prog W = .ok () (setBlock W mb (.map es' clock'))) :
    Calls Try.prog 92 #[ptr p, .agg #[.int .u8 (e.mac.a0.toNat : Int), .int .u8 (e.mac.a1.toNat : Int), .int .u8 (e.mac.a2.toNat : Int), .int .u8 (e.mac.a3.toNat : Int), .int .u8 (e.mac.a4.toNat : Int), .int .u8 (e.mac.a5.toNat : Int), .bool e.tun, .int .i64 e.n, .int .u64 e.at_, .bool false]] w fun r w' => r = .returned (.int .i64 0) ∧ ∃ n, w' = setBlock ((w.alloc (.cells #[.int .u8 (e.mac.a0.toNat : Int), .int .u8 (e.mac.a1.toNat : Int), .int .u8 (e.mac.a2.toNat : Int), .int .u8 (e.mac.a3.toNat : Int), .int .u8 (e.mac.a4.toNat : Int), .int .u8 (e.mac.a5.toNat : Int), .bool e.tun, .int .i64 e.n, .int .u64 e.at_, .bool false] 67)).drewN n) mb (.map es' clock') := by
  have c2 : w.cell? ⟨p, 2, none⟩ = some (.map (some mb)) := by rw [cell_of h0]; rfl
  have c0 : w.cell? ⟨p, 0, none⟩ = some (.int .i64 room) := by rw [cell_of h0]; rfl
  have hg : ∀ W : World, blk W mb = some (.map es clock) → (Builtin.len_ #[112] 3 #[.map (some mb)]).run Try.prog W = .ok (.int .i64 (es.size : Int)) W := fun W h => run_len Try.underlying112 _ h
  have p0 := lt_of h0
  obtain ⟨p1, p2, p3, p4, p5⟩ := lts p0
  have q0 := lt_of hm
  obtain ⟨q1, q2, q3, q4, q5⟩ := lts q0
  go_enter Try.func92, Try.ntmps92
  go_wp2
  go_quiet (fail)
  go_wp2
  (refine region_tail 6 (by kernel_rfl) (by kernel_rfl) ?_; simp only [List.take_succ_cons, List.take_zero, List.drop_succ_cons, List.drop_zero]; (iterate 6 still_step); refine wpStill_nil ?_)
  go_wp2
  go_ret
  exact ⟨rfl, nq + 1, rfl⟩

/-- What a slice of the call's own holds, cell by cell. -/
theorem owns_cells {W : World} {base : Nat} {e : TypeId} {v : Value} {xs : List Nat} (h : W.ownsRow base e 1 v xs.length (xs.map ptr)) (h0 : 0 < xs.length) :
    ∃ g cap, v = .slice (some ⟨g, 0, none⟩) xs.length cap ∧ base ≤ g ∧ g < W.heap.size ∧ ∀ i, i < xs.length → W.cell? ⟨g, i, none⟩ = some (ptr (xs.getD i 0)) := by
  rcases h.2 with ⟨rfl, h1⟩ | ⟨g, cap, cur, rfl, hb, hg, h1, h2, h3, h4⟩
  · omega
  · refine ⟨g, cap, rfl, hb, (Array.getElem?_eq_some_iff.1 hg).1, fun i hi => ?_⟩
    have hc : blk W g = some (.cells cur e (0, 0)) := hg
    rw [cell_of hc]
    have h5 := congrArg (·[i]?) h4
    simp only [Nat.mul_one, List.getElem?_take, hi, if_true, List.getElem?_map, Array.getElem?_toList] at h5
    rw [h5]
    simp [List.getElem?_eq_getElem hi]

/-- The entry that lies in a block. -/
def entOf (L : List (EntM × Nat)) (m : EntM) (b : Nat) : EntM := ((L.find? fun x => x.2 == b).map (·.1)).getD m
theorem entOf_mem {L : List (EntM × Nat)} {m : EntM} {b : Nat} (h : b ∈ L.map (·.2)) : (entOf L m b, b) ∈ L := by
  unfold entOf
  cases hf : L.find? fun x => x.2 == b with
  | none =>
    obtain ⟨x, hx, rfl⟩ := List.mem_map.1 h
    have := List.find?_eq_none.1 hf x hx
    simp at this
  | some y =>
    have h1 := List.mem_of_find?_eq_some hf
    have h2 := List.find?_some hf
    simp only [beq_iff_eq] at h2
    subst h2
    exact h1

theorem nodup_snd {α : Type} : ∀ {L : List (α × Nat)} {a a' : α} {b : Nat}, (L.map (·.2)).Nodup → (a, b) ∈ L → (a', b) ∈ L → a = a'
  | [], _, _, _, _, h, _ => by cases h
  | x :: L, a, a', b, hn, h, h' => by
    simp only [List.map_cons, List.nodup_cons] at hn
    rcases List.mem_cons.1 h with e1 | h1 <;> rcases List.mem_cons.1 h' with e2 | h2
    · rw [← e2] at e1; exact (Prod.mk.inj e1).1
    · exact absurd (List.mem_map.2 ⟨_, h2, rfl⟩) (by rw [← e1] at hn; exact hn.1)
    · exact absurd (List.mem_map.2 ⟨_, h1, rfl⟩) (by rw [← e2] at hn; exact hn.1)
    · exact nodup_snd hn.2 h1 h2

theorem min_of (m : EntM) (bm : Nat) (L : List (EntM × Nat)) (W : World) (g cap : Nat) (xs : List Nat) (hp : xs.Perm (L.map (·.2))) (hg : g < W.heap.size)
    (hx : ∀ i, i < xs.length → W.cell? ⟨g, i, none⟩ = some (ptr (xs.getD i 0))) (hents : ∀ x ∈ L, blk W x.2 = some (.cells x.1.cells 67 (0, 0)))
    (hin : (m, bm) ∈ L) (hleast : ∀ x ∈ L, x.2 ≠ bm → m.key < x.1.key) (hlen : xs.length ≤ 1000) (hnd : (L.map (·.2)).Nodup) :
    Calls Try.prog 130 #[.slice (some ⟨g, 0, none⟩) xs.length cap, .func (.func 131) #[] #[]] W fun r w' => r = .returned (ptr bm) ∧ Mod [] W w' := by
  have hb : bm ∈ xs := hp.mem_iff.2 (List.mem_map.2 ⟨_, hin, rfl⟩)
  obtain ⟨j, hj, hjb⟩ := List.getElem_of_mem hb
  have h0 : 0 < xs.length := by omega
  have hmem : ∀ i, i < xs.length → (entOf L m (xs.getD i 0), xs.getD i 0) ∈ L := fun i hi => entOf_mem (hp.mem_iff.1 (by
    rw [List.getD_eq_getElem?_getD, List.getElem?_eq_getElem hi]; exact List.getElem_mem hi))
  have hc := min_any g xs.length cap (fun i => xs.getD i 0) (fun i => entOf L m (xs.getD i 0)) W (by omega) h0 hx (fun i hi => hents _ (hmem i hi)) hg
  refine hc.mono fun r w' h => ⟨?_, h.2⟩
  rw [h.1]
  congr 2
  generalize hk : minAt (fun i => (entOf L m (xs.getD i 0)).key) (xs.length - 1) = k
  have hkl : k < xs.length := by
    have := minAt_le (fun i => (entOf L m (xs.getD i 0)).key) (xs.length - 1)
    omega
  have hmin := minAt_min (fun i => (entOf L m (xs.getD i 0)).key) (xs.length - 1) j (by omega)
  rw [hk] at hmin
  have hjd : xs.getD j 0 = bm := by rw [List.getD_eq_getElem?_getD, List.getElem?_eq_getElem hj]; exact hjb
  have e2 := hmem k hkl
  by_cases hne : xs.getD k 0 = bm
  · exact hne
  · exfalso
    have h3 := hleast _ e2 hne
    have h4 := hmem j hj
    rw [hjd] at h4
    have h5 := nodup_snd hnd h4 hin
    simp only [hjd, h5] at hmin
    simp only at h3
    omega

set_option maxRecDepth 100000 in
set_option maxHeartbeats 600000 in
/-- add, where there is no room: the least of all goes. -/
theorem add_full (p mb : Nat) (es : Array MapEntry) (clock : Nat) (room life : Int) (e m : EntM) (bm : Nat) (L : List (EntM × Nat)) (w : World)
   (h0 : blk w p = some (.cells #[.int .i64 room, .int .u64 life, .map (some mb)] 114 (0, 0)))
   (hpm : p ≠ mb) (hm : blk w mb = some (.map es clock)) (hme : IsMap Mac.v es clock (L.map fun x => (x.1.mac, ptr x.2))) (hroom : room ≤ (es.size : Int)) (hroom1 : 1 ≤ room) (hlen : es.size ≤ 1000)
   (hL : es.size = L.length)
   (hbm : blk w bm = some (.cells #[.int .u8 (m.mac.a0.toNat : Int), .int .u8 (m.mac.a1.toNat : Int), .int .u8 (m.mac.a2.toNat : Int), .int .u8 (m.mac.a3.toNat : Int), .int .u8 (m.mac.a4.toNat : Int), .int .u8 (m.mac.a5.toNat : Int), .bool m.tun, .int .i64 m.n, .int .u64 m.at_, .bool false] 67 (0, 0)))
   (hents : ∀ x ∈ L, blk w x.2 = some (.cells x.1.cells 67 (0, 0)))
   (hleast : ∀ x ∈ L, x.2 ≠ bm → m.key < x.1.key) (hin : (m, bm) ∈ L) (hnd : (L.map (·.2)).Nodup)
   (es1 es' : Array MapEntry) (clock1 clock' : Nat)
   (hd : ∀ W : World, blk W mb = some (.map es clock) → (Builtin.delete_ #[112, 63] 0 #[.map (some mb), (.agg #[.int .u8 (m.mac.a0.toNat : Int), .int .u8 (m.mac.a1.toNat : Int), .int .u8 (m.mac.a2.toNat : Int), .int .u8 (m.mac.a3.toNat : Int), .int .u8 (m.mac.a4.toNat : Int), .int .u8 (m.mac.a5.toNat : Int)])]).run Try.prog W = .ok (.tuple #[]) (setBlock W mb (.map es1 clock1)))
   (hu : ∀ W : World, blk W mb = some (.map es1 clock1) → (Instr.mapUpdate 112 (.map (some mb)) (.agg #[.int .u8 (e.mac.a0.toNat : Int), .int .u8 (e.mac.a1.toNat : Int), .int .u8 (e.mac.a2.toNat : Int), .int .u8 (e.mac.a3.toNat : Int), .int .u8 (e.mac.a4.toNat : Int), .int .u8 (e.mac.a5.toNat : Int)]) (ptr w.heap.size)).run Try.prog W = .ok () (setBlock W mb (.map es' clock'))) :
    Calls Try.prog 92 #[ptr p, .agg #[.int .u8 (e.mac.a0.toNat : Int), .int .u8 (e.mac.a1.toNat : Int), .int .u8 (e.mac.a2.toNat : Int), .int .u8 (e.mac.a3.toNat : Int), .int .u8 (e.mac.a4.toNat : Int), .int .u8 (e.mac.a5.toNat : Int), .bool e.tun, .int .i64 e.n, .int .u64 e.at_, .bool false]] w fun r w' => r = .returned (.int .i64 0) ∧ ∃ w1, Mod [] (w.alloc (.cells #[.int .u8 (e.mac.a0.toNat : Int), .int .u8 (e.mac.a1.toNat : Int), .int .u8 (e.mac.a2.toNat : Int), .int .u8 (e.mac.a3.toNat : Int), .int .u8 (e.mac.a4.toNat : Int), .int .u8 (e.mac.a5.toNat : Int), .bool e.tun, .int .i64 e.n, .int .u64 e.at_, .bool false] 67)) w1 ∧ ∃ w2 n, Mod [] (setBlock w1 mb (.map es1 clock1)) w2 ∧ w' = setBlock (w2.drewN n) mb (.map es' clock') := by
  have c2 : w.cell? ⟨p, 2, none⟩ = some (.map (some mb)) := by rw [cell_of h0]; rfl
  have c0 : w.cell? ⟨p, 0, none⟩ = some (.int .i64 room) := by rw [cell_of h0]; rfl
  have hg : ∀ W : World, blk W mb = some (.map es clock) → (Builtin.len_ #[112] 3 #[.map (some mb)]).run Try.prog W = .ok (.int .i64 (es.size : Int)) W := fun W h => run_len Try.underlying112 _ h
  have p0 := lt_of h0
  obtain ⟨p1, p2, p3, p4, p5⟩ := lts p0
  have q0 := lt_of hm
  obtain ⟨q1, q2, q3, q4, q5⟩ := lts q0
  have HE := Lib.hid hents
  have HL := Lib.hid hleast
  have HI := Lib.hid hin
  have HN := Lib.hid hnd
  have HM := Lib.hid hme
  have HSZ := Lib.hid hL
  clear hents hleast hin hnd hme hL
  go_enter Try.func92, Try.ntmps92
  go_wp2
  go_quiet (fail)
  go_wp2_with (go_at_call 127; refine (values_any mb _).mono ?_; rintro r w' ⟨rfl, rfl⟩)
  have hx0 : blk ((w.alloc (.cells #[.int .u8 (e.mac.a0.toNat : Int), .int .u8 (e.mac.a1.toNat : Int), .int .u8 (e.mac.a2.toNat : Int), .int .u8 (e.mac.a3.toNat : Int), .int .u8 (e.mac.a4.toNat : Int), .int .u8 (e.mac.a5.toNat : Int), .bool e.tun, .int .i64 e.n, .int .u64 e.at_, .bool false] 67)).drewN nq) mb = some (.map es clock) := by rw [heap_drewN, heap_alloc_lt _ _ _ q0]; exact hm
  have hx1 := hx0
  rw [← heap_alloc_lt _ (.cells #[.map (some mb)] 112) _ (lt_of hx0)] at hx1
  refine (collect_any 145 _ (enters_of Try.func145 (by kernel_rfl) rfl) _ L.length (by have := HSZ.out; omega) _
    (values_stops _ mb es clock L _ (by go_simp) (by simp) hx1 HM.out) (fun xs hxs => by rw [hxs.length_eq]; simp)).mono ?_
  rintro r W2 ⟨v, xs, rfl, hS, hrow, hB⟩
  have hxl : xs.length = L.length := by rw [hS.length_eq]; simp
  have HXL := Lib.hid hxl
  have h0x : 0 < xs.length := by have := HSZ.out; omega
  have h1x : xs.length ≤ 1000 := by have := HSZ.out; omega
  obtain ⟨g, cap, hv, hgb, hgl, hgc⟩ := owns_cells hrow h0x
  have hM2 : Mod [] (w.alloc (.cells #[.int .u8 (e.mac.a0.toNat : Int), .int .u8 (e.mac.a1.toNat : Int), .int .u8 (e.mac.a2.toNat : Int), .int .u8 (e.mac.a3.toNat : Int), .int .u8 (e.mac.a4.toNat : Int), .int .u8 (e.mac.a5.toNat : Int), .bool e.tun, .int .i64 e.n, .int .u64 e.at_, .bool false] 67)) W2 := (((Mod.refl [] _).drewN nq).alloc _).trans (mod_of_below hB) (by simp)
  have hE2 : ∀ x ∈ L, blk W2 x.2 = some (.cells x.1.cells 67 (0, 0)) := fun x hx => hM2.keep (by rw [heap_alloc_lt _ _ _ (lt_of (HE.out x hx))]; exact HE.out x hx) (by simp)
  have hmem : ∀ i, i < xs.length → (entOf L m (xs.getD i 0), xs.getD i 0) ∈ L := fun i hi => entOf_mem (hS.mem_iff.1 (by
    rw [List.getD_eq_getElem?_getD, List.getElem?_eq_getElem hi]; exact List.getElem_mem hi))
  have hdel := Lib.hid (delete_none g xs.length cap (fun i => xs.getD i 0) W2 (by omega) hgc (fun i hi => by rw [cell_of (hE2 _ (hmem i hi))]; rfl))
  have hmin := Lib.hid (min_of m bm L W2.drew g cap xs hS hgl hgc hE2 HI.out HL.out h1x HN.out)
  have d2 : W2.cell? ⟨p, 2, none⟩ = some (.map (some mb)) := by rw [hM2.cell (by simp; omega) (by simp)]; go_simp
  have dm : blk W2 mb = some (.map es clock) := hM2.keep (by rw [heap_alloc_lt _ _ _ q0]; exact hm) (by simp)
  have b0 : W2.cell? ⟨bm, 0, none⟩ = some (.int .u8 (m.mac.a0.toNat : Int)) := by rw [cell_of (hE2 _ HI.out)]; rfl
  have b1 : W2.cell? ⟨bm, 1, none⟩ = some (.int .u8 (m.mac.a1.toNat : Int)) := by rw [cell_of (hE2 _ HI.out)]; rfl
  have b2 : W2.cell? ⟨bm, 2, none⟩ = some (.int .u8 (m.mac.a2.toNat : Int)) := by rw [cell_of (hE2 _ HI.out)]; rfl
  have b3 : W2.cell? ⟨bm, 3, none⟩ = some (.int .u8 (m.mac.a3.toNat : Int)) := by rw [cell_of (hE2 _ HI.out)]; rfl
  have b4 : W2.cell? ⟨bm, 4, none⟩ = some (.int .u8 (m.mac.a4.toNat : Int)) := by rw [cell_of (hE2 _ HI.out)]; rfl
  have b5 : W2.cell? ⟨bm, 5, none⟩ = some (.int .u8 (m.mac.a5.toNat : Int)) := by rw [cell_of (hE2 _ HI.out)]; rfl
  have bl : bm < W2.heap.size := lt_of (hE2 _ HI.out)
  have pl : p < W2.heap.size := by have := hM2.size; simp at this; omega
  have hwe : blk W2 w.heap.size = some (.cells #[.int .u8 (e.mac.a0.toNat : Int), .int .u8 (e.mac.a1.toNat : Int), .int .u8 (e.mac.a2.toNat : Int), .int .u8 (e.mac.a3.toNat : Int), .int .u8 (e.mac.a4.toNat : Int), .int .u8 (e.mac.a5.toNat : Int), .bool e.tun, .int .i64 e.n, .int .u64 e.at_, .bool false] 67 (0, 0)) := hM2.keep (heap_alloc_at _ _ _ rfl) (by simp)
  have hwl := lt_of hwe
  have hwm : w.heap.size ≠ mb := by omega
  have hne0 : ¬ (xs.length : Int) = 0 := by omega
  have hne1 : ((xs.length : Int) == 0) = false := by simpa using hne0
  rw [hv]
  clear hE2 hmem hS hrow hv hgc hB hx0 hx1 hxl HXL
  go_wp2_with (go_at_call 128; refine hdel.out.mono ?_; rintro r w' ⟨rfl, rfl⟩)
  go_region_with (go_at_call 130; refine hmin.out.mono ?_; rintro r w3 ⟨rfl, hm3⟩; have x2 : w3.cell? ⟨p, 2, none⟩ = some (.map (some mb)) := (hm3.cell pl (by simp) 2).trans d2; have xm : blk w3 mb = some (.map es clock) := hm3.keep dm (by simp); have y0 : w3.cell? ⟨bm, 0, none⟩ = some (.int .u8 (m.mac.a0.toNat : Int)) := (hm3.cell bl (by simp) 0).trans b0; have y1 : w3.cell? ⟨bm, 1, none⟩ = some (.int .u8 (m.mac.a1.toNat : Int)) := (hm3.cell bl (by simp) 1).trans b1; have y2 : w3.cell? ⟨bm, 2, none⟩ = some (.int .u8 (m.mac.a2.toNat : Int)) := (hm3.cell bl (by simp) 2).trans b2; have y3 : w3.cell? ⟨bm, 3, none⟩ = some (.int .u8 (m.mac.a3.toNat : Int)) := (hm3.cell bl (by simp) 3).trans b3; have y4 : w3.cell? ⟨bm, 4, none⟩ = some (.int .u8 (m.mac.a4.toNat : Int)) := (hm3.cell bl (by simp) 4).trans b4; have y5 : w3.cell? ⟨bm, 5, none⟩ = some (.int .u8 (m.mac.a5.toNat : Int)) := (hm3.cell bl (by simp) 5).trans b5; have hw3 : mb < w3.heap.size := lt_of xm)
  all_goals
    have z0 : w3.cell? ⟨w.heap.size, 0, none⟩ = some (.int .u8 (e.mac.a0.toNat : Int)) := by rw [hm3.cell (w := W2.drew) hwl (by simp) 0]; show W2.cell? _ = _; rw [cell_of hwe]; rfl
    have z1 : w3.cell? ⟨w.heap.size, 1, none⟩ = some (.int .u8 (e.mac.a1.toNat : Int)) := by rw [hm3.cell (w := W2.drew) hwl (by simp) 1]; show W2.cell? _ = _; rw [cell_of hwe]; rfl
    have z2 : w3.cell? ⟨w.heap.size, 2, none⟩ = some (.int .u8 (e.mac.a2.toNat : Int)) := by rw [hm3.cell (w := W2.drew) hwl (by simp) 2]; show W2.cell? _ = _; rw [cell_of hwe]; rfl
    have z3 : w3.cell? ⟨w.heap.size, 3, none⟩ = some (.int .u8 (e.mac.a3.toNat : Int)) := by rw [hm3.cell (w := W2.drew) hwl (by simp) 3]; show W2.cell? _ = _; rw [cell_of hwe]; rfl
    have z4 : w3.cell? ⟨w.heap.size, 4, none⟩ = some (.int .u8 (e.mac.a4.toNat : Int)) := by rw [hm3.cell (w := W2.drew) hwl (by simp) 4]; show W2.cell? _ = _; rw [cell_of hwe]; rfl
    have z5 : w3.cell? ⟨w.heap.size, 5, none⟩ = some (.int .u8 (e.mac.a5.toNat : Int)) := by rw [hm3.cell (w := W2.drew) hwl (by simp) 5]; show W2.cell? _ = _; rw [cell_of hwe]; rfl
    go_wp2
    (refine region_tail 6 (by kernel_rfl) (by kernel_rfl) ?_; simp only [List.take_succ_cons, List.take_zero, List.drop_succ_cons, List.drop_zero]; (iterate 6 still_step); refine wpStill_nil ?_)
    go_wp2
    go_ret
    exact ⟨rfl, w3, hM2.trans hm3.drew_l (by simp), _, 1, Mod.refl _ _, rfl⟩
end Go.Proofs.Ytmhfpiincnadiaa
