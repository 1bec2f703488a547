/- bridge: a segment's frame. -/
import Derived.Test.YtmhfpiincnadiaaBr7
import Derived.Laws.Cover3
namespace Go.Proofs.Ytmhfpiincnadiaa
open Go.RowKit
open Go.ChangeMaps (setBlock)
set_option linter.unusedSimpArgs false
set_option linter.unusedVariables false

@[go_sem] theorem cell_set_self {w : World} {b i : Nat} {v : Value} (h : (w.cell? ⟨b, i, none⟩).isSome = true) : (w.setCell ⟨b, i, none⟩ v).cell? ⟨b, i, none⟩ = some v := by
  simp only [World.cell?, World.setCell, Array.getElem?_modify] at h ⊢
  cases hb : w.heap[b]? with
  | none => simp [hb] at h
  | some o =>
    cases o <;> simp [hb] at h ⊢
    rename_i cs T fr
    simp [h]

structure OutM where
  ports : List Int
  tunnels : List Int
  flood : Bool
def zeroOut : OutM := ⟨[], [], false⟩
def macAt (d : List UInt8) (k : Nat) : Mac := ⟨d.getD k 0, d.getD (k + 1) 0, d.getD (k + 2) 0, d.getD (k + 3) 0, d.getD (k + 4) 0, d.getD (k + 5) 0⟩
/-- Where a frame goes: out, errno, and what the base is. -/
def outM (m : SegM) (tun : Bool) (n : Int) (to : Mac) (now : Int) (B : BaseM) : OutM :=
  match (if to.group then none else findM B to now) with
  | none => if tun then ⟨m.ports, [], true⟩ else ⟨withoutM n m.ports, m.peers, true⟩
  | some (t, k) => if (t == tun && k == n) || (t && tun) then zeroOut else if t then ⟨[], [k], false⟩ else ⟨[k], [], false⟩
def frameM (m : SegM) (tun : Bool) (n : Int) (d : List UInt8) (now : Int) : OutM × Int × BaseM :=
  if d.length < 14 then (zeroOut, 2, m.base) else
  if 9000 < d.length then (zeroOut, 7, m.base) else
  if (macAt d 6).group then (zeroOut, 3, m.base) else
  (outM m tun n (macAt d 0) now (learnM m.base (macAt d 6) tun n now).2.2, 0, (learnM m.base (macAt d 6) tun n now).2.2)

set_option maxRecDepth 100000 in
set_option maxHeartbeats 1000000 in
theorem frame_short (s : Nat) (tun : Bool) (n now : Int) (a : Option Addr) (len cap : Nat) (hlen : len < 14) (w : World) :
    Calls Try.prog 41 #[ptr s, .agg #[.bool tun, i64 n], .slice a len cap, .int .u64 now] w fun r w' => r = .returned (.tuple #[.agg #[.slice none 0 0, .slice none 0 0, .bool false], i64 2]) ∧ Mod [] w w' := by
  go_enter Try.func41, Try.ntmps41
  go_wp2
  refine bodyPost_ret (v := .tuple #[.agg #[.slice none 0 0, .slice none 0 0, .bool false], i64 2]) (by simp [results, Try.results41, go_sem]) rfl ⟨rfl, ?_⟩
  (repeat (first | exact Mod.refl _ _ | refine Mod.alloc ?_ _ | refine Mod.drewN ?_ _ | refine Mod.drew ?_ | refine Mod.setCell ?_ (by first | (simp; done) | (simp; omega)) _ | refine Mod.setBlock ?_ (by first | (simp; done) | (simp; omega)) _ | assumption))

set_option maxRecDepth 100000 in
set_option maxHeartbeats 1000000 in
theorem frame_big (s : Nat) (tun : Bool) (n now : Int) (a : Option Addr) (len cap : Nat) (hlen : 9000 < len) (w : World) :
    Calls Try.prog 41 #[ptr s, .agg #[.bool tun, i64 n], .slice a len cap, .int .u64 now] w fun r w' => r = .returned (.tuple #[.agg #[.slice none 0 0, .slice none 0 0, .bool false], i64 7]) ∧ Mod [] w w' := by
  go_enter Try.func41, Try.ntmps41
  go_wp2
  refine bodyPost_ret (v := .tuple #[.agg #[.slice none 0 0, .slice none 0 0, .bool false], i64 7]) (by simp [results, Try.results41, go_sem]) rfl ⟨rfl, ?_⟩
  (repeat (first | exact Mod.refl _ _ | refine Mod.alloc ?_ _ | refine Mod.drewN ?_ _ | refine Mod.drew ?_ | refine Mod.setCell ?_ (by first | (simp; done) | (simp; omega)) _ | refine Mod.setBlock ?_ (by first | (simp; done) | (simp; omega)) _ | assumption))

/-- What a frame's walk has in memory of its own: the place it came from, what goes out, the two MACs. -/
structure FMem (W : World) (pb ob tb fb : Nat) (tun : Bool) (n : Int) (to of : Mac) : Prop where
  p : blk W pb = some (.cells #[.bool tun, i64 n] 65 (0, 0))
  o : blk W ob = some (.cells #[.slice none 0 0, .slice none 0 0, .bool false] 52 (0, 0))
  t : blk W tb = some (.cells #[.int .u8 (to.a0.toNat : Int), .int .u8 (to.a1.toNat : Int), .int .u8 (to.a2.toNat : Int), .int .u8 (to.a3.toNat : Int), .int .u8 (to.a4.toNat : Int), .int .u8 (to.a5.toNat : Int)] 63 (0, 0))
  f : blk W fb = some (.cells #[.int .u8 (of.a0.toNat : Int), .int .u8 (of.a1.toNat : Int), .int .u8 (of.a2.toNat : Int), .int .u8 (of.a3.toNat : Int), .int .u8 (of.a4.toNat : Int), .int .u8 (of.a5.toNat : Int)] 63 (0, 0))
theorem FMem.mod {W W' : World} {pb ob tb fb : Nat} {tun : Bool} {n : Int} {to of : Mac} {S : List Nat} (h : FMem W pb ob tb fb tun n to of) (hm : Mod S W W') (hd : pb ∉ S ∧ ob ∉ S ∧ tb ∉ S ∧ fb ∉ S) : FMem W' pb ob tb fb tun n to of :=
  ⟨hm.keep h.p hd.1, hm.keep h.o hd.2.1, hm.keep h.t hd.2.2.1, hm.keep h.f hd.2.2.2⟩

/-- The twelve bytes ahead. -/
structure Head (w : World) (bb off : Nat) (to of : Mac) : Prop where
  lt : bb < w.heap.size
  c0 : w.cell? ⟨bb, off, none⟩ = some (.int .u8 (to.a0.toNat : Int))
  c1 : w.cell? ⟨bb, off + 1, none⟩ = some (.int .u8 (to.a1.toNat : Int))
  c2 : w.cell? ⟨bb, off + 2, none⟩ = some (.int .u8 (to.a2.toNat : Int))
  c3 : w.cell? ⟨bb, off + 3, none⟩ = some (.int .u8 (to.a3.toNat : Int))
  c4 : w.cell? ⟨bb, off + 4, none⟩ = some (.int .u8 (to.a4.toNat : Int))
  c5 : w.cell? ⟨bb, off + 5, none⟩ = some (.int .u8 (to.a5.toNat : Int))
  c6 : w.cell? ⟨bb, off + 6, none⟩ = some (.int .u8 (of.a0.toNat : Int))
  c7 : w.cell? ⟨bb, off + 7, none⟩ = some (.int .u8 (of.a1.toNat : Int))
  c8 : w.cell? ⟨bb, off + 8, none⟩ = some (.int .u8 (of.a2.toNat : Int))
  c9 : w.cell? ⟨bb, off + 9, none⟩ = some (.int .u8 (of.a3.toNat : Int))
  c10 : w.cell? ⟨bb, off + 10, none⟩ = some (.int .u8 (of.a4.toNat : Int))
  c11 : w.cell? ⟨bb, off + 11, none⟩ = some (.int .u8 (of.a5.toNat : Int))

set_option maxRecDepth 100000 in
set_option maxHeartbeats 2000000 in
theorem frame_grp (s : Nat) (tun : Bool) (n now : Int) (bb off len cap : Nat) (hlen : 14 ≤ len) (hlen2 : len ≤ 9000) (hcap : len ≤ cap) (to of : Mac) (w : World) (hh : Head w bb off to of) (hg : of.group = true) :
    Calls Try.prog 41 #[ptr s, .agg #[.bool tun, i64 n], .slice (some ⟨bb, off, none⟩) len cap, .int .u64 now] w fun r w' => r = .returned (.tuple #[.agg #[.slice none 0 0, .slice none 0 0, .bool false], i64 3]) ∧ Mod [] w w' := by
  obtain ⟨hbb, c0, c1, c2, c3, c4, c5, c6, c7, c8, c9, c10, c11⟩ := hh
  obtain ⟨l1, l2, l3, l4, l5⟩ := lts hbb
  have ha : ∀ W o l c, 6 ≤ l → (Instr.arrayAt 63 (.slice (some ⟨bb, o, none⟩) l c)).run Try.prog W = .ok (.pointer (some ⟨bb, o, none⟩)) W := fun W o l c hl => run_arrayAt W 63 _ 6 _ l c Try.underlying63 hl
  have ha1 := fun W => ha W off len cap (by omega)
  have ha2 := fun W => ha W (off + 6) (len - 6) (cap - 6) (by omega)
  have HG := fun W => Lib.hid (group_any of W)
  rw [hg] at HG
  clear hg ha
  go_enter Try.func41, Try.ntmps41
  go_wp2
  go_region
  all_goals
    go_wp2_with (go_at_call 61; refine (HG _).out.mono ?_; rintro r w1 ⟨rfl, hm1⟩; have hO : blk w1 (w.heap.size + 1) = some (.cells #[.slice none 0 0, .slice none 0 0, .bool false] 52 (0, 0)) := hm1.keep (by go_simp) (by simp); obtain ⟨o0, o1, o2⟩ := cells_3 hO; have fz0 := free_of hO 0; have fz1 := free_of hO 1; have fz2 := free_of hO 2; have ol := lt_of hO; clear hO)
    refine bodyPost_ret (v := .tuple #[.agg #[.slice none 0 0, .slice none 0 0, .bool false], i64 3]) (by simp [results, Try.results41, go_sem, o0, o1, o2]) rfl ⟨rfl, ?_⟩
    refine Mod.trans (S' := [w.heap.size + 1]) ?_ (Mod.setCell (Mod.setCell (Mod.setCell (Mod.refl _ w1) (.inl (by simp)) _) (.inl (by simp)) _) (.inl (by simp)) _) (by simp)
    refine Mod.trans ?_ hm1 (by simp)
    (repeat (first | exact Mod.refl _ _ | refine Mod.alloc ?_ _ | refine Mod.drewN ?_ _ | refine Mod.drew ?_ | refine Mod.setCell ?_ (by first | (simp; done) | (simp; omega)) _ | refine Mod.setBlock ?_ (by first | (simp; done) | (simp; omega)) _ | assumption))
end Go.Proofs.Ytmhfpiincnadiaa
