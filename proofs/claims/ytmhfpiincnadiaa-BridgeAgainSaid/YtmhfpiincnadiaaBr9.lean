/- bridge: a segment's frame, that goes on. -/
import Derived.Test.YtmhfpiincnadiaaBr8
import Derived.Deep.Cut
import Derived.Deep.RegionHeld3
import Derived.Deep.DrawnRows
namespace Go.Proofs.Ytmhfpiincnadiaa
open Go.RowKit
open Go.ChangeMaps (setBlock)
set_option linter.unusedSimpArgs false
set_option linter.unusedVariables false

/-- What a frame leads to. -/
def FrameRes (x : SegR) (O : OutM) (e : Int) (B' : BaseM) (w : World) (r : Ending) (w' : World) : Prop :=
  ∃ pv qv x', r = .returned (.tuple #[.agg #[pv, qv, .bool O.flood], i64 e]) ∧ Ints w' w.heap.size pv O.ports ∧ Ints w' w.heap.size qv O.tunnels ∧ x'.s = x.s ∧ x'.m = ⟨B', x.m.ports, x.m.peers⟩ ∧
    SegIs w' x' ∧ Mod x.F w w' ∧ (∀ b, b ∈ x'.foot → b ∈ x.foot ∨ w.heap.size ≤ b) ∧ ∀ b, (pv.ownBlock = some b ∨ qv.ownBlock = some b) → b ∉ x'.foot

def findV (o : Option (Bool × Int)) : Value := match o with | some (t, n) => .agg #[.bool t, .int .i64 n] | none => .agg #[.bool false, .int .i64 0]
theorem find_to {w : World} {p : Nat} {F : List Nat} {B : BaseM} (h : BaseAt w p F B) (m : Mac) (now : Int) (hn0 : 0 ≤ now) (hn1 : now ≤ 18446744073709551615) (pt : Bool) (pk : Int) (fs : Bool) (hv : findV (findM B m now) = .agg #[.bool pt, i64 pk]) (hs : (findM B m now).isSome = fs) :
    Calls Try.prog 63 #[ptr p, m.v, .int .u64 now] w fun r w' => r = .returned (.tuple #[.agg #[.bool pt, i64 pk], .bool fs]) ∧ Mod [] w w' := by
  rw [← hv, ← hs]
  exact find_any h m now hn0 hn1

theorem place_new {W w3 : World} {n : Nat} (hn : n = W.heap.size) (hm : Mod [] (W.alloc (.cells #[.bool false, i64 0] 65)).drew w3) :
    w3.cell? ⟨n, 0, none⟩ = some (.bool false) ∧ w3.cell? ⟨n, 1, none⟩ = some (i64 0) ∧ w3.frozen? ⟨n, 0, none⟩ = false ∧ w3.frozen? ⟨n, 1, none⟩ = false ∧ n < w3.heap.size ∧ blk w3 n = some (.cells #[.bool false, i64 0] 65 (0, 0)) := by
  have h := (hm.drew_l).keep (heap_alloc_at W (.cells #[.bool false, i64 0] 65) n hn) (by simp)
  exact ⟨(cells_2 h).1, (cells_2 h).2, free_of h _, free_of h _, lt_of h, h⟩

theorem fmem_1 {w w1 : World} {tun : Bool} {n : Int} {to of : Mac} (hm : Mod [] ((((w.alloc (.cells #[.bool tun, i64 n] 65)).alloc (.cells #[.slice none 0 0, .slice none 0 0, .bool false] 52)).alloc (.cells #[.int .u8 (to.a0.toNat : Int), .int .u8 (to.a1.toNat : Int), .int .u8 (to.a2.toNat : Int), .int .u8 (to.a3.toNat : Int), .int .u8 (to.a4.toNat : Int), .int .u8 (to.a5.toNat : Int)] 63)).alloc (.cells #[.int .u8 (of.a0.toNat : Int), .int .u8 (of.a1.toNat : Int), .int .u8 (of.a2.toNat : Int), .int .u8 (of.a3.toNat : Int), .int .u8 (of.a4.toNat : Int), .int .u8 (of.a5.toNat : Int)] 63)).drew w1) :
    FMem w1 w.heap.size (w.heap.size + 1) (w.heap.size + 1 + 1) (w.heap.size + 1 + 1 + 1) tun n to of :=
  ⟨hm.keep (by go_simp) (by simp), hm.keep (by go_simp) (by simp), hm.keep (by go_simp) (by simp), hm.keep (by go_simp) (by simp)⟩
theorem fmem_2 {w w1 : World} {tun : Bool} {n : Int} {to of : Mac} (hm : Mod [] ((((w.alloc (.cells #[.bool tun, i64 n] 65)).alloc (.cells #[.slice none 0 0, .slice none 0 0, .bool false] 52)).alloc (.cells #[.int .u8 (of.a0.toNat : Int), .int .u8 (of.a1.toNat : Int), .int .u8 (of.a2.toNat : Int), .int .u8 (of.a3.toNat : Int), .int .u8 (of.a4.toNat : Int), .int .u8 (of.a5.toNat : Int)] 63)).alloc (.cells #[.int .u8 (to.a0.toNat : Int), .int .u8 (to.a1.toNat : Int), .int .u8 (to.a2.toNat : Int), .int .u8 (to.a3.toNat : Int), .int .u8 (to.a4.toNat : Int), .int .u8 (to.a5.toNat : Int)] 63)).drew w1) :
    FMem w1 w.heap.size (w.heap.size + 1) (w.heap.size + 1 + 1 + 1) (w.heap.size + 1 + 1) tun n to of :=
  ⟨hm.keep (by go_simp) (by simp), hm.keep (by go_simp) (by simp), hm.keep (by go_simp) (by simp), hm.keep (by go_simp) (by simp)⟩

/-- The end of a frame's walk: what lies in the segment behind Learn, and a world that parts from it in what is new. -/
theorem FrameRes.mk {x : SegR} {O : OutM} {e : Int} {B' : BaseM} {w wd we : World} {F2 : List Nat} {ob n1 : Nat} {pv qv : Value}
    (hS : SegIs wd { x with F := F2, m := { x.m with base := B' } }) (hft : ∀ b, b ∈ ({ x with F := F2, m := { x.m with base := B' } } : SegR).foot → b ∈ x.foot ∨ n1 ≤ b)
    (hx : ∀ b, b ∈ x.foot → b < w.heap.size) (hwd : Mod x.F w wd) (hob : w.heap.size ≤ ob) (h1 : ob < n1) (hm : Mod [ob] wd we)
    (hp : Ints we wd.heap.size pv O.ports) (hq : Ints we wd.heap.size qv O.tunnels) :
    FrameRes x O e B' w (.returned (.tuple #[.agg #[pv, qv, .bool O.flood], i64 e])) we := by
  refine ⟨pv, qv, { x with F := F2, m := { x.m with base := B' } }, rfl, hp.later hwd.size, hq.later hwd.size, rfl, rfl, hS.keep (fun b hb => hm.block b (hS.lt b hb) ?_), hwd.trans hm (fun k hk => ?_), fun b hb => ?_, fun b hb hb2 => ?_⟩
  · intro hb2
    simp only [List.mem_singleton] at hb2
    subst hb2
    rcases hft b hb with h | h
    · have := hx b h; omega
    · omega
  · simp only [List.mem_singleton] at hk
    subst hk
    exact .inr hob
  · rcases hft b hb with h | h
    · exact .inl h
    · exact .inr (by omega)
  · have h2 := hS.lt b hb2
    rcases hb with hb | hb
    · have := (hp.lt b hb).1; omega
    · have := (hq.lt b hb).1; omega
theorem cell_set_ne {w : World} {b i b' i' : Nat} {v x : Value} (h : w.cell? ⟨b, i, none⟩ = some x) (hne : b ≠ b') : (w.setCell ⟨b', i', none⟩ v).cell? ⟨b, i, none⟩ = some x := by
  have h2 := heap_setCell_ne w ⟨b', i', none⟩ v b hne
  unfold blk at h2
  exact (World.cell?_of_block (w := w) (a := ⟨b, i, none⟩) h2).trans h
theorem ints_nil' (w : World) (B : Nat) : Ints w B (.slice none 0 0) [] := Ints.nil w B
theorem ints_one {w : World} {B g : Nat} {k : Int} (hB : B ≤ g) (h : blk w g = some (.cells #[i64 k] 3 (0, 0))) : Ints w B (.slice (some ⟨g, 0, none⟩) 1 1) [k] :=
  Ints.mk (L := [k]) hB h (by simp) (by unfold maxLen; simp) rfl rfl

set_option maxRecDepth 100000 in
set_option maxHeartbeats 4000000 in
theorem frame_go (x : SegR) (tun : Bool) (n now : Int) (bb off len cap : Nat) (hlen : 14 ≤ len) (hlen2 : len ≤ 9000) (hcap : len ≤ cap) (to of : Mac) (w : World) (hh : Head w bb off to of) (hx : SegIs w x) (hg : of.group = false)
    (hok : EntM.ok ⟨of, tun, n, now⟩) (hpl : x.m.ports.length ≤ 100) (hql : x.m.peers.length ≤ 100) :
    Calls Try.prog 41 #[ptr x.s, .agg #[.bool tun, i64 n], .slice (some ⟨bb, off, none⟩) len cap, .int .u64 now] w fun r w' => FrameRes x (outM x.m tun n to now (learnM x.m.base of tun n now).2.2) 0 (learnM x.m.base of tun n now).2.2 w r w' := by
  obtain ⟨hbb, c0, c1, c2, c3, c4, c5, c6, c7, c8, c9, c10, c11⟩ := hh
  obtain ⟨l1, l2, l3, l4, l5⟩ := lts hbb
  have ha : ∀ W o l c, 6 ≤ l → (Instr.arrayAt 63 (.slice (some ⟨bb, o, none⟩) l c)).run Try.prog W = .ok (.pointer (some ⟨bb, o, none⟩)) W := fun W o l c hl => run_arrayAt W 63 _ 6 _ l c Try.underlying63 hl
  have ha1 := fun W => ha W off len cap (by omega)
  have ha2 := fun W => ha W (off + 6) (len - 6) (cap - 6) (by omega)
  have HG := fun W => Lib.hid (group_any of W)
  rw [hg] at HG
  have HGT := fun W => Lib.hid (group_any to W)
  have hsl := lt_of hx.seg
  have HX := Lib.hid hx
  obtain ⟨B', hB'⟩ : ∃ B', B' = (learnM x.m.base of tun n now).2.2 := ⟨_, rfl⟩
  rw [← hB']
  clear hg ha hx
  go_enter Try.func41, Try.ntmps41
  go_wp2
  go_cut [10, 11] from 15 (fun s10 s11 wc => ∃ tb fb : Nat, s10 = ptr tb ∧ s11 = ptr fb ∧ w.heap.size ≤ tb ∧ w.heap.size ≤ fb ∧ FMem wc w.heap.size (w.heap.size + 1) tb fb tun n to of ∧ Mod [] w wc)
  case first =>
    go_region
    all_goals
      go_wp2
      go_meet
      case rel =>
        first
          | exact ⟨_, _, rfl, rfl, by omega, by omega, fmem_1 (to := to) (of := of) (Mod.refl [] _), by (repeat (first | exact Mod.refl _ _ | refine Mod.alloc ?_ _ | refine Mod.drewN ?_ _ | refine Mod.drew ?_ | refine Mod.setCell ?_ (by first | (simp; done) | (simp; omega)) _ | refine Mod.setBlock ?_ (by first | (simp; done) | (simp; omega)) _ | assumption))⟩
          | exact ⟨_, _, rfl, rfl, by omega, by omega, fmem_2 (to := to) (of := of) (Mod.refl [] _), by (repeat (first | exact Mod.refl _ _ | refine Mod.alloc ?_ _ | refine Mod.drewN ?_ _ | refine Mod.drew ?_ | refine Mod.setCell ?_ (by first | (simp; done) | (simp; omega)) _ | refine Mod.setBlock ?_ (by first | (simp; done) | (simp; omega)) _ | assumption))⟩
  case rest =>
    clear c0 c1 c2 c3 c4 c5 c6 c7 c8 c9 c10 c11 l1 l2 l3 l4 l5 ha1 ha2
    obtain ⟨tb, fb, rfl, rfl, htb, hfb, hF, hw⟩ := hcut
    have HS0 := Lib.hid (HX.out.keep (w' := wc) (fun b hb => hw.block b (HX.out.lt b hb) (by simp)))
    have HF0 := Lib.hid hF
    obtain ⟨f0, f1, f2, f3, f4, f5⟩ := cells_6 hF.f
    clear hF
    go_wp2_with (go_at_call 61; refine (HG _).out.mono ?_; rintro r w1 ⟨rfl, hm1⟩)
    have hw1 : Mod [] w w1 := hw.trans hm1 (by simp)
    have HS1 := Lib.hid (HS0.out.keep (w' := w1) (fun b hb => hm1.block b (HS0.out.lt b hb) (by simp)))
    have HF1 := Lib.hid (HF0.out.mod hm1 (by simp))
    clear f0 f1 f2 f3 f4 f5 HS0 HF0 hm1
    obtain ⟨p0, p1⟩ := cells_2 HF1.out.p
    obtain ⟨f0, f1, f2, f3, f4, f5⟩ := cells_6 HF1.out.f
    obtain ⟨s0, s1, s2⟩ := cells_3 HS1.out.seg
    (refine region_tail 7 (by kernel_rfl) (by kernel_rfl) ?_; simp only [List.take_succ_cons, List.take_zero, List.drop_succ_cons, List.drop_zero]; (iterate 7 still_step); refine wpStill_nil ?_)
    go_wp2_with (go_at_call 62; refine (learn_any (HS1.out.base.keep (w' := w1.drew) (fun _ _ => rfl)) of tun n now hok).mono ?_; rintro r w2 ⟨rfl, F2, hB2, hm2, hF2⟩)
    have hfr : ∀ b, w.heap.size ≤ b → b ∉ x.F := fun b hb e => by have := HX.out.base.lt b e; omega
    have HF2 := Lib.hid (HF1.out.mod hm2.drew_l ⟨hfr _ (Nat.le_refl _), hfr _ (by omega), hfr _ htb, hfr _ hfb⟩)
    obtain ⟨hS2, hft2⟩ := (HS1.out.keep (w' := w1.drew) (fun _ _ => rfl)).rebase hm2 hB2 hF2
    rw [← hB'] at hS2 hft2
    have HS2 := Lib.hid hS2
    have HFT := Lib.hid hft2
    have hw2 : Mod x.F w w2 := hw1.nil.trans hm2.drew_l (fun b hb => .inl hb)
    clear hS2 hft2 p0 p1 f0 f1 f2 f3 f4 f5 s0 s1 s2 hB2 hF2
    obtain ⟨pt, pk, hfv⟩ : ∃ pt pk, findV (findM B' to now) = .agg #[.bool pt, i64 pk] := by
      cases findM B' to now with
      | none => exact ⟨_, _, rfl⟩
      | some y => exact ⟨y.1, y.2, rfl⟩
    obtain ⟨fs, hfs⟩ : ∃ fs, (findM B' to now).isSome = fs := ⟨_, rfl⟩
    have HFV := Lib.hid hfv
    have HFS := Lib.hid hfs
    have hfd2 : ∀ W : World, Mod [] w2 W → Calls Try.prog 63 #[ptr x.p, to.v, .int .u64 now] W fun r w' => r = .returned (.tuple #[.agg #[.bool pt, i64 pk], .bool fs]) ∧ Mod [] W w' := fun W hW =>
      find_to (HS2.out.base.mod hW (by simp)) to now hok.2.2.1 hok.2.2.2 pt pk fs HFV.out HFS.out
    have HFD := Lib.hid hfd2
    clear hfd2 hfv hfs
    have hs2 : w.heap.size ≤ w2.heap.size := hw2.size
    go_wp2
    go_cut [12, 13] from 15 (fun s12 s13 wd => ∃ nb : Nat, s12 = ptr nb ∧ s13 = .bool fs ∧ w.heap.size ≤ nb ∧ blk wd nb = some (.cells #[.bool pt, i64 pk] 65 (0, 0)) ∧ Mod [] w2 wd)
    case first =>
      obtain ⟨t0, t1, t2, t3, t4, t5⟩ := cells_6 HF2.out.t
      obtain ⟨v0, v1, v2⟩ := cells_3 HS2.out.seg
      have tl0 := lt_of HF2.out.t
      obtain ⟨tl1, tl2, tl3, tl4, tl5⟩ := lts tl0
      have sl0 := lt_of HS2.out.seg
      obtain ⟨sl1, sl2, sl3, sl4, sl5⟩ := lts sl0
      go_region_with (go_at_call 63; refine (HFD.out _ (by (repeat (first | exact Mod.refl _ _ | refine Mod.alloc ?_ _ | refine Mod.drewN ?_ _ | refine Mod.drew ?_ | refine Mod.setCell ?_ (by first | (simp; done) | (simp; omega)) _ | refine Mod.setBlock ?_ (by first | (simp; done) | (simp; omega)) _ | assumption)))).mono ?_; rintro r w3 ⟨rfl, hm3⟩; (first | (have hpn := place_new (W := w2) rfl hm3; obtain ⟨n0, n1, g0, g1, nl, hN⟩ := hpn; have HN := Lib.hid hN; clear hN) | skip))
      all_goals
        go_wp2
        go_meet
        case rel =>
          first
            | exact ⟨_, rfl, rfl, Nat.le_trans hs2 hm3.size, heap_alloc_at _ _ _ rfl, (hm3.drew_l).alloc _⟩
            | exact ⟨_, rfl, rfl, hs2, heap_setCell_eq _ _ 1 _ (heap_setCell_eq _ _ 0 _ HN.out), (((((Mod.refl [] w2).alloc _).drew).trans hm3 (by simp)).setCell (.inr (Nat.le_refl _)) _).setCell (.inr (Nat.le_refl _)) _⟩
    case rest =>
      obtain ⟨nb, rfl, rfl, hnb, hN, hmd⟩ := hcut
      have HSd := Lib.hid (HS2.out.keep (w' := wc) (fun b hb => hmd.block b (HS2.out.lt b hb) (by simp)))
      have HFd := Lib.hid (HF2.out.mod hmd (by simp))
      have hwd : Mod x.F w wc := hw2.trans hmd (by simp)
      have HND := Lib.hid hN
      have hxl := HX.out.lt
      have HXL := Lib.hid hxl
      have hpe := fun W => place_eq W pt tun pk n
      have hpg := place_guard
      clear HFD hN HS2 HF2 hmd hxl
      obtain ⟨p0, p1⟩ := cells_2 HFd.out.p
      obtain ⟨o0, o1, o2⟩ := cells_3 HFd.out.o
      obtain ⟨t0, t1, t2, t3, t4, t5⟩ := cells_6 HFd.out.t
      obtain ⟨n0, n1⟩ := cells_2 HND.out
      have g0 := free_of HFd.out.o 0
      have g1 := free_of HFd.out.o 1
      have g2 := free_of HFd.out.o 2
      have hob : w.heap.size + 1 < w1.drew.heap.size := lt_of HF1.out.o
      have hcase : to.group = true ∨ (to.group = false ∧ fs = false) ∨ (to.group = false ∧ fs = true) := by cases to.group <;> cases fs <;> simp
      rcases hcase with hgt | ⟨hgt, rfl⟩ | ⟨hgt, rfl⟩
      rotate_left 2
      · have hout : outM x.m tun n to now B' = if (pt == tun && pk == n) || (pt && tun) then zeroOut else if pt then ⟨[], [pk], false⟩ else ⟨[pk], [], false⟩ := by
          unfold outM
          rw [hgt]
          have h1 := HFS.out
          have h2 := HFV.out
          cases hf : findM B' to now with
          | none => rw [hf] at h1; cases h1
          | some y =>
            rw [hf] at h2
            simp only [findV, Value.agg.injEq, Array.mk.injEq, List.cons.injEq, Value.bool.injEq, Value.int.injEq, true_and, and_true] at h2
            obtain ⟨h3, h4⟩ := h2
            obtain ⟨y1, y2⟩ := y
            simp only at h3 h4
            subst h3 h4
            rfl
        obtain ⟨b1, hb1⟩ : ∃ b1, (pt == tun && pk == n) = b1 := ⟨_, rfl⟩
        rw [hb1] at hpe hout
        have HO := Lib.hid hout
        clear hout hb1
        rw [hgt] at HGT
        clear hgt HFV HFS
        cases b1 <;> cases pt <;> cases tun
        all_goals
          go_wp2_with (go_at_call 61; refine (HGT _).out.mono ?_; rintro r w3 ⟨rfl, hm3⟩; have hF3 := HFd.out.mod hm3 (by simp); have HN3 := Lib.hid (hm3.keep HND.out (by simp)); have HF3 := Lib.hid hF3; obtain ⟨p0', p1'⟩ := cells_2 hF3.p; obtain ⟨o0', o1', o2'⟩ := cells_3 hF3.o; obtain ⟨n0', n1'⟩ := cells_2 HN3.out; have g0' := free_of hF3.o 0; have g1' := free_of hF3.o 1; have g2' := free_of hF3.o 2; have ol := lt_of hF3.o; clear hF3)
          rw [HO.out]
          have hm3' : Mod [w.heap.size + 1] wc w3 := hm3.nil
          have hsz3 : wc.heap.size ≤ w3.heap.size := hm3.size
        iterate 2 focus
          refine bodyPost_ret (v := .tuple #[.agg #[.slice (some ⟨w3.heap.size, 0, none⟩) 1 1, .slice none 0 0, .bool false], i64 0]) ?_ rfl ?_
          · simp [results, Try.results41, go_sem, o0', o1', o2', ol, size_setCell, cell_set_self]
          · refine FrameRes.mk (O := ⟨[pk], [], false⟩) HSd.out HFT.out HXL.out hwd (Nat.le_succ _) hob ?_ (ints_one hsz3 (heap_alloc_at _ _ _ (by go_simp))) (Ints.nil _ _)
            (repeat (first | exact Mod.refl _ _ | refine Mod.alloc ?_ _ | refine Mod.drewN ?_ _ | refine Mod.drew ?_ | refine Mod.setCell ?_ (by first | (simp; done) | (simp; omega)) _ | refine Mod.setBlock ?_ (by first | (simp; done) | (simp; omega)) _ | assumption))
        focus
          refine bodyPost_ret (v := .tuple #[.agg #[.slice none 0 0, .slice (some ⟨w3.heap.size, 0, none⟩) 1 1, .bool false], i64 0]) ?_ rfl ?_
          · simp [results, Try.results41, go_sem, o0', o1', o2', ol, size_setCell, cell_set_self]
          · refine FrameRes.mk (O := ⟨[], [pk], false⟩) HSd.out HFT.out HXL.out hwd (Nat.le_succ _) hob ?_ (Ints.nil _ _) (ints_one hsz3 (heap_alloc_at _ _ _ (by go_simp)))
            (repeat (first | exact Mod.refl _ _ | refine Mod.alloc ?_ _ | refine Mod.drewN ?_ _ | refine Mod.drew ?_ | refine Mod.setCell ?_ (by first | (simp; done) | (simp; omega)) _ | refine Mod.setBlock ?_ (by first | (simp; done) | (simp; omega)) _ | assumption))
        all_goals
          refine bodyPost_ret (v := .tuple #[.agg #[.slice none 0 0, .slice none 0 0, .bool false], i64 0]) ?_ rfl ?_
          · simp [results, Try.results41, go_sem, o0', o1', o2', ol, size_setCell, cell_set_self]
          · refine FrameRes.mk (O := zeroOut) HSd.out HFT.out HXL.out hwd (Nat.le_succ _) hob ?_ (Ints.nil _ _) (Ints.nil _ _)
            (repeat (first | exact Mod.refl _ _ | refine Mod.alloc ?_ _ | refine Mod.drewN ?_ _ | refine Mod.drew ?_ | refine Mod.setCell ?_ (by first | (simp; done) | (simp; omega)) _ | refine Mod.setBlock ?_ (by first | (simp; done) | (simp; omega)) _ | assumption))
      all_goals
        have hout : outM x.m tun n to now B' = if tun then ⟨x.m.ports, [], true⟩ else ⟨withoutM n x.m.ports, x.m.peers, true⟩ := by
          unfold outM
          rw [hgt]
          have h1 := HFS.out
          first
            | rfl
            | (cases hf : findM B' to now with
               | none => rfl
               | some y => rw [hf] at h1; cases h1)
        have HO := Lib.hid hout
        clear hout hpe
        rw [hgt] at HGT
        clear hgt HFV HFS
        go_upto_region 11 with (go_at_call 61; refine (HGT _).out.mono ?_; rintro r w3 ⟨rfl, hm3⟩)
        have hF3 := HFd.out.mod hm3 (by simp)
        have HF3 := Lib.hid hF3
        have HS3 := Lib.hid (HSd.out.keep (w' := w3) (fun b hb => hm3.block b (HSd.out.lt b hb) (by simp)))
        have hw3 : Mod x.F w w3 := hwd.trans hm3 (by simp)
        clear p0 p1 o0 o1 o2 t0 t1 t2 t3 t4 t5 n0 n1 g0 g1 g2 HFd HND
        obtain ⟨p0, p1⟩ := cells_2 hF3.p
        obtain ⟨o0, o1, o2⟩ := cells_3 hF3.o
        obtain ⟨s0, s1, s2⟩ := cells_3 HS3.out.seg
        have g0 := free_of hF3.o 0
        have g1 := free_of hF3.o 1
        have g2 := free_of hF3.o 2
        have sl := lt_of HS3.out.seg
        have pl := lt_of hF3.p
        have ol := lt_of hF3.o
        clear hF3
        have HC := Lib.hid (clone_any HS3.out.ports (by show x.m.ports.length ≤ 1000; omega))
      all_goals
        cases tun
        rotate_left 1
        · go_wp2_with (go_at_call 45; refine HC.out.mono ?_; rintro r w4 ⟨v4, rfl, hv4, hm4⟩; obtain ⟨av, nv, cv, rfl⟩ := hv4.form; have HV4 := Lib.hid hv4; clear hv4; have q0 : w4.cell? ⟨w.heap.size, 0, none⟩ = some (.bool true) := (hm4.cell pl (by simp) 0).trans p0; have q1 : w4.cell? ⟨w.heap.size, 1, none⟩ = some (i64 n) := (hm4.cell pl (by simp) 1).trans p1; have q2 : w4.cell? ⟨w.heap.size + 1, 0, none⟩ = some (.slice none 0 0) := (hm4.cell ol (by simp) 0).trans o0; have q3 : w4.cell? ⟨w.heap.size + 1, 1, none⟩ = some (.slice none 0 0) := (hm4.cell ol (by simp) 1).trans o1; have q4 : w4.cell? ⟨w.heap.size + 1, 2, none⟩ = some (.bool false) := (hm4.cell ol (by simp) 2).trans o2; have f0 : w4.frozen? ⟨w.heap.size + 1, 0, none⟩ = false := (hm4.free ol (by simp) 0).trans g0; have f1 : w4.frozen? ⟨w.heap.size + 1, 1, none⟩ = false := (hm4.free ol (by simp) 1).trans g1; have f2 : w4.frozen? ⟨w.heap.size + 1, 2, none⟩ = false := (hm4.free ol (by simp) 2).trans g2; have pl4 := Nat.lt_of_lt_of_le pl hm4.size; have ol4 := Nat.lt_of_lt_of_le ol hm4.size)
          have hO := HO.out
          simp only [if_true, Bool.false_eq_true, if_false] at hO
          rw [hO]
          have hm4' : Mod [w.heap.size + 1] wc w4 := (hm3.nil).trans hm4 (by simp)
          have hsz4 : wc.heap.size ≤ w3.heap.size := hm3.size
          have hww := hw3.size
          refine bodyPost_ret (v := .tuple #[.agg #[.slice av nv cv, .slice none 0 0, .bool true], i64 0]) ?_ rfl ?_
          · simp [results, Try.results41, go_sem, q2, q3, q4, ol4, size_setCell, cell_set_self]
          · refine FrameRes.mk (O := ⟨x.m.ports, [], true⟩) HSd.out HFT.out HXL.out hwd (Nat.le_succ _) hob ?_ ((HV4.out.later hsz4).keep (fun b hb => ?_)) (Ints.nil _ _)
            · (repeat (first | exact Mod.refl _ _ | refine Mod.alloc ?_ _ | refine Mod.drewN ?_ _ | refine Mod.drew ?_ | refine Mod.setCell ?_ (by first | (simp; done) | (simp; omega)) _ | refine Mod.setBlock ?_ (by first | (simp; done) | (simp; omega)) _ | assumption))
            · have h1 := HV4.out.lt b hb
              have h2 : b ≠ w.heap.size + 1 := by omega
              simp [go_sem, h1.2, h2]
        · go_upto_region 13 with (go_at_call 45; refine HC.out.mono ?_; rintro r w4 ⟨v4, rfl, hv4, hm4⟩; obtain ⟨av, nv, cv, rfl⟩ := hv4.form; clear hv4; have q0 : w4.cell? ⟨w.heap.size, 0, none⟩ = some (.bool false) := (hm4.cell pl (by simp) 0).trans p0; have pl4 := Nat.lt_of_lt_of_le pl hm4.size)
          have hs4 := hm4.size
          have hm5 : Mod [] w3 (w4.alloc (.cells #[.slice av nv cv, .slice none 0 0, .bool true] 52)) := hm4.alloc _
          have ho5 : blk (w4.alloc (.cells #[.slice av nv cv, .slice none 0 0, .bool true] 52)) w4.heap.size = some (.cells #[.slice av nv cv, .slice none 0 0, .bool true] 52 (0, 0)) := heap_alloc_at _ _ _ rfl
          generalize w4.alloc (.cells #[.slice av nv cv, .slice none 0 0, .bool true] 52) = w5 at hm5 ho5 ⊢
          have HS5 := Lib.hid (HS3.out.keep (w' := w5) (fun b hb => hm5.block b (HS3.out.lt b hb) (by simp)))
          have HF5 := Lib.hid (HF3.out.mod hm5 (by simp))
          have hw5 : Mod x.F w w5 := hw3.trans hm5 (by simp)
          have hmd5 : Mod [] wc w5 := hm3.trans hm5 (by simp)
          have hob5 : w.heap.size + 1 < w4.heap.size := Nat.lt_of_lt_of_le ol hs4
          have hsz4 : wc.heap.size ≤ w4.heap.size := Nat.le_trans hm3.size hs4
          clear p0 p1 o0 o1 o2 s0 s1 s2 g0 g1 g2 q0 pl4 HS3 HF3 hw3 hm5 hm4 hm3
          obtain ⟨p0, p1⟩ := cells_2 HF5.out.p
          obtain ⟨s0, s1, s2⟩ := cells_3 HS5.out.seg
          have sl5 := lt_of HS5.out.seg
          have pl5 := lt_of HF5.out.p
          have ol5 := lt_of HF5.out.o
          have nl5 := lt_of ho5
          have HO5 := Lib.hid ho5
          clear ho5
          have hne1 : x.s ≠ w4.heap.size := by omega
          have hne2 : w.heap.size ≠ w4.heap.size := by omega
          have hne3 : w.heap.size + 1 ≠ w4.heap.size := by omega
          have HW := Lib.hid (without_any (w := w5.drew) (HS5.out.ports.keep (fun _ _ => rfl)) (by show x.m.ports.length ≤ 900; omega) n)
          go_region_held3 (fun W => W.cell? ⟨x.s, 1, none⟩ = some x.pv ∧ W.cell? ⟨x.s, 2, none⟩ = some x.qv ∧ W.cell? ⟨w.heap.size, 1, none⟩ = some (i64 n)) (first | exact ⟨s1, s2, p1⟩ | exact ⟨r1, r2, r3⟩ | exact ⟨k1, k2, k3⟩ | exact ⟨cell_set_ne k1 hne1, cell_set_ne k2 hne1, cell_set_ne k3 hne2⟩ | exact ⟨cell_set_ne (cell_set_ne k1 hne1) hne1, cell_set_ne (cell_set_ne k2 hne1) hne1, cell_set_ne (cell_set_ne k3 hne2) hne2⟩ | go_keep)
            (first
              | (go_at_call 43; refine HW.out.mono ?_; rintro r w6 ⟨v6, rfl, hv6, hm6⟩; obtain ⟨a6, n6, c6, rfl⟩ := hv6.form; have HV6 := Lib.hid hv6; clear hv6; have r1 : w6.cell? ⟨x.s, 1, none⟩ = some x.pv := (hm6.cell sl5 (by simp) 1).trans s1; have r2 : w6.cell? ⟨x.s, 2, none⟩ = some x.qv := (hm6.cell sl5 (by simp) 2).trans s2; have r3 : w6.cell? ⟨w.heap.size, 1, none⟩ = some (i64 n) := (hm6.cell pl5 (by simp) 1).trans p1)
              | (go_at_call 45; refine (clone_any (w := w6) (HS5.out.peers.keep (fun b hb => hm6.block b (HS5.out.peers.lt b hb).2 (by simp))) (by show x.m.peers.length ≤ 1000; omega)).mono ?_; rintro r w7 ⟨v7, rfl, hv7, hm7⟩; obtain ⟨a7, n7, c7, rfl⟩ := hv7.form; have HV7 := Lib.hid hv7; clear hv7; have hs6 := hm6.size; have k1 : w7.cell? ⟨x.s, 1, none⟩ = some x.pv := (hm7.cell (Nat.lt_of_lt_of_le sl5 hs6) (by simp) 1).trans r1; have k2 : w7.cell? ⟨x.s, 2, none⟩ = some x.qv := (hm7.cell (Nat.lt_of_lt_of_le sl5 hs6) (by simp) 2).trans r2; have k3 : w7.cell? ⟨w.heap.size, 1, none⟩ = some (i64 n) := (hm7.cell (Nat.lt_of_lt_of_le pl5 hs6) (by simp) 1).trans r3; have ho7 := hm7.keep (hm6.keep HO5.out (by simp)) (by simp); have hf7 := hm7.keep (hm6.keep HF5.out.o (by simp)) (by simp); obtain ⟨e0, e1, e2⟩ := cells_3 ho7; obtain ⟨o0, o1, o2⟩ := cells_3 hf7; have x0 := free_of ho7 0; have x1 := free_of ho7 1; have y0 := free_of hf7 0; have y1 := free_of hf7 1; have y2 := free_of hf7 2; have el := lt_of ho7; have ol7 := lt_of hf7; clear ho7 hf7))
          go_wp2
          have hO := HO.out
          simp only [if_true, Bool.false_eq_true, if_false] at hO
          rw [hO]
          have hm7' : Mod [w.heap.size + 1] wc w7 := ((hmd5.trans hm6.drew_l (by simp)).trans hm7 (by simp)).nil
          have hs5 := hw5.size
          have hs7 := hm7.size
          have hcc := hwd.size
          refine bodyPost_ret (v := .tuple #[.agg #[.slice a6 n6 c6, .slice a7 n7 c7, .bool true], i64 0]) ?_ rfl ?_
          · simp [results, Try.results41, go_sem, o0, o1, o2, hne3, ol7, size_setCell, cell_set_self]
          · refine FrameRes.mk (O := ⟨withoutM n x.m.ports, x.m.peers, true⟩) HSd.out HFT.out HXL.out hwd (Nat.le_succ _) hob ?_ ((HV6.out.later hmd5.size).keep (fun b hb => ?_)) ((HV7.out.later (Nat.le_trans hmd5.size hs6)).keep (fun b hb => ?_))
            · exact ((((hm7'.setCell (.inr (by simp; omega)) _).setCell (.inr (by simp; omega)) _).setCell (.inl (by simp)) _).setCell (.inl (by simp)) _).setCell (.inl (by simp)) _
            · have h1 := HV6.out.lt b hb
              simp only [size_drew] at h1
              have h2 : b ≠ w.heap.size + 1 := by omega
              have h3 : b ≠ w4.heap.size := by omega
              rw [heap_setCell_ne _ _ _ _ h2, heap_setCell_ne _ _ _ _ h2, heap_setCell_ne _ _ _ _ h2, heap_setCell_ne _ _ _ _ h3, heap_setCell_ne _ _ _ _ h3]
              exact hm7.block b h1.2 (by simp)
            · have h1 := HV7.out.lt b hb
              simp only [size_drew] at hs6
              have h2 : b ≠ w.heap.size + 1 := by omega
              have h3 : b ≠ w4.heap.size := by omega
              rw [heap_setCell_ne _ _ _ _ h2, heap_setCell_ne _ _ _ _ h2, heap_setCell_ne _ _ _ _ h2, heap_setCell_ne _ _ _ _ h3, heap_setCell_ne _ _ _ _ h3]
end Go.Proofs.Ytmhfpiincnadiaa
