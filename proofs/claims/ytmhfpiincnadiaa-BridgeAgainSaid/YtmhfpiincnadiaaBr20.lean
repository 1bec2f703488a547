/- A row of steps that came in as data, opened. -/
import Derived.Test.YtmhfpiincnadiaaBr18
import Derived.ProofKit
import Derived.OpenShut
import Derived.ShutString
import Derived.ChangeOld
import Derived.Below
import Derived.Deep.Slices
import Derived.Deep.Fields
import Derived.ChangeSame
namespace Go.Proofs.Ytmhfpiincnadiaa
open Go.ChangeShapes Go.WideShapes Go.ChangeAt Go.RowKit Go.Deep
set_option linter.unusedSimpArgs false
set_option linter.unusedVariables false

theorem add_none (b off i : Nat) : (⟨b, off, none⟩ : Addr).add i = ⟨b, off + i, none⟩ := by
  unfold Addr.add
  split <;> simp_all
theorem u8_back {z : Int} (h : 0 ≤ z ∧ z ≤ 255) : ((UInt8.ofNat z.toNat).toNat : Int) = z := by
  rw [UInt8.toNat_ofNat']
  omega

section
variable {H : Type} {enc : TypeId × Value → H} {W : World}

theorem open_bytes {fuel : Nat} {v : Value} {x : DataW H × List MemPlace} (h : DataW.trod enc Try.prog W 0 (fun _ => true) true fuel 32 [v] = some x) : ∃ d, Bytes W v d := by
  rcases open_ints Try.underlying32 Try.underlying5 (by kernel_rfl) h with ⟨hcs, _⟩ | ⟨a, l, c, zs, hcs, _, hl, hm, hz, _, hcell, hwz⟩
  · simp only [List.cons.injEq, and_true] at hcs
    exact ⟨[], .inl ⟨rfl, _, _, hcs⟩⟩
  · simp only [List.cons.injEq, and_true] at hcs
    simp only [if_true] at hz
    by_cases h0 : l = 0
    · subst h0
      exact ⟨[], .inl ⟨rfl, _, _, hcs⟩⟩
    · obtain ⟨b, off, spot⟩ := a
      have hc0 := hcell 0 (by omega)
      have hspot : spot = none := by simpa [Addr.add] using World.cell?_spot hc0
      subst hspot
      have hlt : b < W.heap.size := by
        rcases Nat.lt_or_ge b W.heap.size with h5 | h5
        · exact h5
        · simp [World.cell?, Addr.add, Array.getElem?_eq_none h5] at hc0
      have hlen : ((zs.take l).map fun z => UInt8.ofNat z.toNat).length = l := by simp; omega
      refine ⟨(zs.take l).map fun z => UInt8.ofNat z.toNat, .inr ⟨b, off, c, by rw [hlen]; exact hcs, by rw [hlen]; exact hl, hlt, fun i hi => ?_⟩⟩
      rw [hlen] at hi
      have hc := hcell i (by omega)
      have hiz : i < zs.length := by omega
      have hw := hwz (zs.getD i 0) (by rw [List.getD_eq_getElem?_getD, List.getElem?_eq_getElem hiz]; exact List.getElem_mem hiz)
      have hb : 0 ≤ zs.getD i 0 ∧ zs.getD i 0 ≤ 255 := by simpa [Lit.wf, IntKind.min, IntKind.max, IntKind.signed, IntKind.bits] using hw
      have e : (((zs.take l).map fun z => UInt8.ofNat z.toNat).getD i 0) = UInt8.ofNat (zs.getD i 0).toNat := by
        rw [List.getD_eq_getElem?_getD, List.getElem?_map, List.getElem?_take, if_pos hi, List.getD_eq_getElem?_getD, List.getElem?_eq_getElem hiz]
        rfl
      rw [e]
      rw [u8_back hb]
      rw [add_none] at hc
      exact hc

theorem trod_one {fuel : Nat} {t : TypeId} {cs : List Value} {j : Nat} {n : Nat} {y : Option (DataW H × List MemPlace)} (hlen : cs.length = n) (hj : j < n) (h : DataW.trod enc Try.prog W 0 (fun _ => true) true fuel t ((cs.drop j).take 1) = y) (hy : y.isSome = true) :
    ∃ u z, cs[j]? = some u ∧ DataW.trod enc Try.prog W 0 (fun _ => true) true fuel t [u] = some z := by
  have h1 : cs[j]? = some (cs[j]'(by omega)) := List.getElem?_eq_getElem (by omega)
  obtain ⟨z, rfl⟩ := Option.isSome_iff_exists.1 hy
  refine ⟨_, z, h1, ?_⟩
  rw [List.drop_eq_getElem_cons (by omega)] at h
  exact h

theorem int_bounds {n : Int} (h : (Lit.int .i64 n).wf = true) : -9223372036854775808 ≤ n ∧ n ≤ 9223372036854775807 := by
  simpa [Lit.wf, IntKind.min, IntKind.max, IntKind.signed, IntKind.bits] using h

set_option maxRecDepth 100000 in
theorem open_step {fuel : Nat} {cs : List Value} {x : DataW H × List MemPlace} {a : Addr} (hc : W.cells? 0 a 5 = some cs) (h : DataW.trod enc Try.prog W 0 (fun _ => true) true fuel 49 cs = some x) :
    ∃ b off y vb, a = ⟨b, off, none⟩ ∧ StepAt W b off y vb := by
  obtain ⟨xs, n, _, _, _, hxl, hf⟩ := DataW.trod_struct Try.underlying49 h
  obtain ⟨_, hlen, hat⟩ := World.cells?_some hc
  have hx : ∀ j, j < 5 → (xs[j]?).isSome = true := fun j hj => by rw [List.getElem?_eq_getElem (by rw [hxl]; exact hj)]; rfl
  obtain ⟨u0, z0, e0, t0⟩ := trod_one (j := 0) hlen (by omega) (hf 0 _ rfl) (hx 0 (by omega))
  obtain ⟨u1, z1, e1, t1⟩ := trod_one (j := 1) hlen (by omega) (hf 1 _ rfl) (hx 1 (by omega))
  obtain ⟨u2, z2, e2, t2⟩ := trod_one (j := 2) hlen (by omega) (hf 2 _ rfl) (hx 2 (by omega))
  obtain ⟨u3, z3, e3, t3⟩ := trod_one (j := 3) hlen (by omega) (hf 3 _ rfl) (hx 3 (by omega))
  obtain ⟨u4, z4, e4, t4⟩ := trod_one (j := 4) hlen (by omega) (hf 4 _ rfl) (hx 4 (by omega))
  obtain ⟨n0, r0, _, w0⟩ := DataW.trod_int Try.underlying3 t0
  obtain ⟨n1, r1, _, w1⟩ := DataW.trod_int Try.underlying3 t1
  obtain ⟨n2, r2, _, w2⟩ := DataW.trod_int Try.underlying3 t2
  obtain ⟨n4, r4, _, w4⟩ := DataW.trod_int Try.underlying5 t4
  obtain ⟨d, hd⟩ := open_bytes t3
  simp only [List.cons.injEq, and_true] at r0 r1 r2 r4
  subst r0 r1 r2 r4
  have c0 := (hat 0 (by omega)).trans e0
  have c1 := (hat 1 (by omega)).trans e1
  have c2 := (hat 2 (by omega)).trans e2
  have c3 := (hat 3 (by omega)).trans e3
  have c4 := (hat 4 (by omega)).trans e4
  obtain ⟨b, off, spot⟩ := a
  have hspot : spot = none := by simpa [Addr.add] using World.cell?_spot c0
  subst hspot
  rw [add_none] at c0 c1 c2 c3 c4
  have hlt : b < W.heap.size := by
    rcases Nat.lt_or_ge b W.heap.size with h5 | h5
    · exact h5
    · simp [World.cell?, Array.getElem?_eq_none h5] at c0
  have hb : 0 ≤ n4 ∧ n4 ≤ 255 := by simpa [Lit.wf, IntKind.min, IntKind.max, IntKind.signed, IntKind.bits] using w4
  refine ⟨b, off, ⟨n0, n1, n2, d, n4.toNat⟩, u3, rfl, ?_⟩
  constructor
  · exact c0
  · exact c1
  · exact c2
  · exact c3
  · have e5 : ((n4.toNat : Nat) : Int) = n4 := by omega
    show W.cell? ⟨b, off + 4, none⟩ = some (.int .u8 ((n4.toNat : Nat) : Int))
    rw [e5]
    exact c4
  · exact hlt
  · exact hd
  · exact int_bounds w1
  · show n4.toNat ≤ 255
    omega

theorem open_steps {fuel : Nat} {a : Option Addr} {len cap : Nat} {x : DataW H × List MemPlace} (h : DataW.trod enc Try.prog W 0 (fun _ => true) true fuel 45 [.slice a len cap] = some x) :
    ∃ st vb, Steps W (.slice a len cap) len st vb := by
  rcases open_slice Try.underlying45 h with ⟨hcs, _⟩ | ⟨a', len', cap', m, n, D, Pl, hcs, _, hl, hm, hmm, _, hi⟩
  · simp only [List.cons.injEq, and_true, Value.slice.injEq] at hcs
    obtain ⟨rfl, rfl, rfl⟩ := hcs
    exact ⟨fun _ => ⟨0, 0, 0, [], 0⟩, fun _ => undef, .inl ⟨rfl, _, _, rfl⟩⟩
  · simp only [List.cons.injEq, and_true, Value.slice.injEq] at hcs
    obtain ⟨rfl, e1, e2⟩ := hcs
    subst e1 e2
    simp only [if_true] at hmm
    subst hmm
    have hC : Try.prog.cellsOf 49 = 5 := by kernel_rfl
    rw [hC] at hi
    by_cases h0 : len = 0
    · subst h0
      exact ⟨fun _ => ⟨0, 0, 0, [], 0⟩, fun _ => undef, .inl ⟨rfl, _, _, rfl⟩⟩
    · have hall : ∀ i, i < len → ∃ b off y vb, a'.add (i * 5) = ⟨b, off, none⟩ ∧ StepAt W b off y vb := fun i hi2 => by
        obtain ⟨cs', h1, h2⟩ := hi i (by omega)
        exact open_step h1 h2
      obtain ⟨b, off, spot⟩ := a'
      have hspot : spot = none := by
        obtain ⟨b1, o1, _, _, h1, _⟩ := hall 0 (by omega)
        have := congrArg Addr.spot h1
        simpa [Addr.add] using this
      subst hspot
      have hall2 : ∀ i, i < len → ∃ y : StepM × Value, StepAt W b (off + i * 5) y.1 y.2 := fun i hi2 => by
        obtain ⟨b1, o1, y, vb, h1, h2⟩ := hall i hi2
        have e1 : b1 = b ∧ o1 = off + i * 5 := by
          have g1 := congrArg Addr.block h1
          have g2 := congrArg Addr.off h1
          rw [add_none] at g1 g2
          exact ⟨g1.symm, g2.symm⟩
        obtain ⟨rfl, rfl⟩ := e1
        exact ⟨(y, vb), h2⟩
      refine ⟨fun i => if h : i < len then (hall2 i h).choose.1 else ⟨0, 0, 0, [], 0⟩, fun i => if h : i < len then (hall2 i h).choose.2 else undef, .inr ⟨b, off, _, rfl, hl, hm, fun i hi2 => ?_⟩⟩
      simp only [hi2, dif_pos]
      exact (hall2 i hi2).choose_spec
end
end Go.Proofs.Ytmhfpiincnadiaa
