/- Entries compared; rows of entries kept; the statements' ints. -/
import Derived.Test.YtmhfpiincnadiaaBr18
namespace Go.Proofs.Ytmhfpiincnadiaa
open Go.RowKit
open Go.ChangeMaps (setBlock)
set_option linter.unusedSimpArgs false
set_option linter.unusedVariables false

theorem mac_eq_self (d : Nat) (a : Mac) (w : World) : (Op.equalIn (d + 1 + 1) 63 (.agg a.cells) (.agg a.cells)).run Try.prog w = .ok true w := by
  obtain ⟨i, hi⟩ := Option.isSome_iff_exists.1 info_u8
  rw [run_equalIn_array w (d + 1) _ _ Try.underlying63 hi, cells_u8]
  obtain ⟨a0, a1, a2, a3, a4, a5⟩ := a
  rw [show List.range 6 = [0, 1, 2, 3, 4, 5] from rfl]
  rw [eqItems_cons _ _ _ a0 a0 _ _ _ rfl rfl, eqItems_cons _ _ _ a1 a1 _ _ _ rfl rfl, eqItems_cons _ _ _ a2 a2 _ _ _ rfl rfl, eqItems_cons _ _ _ a3 a3 _ _ _ rfl rfl,
    eqItems_cons _ _ _ a4 a4 _ _ _ rfl rfl, eqItems_cons _ _ _ a5 a5 _ _ _ rfl rfl]
  simp [Op.eqItems]
theorem place_eq_self (d : Nat) (w : World) (x0 : Bool) (x1 : Int) :
    (Op.equalIn (d + 1 + 1) 65 (.agg #[.bool x0, .int .i64 x1]) (.agg #[.bool x0, .int .i64 x1])).run Try.prog w = .ok true w := by
  refine struct_eq (d := d + 1) Try.underlying65 (by kernel_rfl) ?_
  rw [show true = ((x0 == x0) && ((x1 == x1) && true)) from by simp]
  refine fields_cons (by rfl) (by go_simp; rfl) (by go_simp; rfl) (by go_simp) ?_
  refine fields_cons (by rfl) (by go_simp; rfl) (by go_simp; rfl) (by go_simp) ?_
  exact fields_nil
theorem ent_eq_self (w : World) (a : EntM) : (Op.equalIn 10000 67 (.agg #[.int .u8 (a.mac.a0.toNat : Int), .int .u8 (a.mac.a1.toNat : Int), .int .u8 (a.mac.a2.toNat : Int), .int .u8 (a.mac.a3.toNat : Int), .int .u8 (a.mac.a4.toNat : Int), .int .u8 (a.mac.a5.toNat : Int), .bool a.tun, .int .i64 a.n, .int .u64 a.at_, .bool false]) (.agg #[.int .u8 (a.mac.a0.toNat : Int), .int .u8 (a.mac.a1.toNat : Int), .int .u8 (a.mac.a2.toNat : Int), .int .u8 (a.mac.a3.toNat : Int), .int .u8 (a.mac.a4.toNat : Int), .int .u8 (a.mac.a5.toNat : Int), .bool a.tun, .int .i64 a.n, .int .u64 a.at_, .bool false])).run Try.prog w = .ok true w := by
  refine struct_eq (d := 9999) Try.underlying67 (by kernel_rfl) ?_
  rw [show true = (true && (true && ((a.at_ == a.at_) && ((false == false) && true)))) from by simp]
  refine fields_cons (a := .agg #[.int .u8 (a.mac.a0.toNat : Int), .int .u8 (a.mac.a1.toNat : Int), .int .u8 (a.mac.a2.toNat : Int), .int .u8 (a.mac.a3.toNat : Int), .int .u8 (a.mac.a4.toNat : Int), .int .u8 (a.mac.a5.toNat : Int)]) (b := .agg #[.int .u8 (a.mac.a0.toNat : Int), .int .u8 (a.mac.a1.toNat : Int), .int .u8 (a.mac.a2.toNat : Int), .int .u8 (a.mac.a3.toNat : Int), .int .u8 (a.mac.a4.toNat : Int), .int .u8 (a.mac.a5.toNat : Int)]) (by rfl) (by go_simp) (by go_simp) (mac_eq_self 9997 a.mac w) ?_
  refine fields_cons (a := .agg #[.bool a.tun, .int .i64 a.n]) (b := .agg #[.bool a.tun, .int .i64 a.n]) (by rfl) (by go_simp) (by go_simp) (place_eq_self 9997 w a.tun a.n) ?_
  refine fields_cons (by rfl) (by go_simp; rfl) (by go_simp; rfl) (by go_simp) ?_
  refine fields_cons (by rfl) (by go_simp; rfl) (by go_simp; rfl) (by go_simp) ?_
  exact fields_nil
theorem ent_guard : Try.prog.eqGuardType Try.prog.depth 67 = false := by kernel_rfl

theorem EntRow.keeps {w w' : World} {B : Nat} {v : Value} {L : List EntM} (h : EntRow w B v L) (hs : w.heap.size ≤ w'.heap.size) (hk : ∀ g, v.ownBlock = some g → blk w' g = blk w g) : EntRow w' B v L := by
  rcases h with h | ⟨g, c, rfl, h2, h3, h4, h5⟩
  · exact .inl h
  · refine .inr ⟨g, c, rfl, h2, h3, Nat.lt_of_lt_of_le h4 hs, fun i e hi j u hu => ?_⟩
    have hb := hk g rfl
    unfold blk at hb
    exact (World.cell?_of_block (w := w) (a := ⟨g, i * 10 + j, none⟩) hb).trans (h5 i e hi j u hu)
theorem EntRow.form {w : World} {B : Nat} {v : Value} {L : List EntM} (h : EntRow w B v L) : ∃ a c, v = .slice a L.length c ∧ L.length ≤ c := by
  rcases h with ⟨rfl, rfl⟩ | ⟨g, c, rfl, h2, _⟩
  · exact ⟨none, 0, rfl, Nat.le_refl _⟩
  · exact ⟨_, c, rfl, h2⟩
theorem EntRow.lt {w : World} {B : Nat} {v : Value} {L : List EntM} (h : EntRow w B v L) {g : Nat} (hg : v.ownBlock = some g) : B ≤ g ∧ g < w.heap.size := by
  rcases h with ⟨rfl, rfl⟩ | ⟨g', c, rfl, h2, h3, h4, _⟩
  · cases hg
  · cases hg; exact ⟨h3, h4⟩
/-- The cells of an entry of a row. -/
structure EntCells (w : World) (g o : Nat) (e : EntM) : Prop where
  c0 : w.cell? ⟨g, o, none⟩ = some (.int .u8 (e.mac.a0.toNat : Int))
  c1 : w.cell? ⟨g, o + 1, none⟩ = some (.int .u8 (e.mac.a1.toNat : Int))
  c2 : w.cell? ⟨g, o + 2, none⟩ = some (.int .u8 (e.mac.a2.toNat : Int))
  c3 : w.cell? ⟨g, o + 3, none⟩ = some (.int .u8 (e.mac.a3.toNat : Int))
  c4 : w.cell? ⟨g, o + 4, none⟩ = some (.int .u8 (e.mac.a4.toNat : Int))
  c5 : w.cell? ⟨g, o + 5, none⟩ = some (.int .u8 (e.mac.a5.toNat : Int))
  c6 : w.cell? ⟨g, o + 6, none⟩ = some (.bool e.tun)
  c7 : w.cell? ⟨g, o + 7, none⟩ = some (.int .i64 e.n)
  c8 : w.cell? ⟨g, o + 8, none⟩ = some (.int .u64 e.at_)
  c9 : w.cell? ⟨g, o + 9, none⟩ = some (.bool false)
theorem EntRow.at_ {w : World} {B : Nat} {a : Option Addr} {c : Nat} {L : List EntM} (h : EntRow w B (.slice a L.length c) L) {jj : Nat} (hj : jj < L.length) : ∃ g, a = some ⟨g, 0, none⟩ ∧ EntCells w g (jj * 10) L[jj] := by
  rcases h with ⟨h1, rfl⟩ | ⟨g, c', h1, h2, h3, h4, h5⟩
  · simp at hj
  · cases h1
    have h6 : ∀ j u, L[jj].cells[j]? = some u → w.cell? ⟨g, jj * 10 + j, none⟩ = some u := fun j u hu => h5 jj L[jj] (List.getElem?_eq_getElem hj) j u hu
    exact ⟨g, rfl, h6 0 _ rfl, h6 1 _ rfl, h6 2 _ rfl, h6 3 _ rfl, h6 4 _ rfl, h6 5 _ rfl, h6 6 _ rfl, h6 7 _ rfl, h6 8 _ rfl, h6 9 _ rfl⟩
theorem EntRow.place {w : World} {B : Nat} {a : Option Addr} {c : Nat} {L : List EntM} (h : EntRow w B (.slice a L.length c) L) {jj : Nat} (hj : jj < L.length) : ∃ g, a = some ⟨g, 0, none⟩ ∧ w.cell? ⟨g, jj * 10 + 6, none⟩ = some (.bool L[jj].tun) ∧ w.cell? ⟨g, jj * 10 + 7, none⟩ = some (i64 L[jj].n) := by
  obtain ⟨g, h1, h2⟩ := h.at_ hj
  exact ⟨g, h1, h2.c6, h2.c7⟩

set_option maxRecDepth 100000 in
set_option maxHeartbeats 1000000 in
/-- Two rows that hold the same are the same. -/
theorem ints_same {w : World} {B B' : Nat} {v v' : Value} {L : List Int} (h : Ints w B v L) (h' : Ints w B' v' L) :
    Calls Try.prog 23 #[v, v'] w fun r w' => r = .returned (.bool true) ∧ ∃ q, w' = w.drewN q := by
  obtain ⟨a, c, rfl, hc, hc2, hr⟩ := h.slice
  obtain ⟨a', c', rfl, hc', hc2', hr'⟩ := h'.slice
  have hL : L.length ≤ 9223372036854775807 := by unfold maxLen at hc2; omega
  have HR := Lib.hid hr
  have HR' := Lib.hid hr'
  clear hr hr' h h' hc2 hc2'
  go_enter Try.func23, Try.ntmps23
  go_wp2
  go_loopw [5] (fun i wr => ∃ k q : Nat, k ≤ L.length ∧ i = .int .i64 k ∧ wr = w.drewN q) (fun i _ => L.length - (intOf i).toNat)
  case atStart => exact ⟨0, 0, by omega, rfl, rfl⟩
  case round =>
    obtain ⟨k, q, hk, rfl, rfl⟩ := hrel
    by_cases hkl : k < L.length
    · obtain ⟨g, rfl, d0⟩ : ∃ g, a = some ⟨g, 0, none⟩ ∧ w.cell? ⟨g, k, none⟩ = some (i64 L[k]) := by
        rcases HR.out with ⟨_, h1, _⟩ | ⟨g, cur, h1, _, h3, _, h5⟩
        · rw [h1] at hkl; simp at hkl
        · refine ⟨g, h1, ?_⟩
          rw [cell_of h3, ints_at h5 hkl, List.getD_eq_getElem?_getD, List.getElem?_eq_getElem hkl]
          rfl
      obtain ⟨g', rfl, d1⟩ : ∃ g, a' = some ⟨g, 0, none⟩ ∧ w.cell? ⟨g, k, none⟩ = some (i64 L[k]) := by
        rcases HR'.out with ⟨_, h1, _⟩ | ⟨g, cur, h1, _, h3, _, h5⟩
        · rw [h1] at hkl; simp at hkl
        · refine ⟨g, h1, ?_⟩
          rw [cell_of h3, ints_at h5 hkl, List.getD_eq_getElem?_getD, List.getElem?_eq_getElem hkl]
          rfl
      generalize L[k] = z at d0 d1
      have b0 : (0 : Int) ≤ (k : Int) := by omega
      have b1 : (k : Int) < (L.length : Int) := by omega
      go_wp2
      go_quiet (fail)
      go_wp2
      go_roundw
      case rel => exact ⟨k + 1, q + nq, by omega, by go_num, rfl⟩
      case measure => simp [intOf]; omega
    · obtain rfl : k = L.length := by omega
      go_wp2
      go_ret
      exact ⟨rfl, q, rfl⟩
end Go.Proofs.Ytmhfpiincnadiaa
