/- fdb: compare, by time, then by MAC; the least of entries. -/
import Derived.Test.YtmhfpiincnadiaaFdb1
import Derived.Lib.UnsafeStr
import Derived.Laws.Externs
import Derived.StillTailTactics
namespace Go.Proofs.Ytmhfpiincnadiaa
open Go.RowKit
open Go.ChangeMaps (setBlock)
set_option linter.unusedSimpArgs false
set_option linter.unusedVariables false

def sgn (a b : Int) : Int := if a < b then -1 else if b < a then 1 else 0
def or2 (x y : Int) : Int := if x = 0 then y else x

set_option maxHeartbeats 400000 in
theorem cmp64_any (a b : Int) (w : World) :
    Calls Try.prog 148 #[.int .u64 a, .int .u64 b] w fun r w' => r = .returned (.int .i64 (sgn a b)) ∧ w' = w := by
  unfold sgn
  by_cases h1 : a < b
  · go_enter Try.func148, Try.ntmps148
    go_wp2
    go_ret
    exact ⟨by simp [h1], rfl⟩
  · by_cases h2 : b < a
    · go_enter Try.func148, Try.ntmps148
      go_wp2
      go_ret
      exact ⟨by simp [h1, h2], rfl⟩
    · go_enter Try.func148, Try.ntmps148
      go_wp2
      go_ret
      exact ⟨by simp [h1, h2], rfl⟩

/-! ### bytes.Compare of two MACs -/
def Mac.key (m : Mac) : Int := ((((((m.a0.toNat : Int) * 256 + m.a1.toNat) * 256 + m.a2.toNat) * 256 + m.a3.toNat) * 256 + m.a4.toNat) * 256 + m.a5.toNat)
def Mac.bytes (m : Mac) : List UInt8 := [m.a0, m.a1, m.a2, m.a3, m.a4, m.a5]

theorem u8_lt (a : UInt8) : 0 ≤ (a.toNat : Int) ∧ (a.toNat : Int) ≤ 255 := by have := a.toNat_lt; omega

theorem cmp_macs (a b : Mac) : Extern.BytealgCompare.cmp ⟨a.bytes.toArray⟩ ⟨b.bytes.toArray⟩ = sgn a.key b.key := by
  obtain ⟨a0, a1, a2, a3, a4, a5⟩ := a
  obtain ⟨b0, b1, b2, b3, b4, b5⟩ := b
  have hlt : ∀ x y : UInt8, x < y ↔ (x.toNat : Int) < y.toNat := fun x y => by rw [UInt8.lt_iff_toNat_lt]; omega
  have hne : ∀ x y : UInt8, (x != y) = true ↔ ¬ (x.toNat : Int) = y.toNat := fun x y => by
    rw [bne_iff_ne, Ne, ← UInt8.toNat_inj]; omega
  have p0 := u8_lt a0; have p1 := u8_lt a1; have p2 := u8_lt a2; have p3 := u8_lt a3; have p4 := u8_lt a4; have p5 := u8_lt a5
  have q0 := u8_lt b0; have q1 := u8_lt b1; have q2 := u8_lt b2; have q3 := u8_lt b3; have q4 := u8_lt b4; have q5 := u8_lt b5
  have e : (min (ByteArray.size ⟨(Mac.bytes ⟨a0, a1, a2, a3, a4, a5⟩).toArray⟩) (ByteArray.size ⟨(Mac.bytes ⟨b0, b1, b2, b3, b4, b5⟩).toArray⟩)) = 6 := rfl
  unfold Extern.BytealgCompare.cmp
  rw [e, show List.range 6 = [0, 1, 2, 3, 4, 5] from rfl]
  have g0 : ∀ (i : Nat) (x : UInt8), (Mac.bytes ⟨a0, a1, a2, a3, a4, a5⟩)[i]? = some x → (ByteArray.mk (Mac.bytes ⟨a0, a1, a2, a3, a4, a5⟩).toArray)[i]! = x := fun i x h => by
    match i, h with
    | 0, h => cases h; rfl
    | 1, h => cases h; rfl
    | 2, h => cases h; rfl
    | 3, h => cases h; rfl
    | 4, h => cases h; rfl
    | 5, h => cases h; rfl
  have g1 : ∀ (i : Nat) (x : UInt8), (Mac.bytes ⟨b0, b1, b2, b3, b4, b5⟩)[i]? = some x → (ByteArray.mk (Mac.bytes ⟨b0, b1, b2, b3, b4, b5⟩).toArray)[i]! = x := fun i x h => by
    match i, h with
    | 0, h => cases h; rfl
    | 1, h => cases h; rfl
    | 2, h => cases h; rfl
    | 3, h => cases h; rfl
    | 4, h => cases h; rfl
    | 5, h => cases h; rfl
  have fin : ∀ (x y : UInt8), ¬ (x.toNat : Int) = y.toNat → (if x < y then (-1 : Int) else 1) = sgn x.toNat y.toNat := fun x y h => by
    unfold sgn
    by_cases h1 : x < y
    · rw [if_pos h1, if_pos ((hlt x y).1 h1)]
    · have this : ¬ (x.toNat : Int) < y.toNat := fun h2 => h1 ((hlt x y).2 h2)
      rw [if_neg h1, if_neg this, if_pos (by omega)]
  have big : ∀ (x y u v : Int), (x < y → u < v) → (y < x → v < u) → ¬ x = y → sgn x y = sgn u v := fun x y u v h1 h2 h3 => by
    unfold sgn
    rcases Int.lt_trichotomy x y with h | h | h
    · rw [if_pos h, if_pos (h1 h)]
    · exact absurd h h3
    · rw [if_neg (by omega), if_pos h, if_neg (by have := h2 h; omega), if_pos (h2 h)]
  simp only [List.find?_cons, g0 0 a0 rfl, g0 1 a1 rfl, g0 2 a2 rfl, g0 3 a3 rfl, g0 4 a4 rfl, g0 5 a5 rfl, g1 0 b0 rfl, g1 1 b1 rfl, g1 2 b2 rfl, g1 3 b3 rfl, g1 4 b4 rfl, g1 5 b5 rfl]
  unfold Mac.key
  by_cases h0 : (a0 != b0) = true
  · simp only [h0]
    rw [g0 0 a0 rfl, g1 0 b0 rfl, fin _ _ ((hne _ _).1 h0)]
    exact big _ _ _ _ (by omega) (by omega) ((hne _ _).1 h0)
  · have z0 : (a0.toNat : Int) = b0.toNat := Decidable.not_not.1 (fun h => h0 ((hne _ _).2 h))
    simp only [Bool.not_eq_true] at h0
    simp only [h0]
    by_cases h1 : (a1 != b1) = true
    · simp only [h1]
      rw [g0 1 a1 rfl, g1 1 b1 rfl, fin _ _ ((hne _ _).1 h1)]
      exact big _ _ _ _ (by omega) (by omega) ((hne _ _).1 h1)
    · have z1 : (a1.toNat : Int) = b1.toNat := Decidable.not_not.1 (fun h => h1 ((hne _ _).2 h))
      simp only [Bool.not_eq_true] at h1
      simp only [h1]
      by_cases h2 : (a2 != b2) = true
      · simp only [h2]
        rw [g0 2 a2 rfl, g1 2 b2 rfl, fin _ _ ((hne _ _).1 h2)]
        exact big _ _ _ _ (by omega) (by omega) ((hne _ _).1 h2)
      · have z2 : (a2.toNat : Int) = b2.toNat := Decidable.not_not.1 (fun h => h2 ((hne _ _).2 h))
        simp only [Bool.not_eq_true] at h2
        simp only [h2]
        by_cases h3 : (a3 != b3) = true
        · simp only [h3]
          rw [g0 3 a3 rfl, g1 3 b3 rfl, fin _ _ ((hne _ _).1 h3)]
          exact big _ _ _ _ (by omega) (by omega) ((hne _ _).1 h3)
        · have z3 : (a3.toNat : Int) = b3.toNat := Decidable.not_not.1 (fun h => h3 ((hne _ _).2 h))
          simp only [Bool.not_eq_true] at h3
          simp only [h3]
          by_cases h4 : (a4 != b4) = true
          · simp only [h4]
            rw [g0 4 a4 rfl, g1 4 b4 rfl, fin _ _ ((hne _ _).1 h4)]
            exact big _ _ _ _ (by omega) (by omega) ((hne _ _).1 h4)
          · have z4 : (a4.toNat : Int) = b4.toNat := Decidable.not_not.1 (fun h => h4 ((hne _ _).2 h))
            simp only [Bool.not_eq_true] at h4
            simp only [h4]
            by_cases h5 : (a5 != b5) = true
            · simp only [h5]
              rw [g0 5 a5 rfl, g1 5 b5 rfl, fin _ _ ((hne _ _).1 h5)]
              exact big _ _ _ _ (by omega) (by omega) ((hne _ _).1 h5)
            · have z5 : (a5.toNat : Int) = b5.toNat := Decidable.not_not.1 (fun h => h5 ((hne _ _).2 h))
              simp only [Bool.not_eq_true] at h5
              simp only [h5, List.find?_nil, z0, z1, z2, z3, z4, z5, sgn]
              rw [if_neg (Int.lt_irrefl _), if_neg (Int.lt_irrefl _)]
              rfl

theorem key_inj {a b : Mac} (h : a.key = b.key) : a = b := by
  obtain ⟨a0, a1, a2, a3, a4, a5⟩ := a
  obtain ⟨b0, b1, b2, b3, b4, b5⟩ := b
  have p0 := u8_lt a0; have p1 := u8_lt a1; have p2 := u8_lt a2; have p3 := u8_lt a3; have p4 := u8_lt a4; have p5 := u8_lt a5
  have q0 := u8_lt b0; have q1 := u8_lt b1; have q2 := u8_lt b2; have q3 := u8_lt b3; have q4 := u8_lt b4; have q5 := u8_lt b5
  unfold Mac.key at h
  simp only at h
  simp only [Mac.mk.injEq, ← UInt8.toNat_inj]
  omega
theorem key_range (m : Mac) : 0 ≤ m.key ∧ m.key < 281474976710656 := by
  obtain ⟨a0, a1, a2, a3, a4, a5⟩ := m
  have p0 := u8_lt a0; have p1 := u8_lt a1; have p2 := u8_lt a2; have p3 := u8_lt a3; have p4 := u8_lt a4; have p5 := u8_lt a5
  unfold Mac.key
  simp only
  omega

theorem run_loadX {P : Program} {w : World} : ∀ (l : List UInt8) (b o : Nat) (acc : ByteArray), (∀ j x, l[j]? = some x → w.cell? ⟨b, o + j, none⟩ = some (.int .u8 (x.toNat : Int))) →
    (Extern.Bytes.loadBytes ⟨b, o, none⟩ l.length acc).run P w = .ok ⟨acc.data ++ l.toArray⟩ w
  | [], b, o, acc, _ => by simp [Extern.Bytes.loadBytes]
  | x :: l, b, o, acc, h => by
    have h0 : w.cell? ⟨b, o, none⟩ = some (.int .u8 (x.toNat : Int)) := h 0 x rfl
    have ih := run_loadX (P := P) l b (o + 1) (acc.push x) (fun j y hy => by
      have := h (j + 1) y (by simpa using hy)
      rw [show o + 1 + j = o + (j + 1) by omega]; exact this)
    simp only [List.length_cons, Extern.Bytes.loadBytes, load, Sem.run_bind, Sem.run, h0, Result.andThen]
    have e : (⟨b, o, none⟩ : Addr).add 1 = ⟨b, o + 1, none⟩ := rfl
    rw [e]
    have e2 : ((x.toNat : Int)).toNat.toUInt8 = x := by simp
    rw [e2, ih]
    simp

theorem run_mac (m : Mac) (b o : Nat) (w : World) (h0 : w.cell? ⟨b, o, none⟩ = some (.int .u8 (m.a0.toNat : Int))) (h1 : w.cell? ⟨b, o + 1, none⟩ = some (.int .u8 (m.a1.toNat : Int)))
    (h2 : w.cell? ⟨b, o + 2, none⟩ = some (.int .u8 (m.a2.toNat : Int))) (h3 : w.cell? ⟨b, o + 3, none⟩ = some (.int .u8 (m.a3.toNat : Int)))
    (h4 : w.cell? ⟨b, o + 4, none⟩ = some (.int .u8 (m.a4.toNat : Int))) (h5 : w.cell? ⟨b, o + 5, none⟩ = some (.int .u8 (m.a5.toNat : Int))) (c : Nat) :
    (Extern.Bytes.bytesOf (.slice (some ⟨b, o, none⟩) 6 c)).run Try.prog w = .ok ⟨m.bytes.toArray⟩ w := by
  have := run_loadX (P := Try.prog) (w := w) m.bytes b o .empty (fun j x hx => by
    match j, hx with
    | 0, hx => cases hx; exact h0
    | 1, hx => cases hx; exact h1
    | 2, hx => cases hx; exact h2
    | 3, hx => cases hx; exact h3
    | 4, hx => cases hx; exact h4
    | 5, hx => cases hx; exact h5)
  simpa [Extern.Bytes.bytesOf, Mac.bytes] using this

theorem run_compare (a b : Mac) (x y : Value) (w : World) (hx : (Extern.Bytes.bytesOf x).run Try.prog w = .ok ⟨a.bytes.toArray⟩ w) (hy : (Extern.Bytes.bytesOf y).run Try.prog w = .ok ⟨b.bytes.toArray⟩ w) :
    (callFunc 60 #[x, y]).run Try.prog w = .ok (.value (.int .i64 (sgn a.key b.key))) w := by
  rw [run_callFunc_extern Try.func60 (by kernel_rfl) (by kernel_rfl) (by kernel_rfl) (e := Extern.BytealgCompare.compare) (by kernel_rfl)]
  change ((do
    let a ← Extern.Bytes.bytesOf x
    let b ← Extern.Bytes.bytesOf y
    pure (goInt (Extern.BytealgCompare.cmp a b)) : Sem Value).run Try.prog w).andThen _ = _
  simp only [Sem.run_bind, hx, hy, Result.andThen, Sem.run_pure, cmp_macs]
  rfl

set_option maxHeartbeats 400000 in
theorem bcmp_any (a b : Mac) (p q : Nat) (w : World) (hx : (Extern.Bytes.bytesOf (.slice (some ⟨p, 0, none⟩) 6 6)).run Try.prog w = .ok ⟨a.bytes.toArray⟩ w) (hy : (Extern.Bytes.bytesOf (.slice (some ⟨q, 0, none⟩) 6 6)).run Try.prog w = .ok ⟨b.bytes.toArray⟩ w) :
    Calls Try.prog 40 #[.slice (some ⟨p, 0, none⟩) 6 6, .slice (some ⟨q, 0, none⟩) 6 6] w fun r w' => r = .returned (.int .i64 (sgn a.key b.key)) ∧ w' = w := by
  have hc := run_compare a b _ _ w hx hy
  clear hx hy
  go_enter Try.func40, Try.ntmps40
  go_wp2
  go_ret
  exact ⟨rfl, rfl⟩

set_option maxHeartbeats 400000 in
theorem or2_any (x y : Int) (b : Nat) (w : World) (h0 : w.cell? ⟨b, 0, none⟩ = some (.int .i64 x)) (h1 : w.cell? ⟨b, 1, none⟩ = some (.int .i64 y)) :
    Calls Try.prog 147 #[.slice (some ⟨b, 0, none⟩) 2 2] w fun r w' => r = .returned (.int .i64 (or2 x y)) ∧ w' = w := by
  unfold or2
  go_enter Try.func147, Try.ntmps147
  go_wp2
  go_loop [5, 8] (fun _ i => ∃ k : Nat, k ≤ 2 ∧ i = .int .i64 k ∧ (1 ≤ k → x = 0) ∧ (2 ≤ k → y = 0)) (fun _ i => 2 - (intOf i).toNat)
  case atStart => exact ⟨0, by omega, rfl, by omega, by omega⟩
  case round =>
    obtain ⟨k, hk, rfl, hx, hy⟩ := hrel
    rcases (show k = 0 ∨ k = 1 ∨ k = 2 by omega) with rfl | rfl | rfl
    · clear hx hy
      by_cases hx0 : x = 0
      · subst hx0
        go_wp2
        go_round
        case rel => exact ⟨1, by omega, rfl, by simp, by omega⟩
        case measure => simp [intOf]
      · go_wp2
        go_ret
        exact ⟨by simp [hx0], rfl⟩
    · have hx1 : x = 0 := hx (by omega)
      clear hx hy
      subst hx1
      by_cases hy0 : y = 0
      · subst hy0
        go_wp2
        go_round
        case rel => exact ⟨2, by omega, rfl, by simp, by simp⟩
        case measure => simp [intOf]
      · go_wp2
        go_ret
        exact ⟨by simp, rfl⟩
    · have hx1 : x = 0 := hx (by omega)
      have hy1 : y = 0 := hy (by omega)
      clear hx hy
      subst hx1 hy1
      go_wp2
      go_ret
      exact ⟨by simp, rfl⟩

/-- By time, then by MAC, as one number. -/
def EntM.key (e : EntM) : Int := e.at_ * 281474976710656 + e.mac.key
theorem or_sgn (a b : EntM) : or2 (sgn a.at_ b.at_) (sgn a.mac.key b.mac.key) = sgn a.key b.key := by
  unfold or2
  have p := key_range a.mac
  have q := key_range b.mac
  unfold EntM.key
  rcases Int.lt_trichotomy a.at_ b.at_ with h | h | h
  · have e1 : sgn a.at_ b.at_ = -1 := if_pos h
    have e2 : sgn (a.at_ * 281474976710656 + a.mac.key) (b.at_ * 281474976710656 + b.mac.key) = -1 := if_pos (by omega)
    rw [e1, e2]; rfl
  · have e1 : sgn a.at_ b.at_ = 0 := by unfold sgn; rw [if_neg (by omega), if_neg (by omega)]
    rw [e1, if_pos rfl]
    unfold sgn
    rcases Int.lt_trichotomy a.mac.key b.mac.key with h2 | h2 | h2
    · rw [if_pos h2, if_pos (by omega)]
    · rw [if_neg (by omega), if_neg (by omega), if_neg (by omega), if_neg (by omega)]
    · rw [if_neg (by omega), if_pos h2, if_neg (by omega), if_pos (by omega)]
  · have e1 : sgn a.at_ b.at_ = 1 := by unfold sgn; rw [if_neg (by omega), if_pos h]
    have e2 : sgn (a.at_ * 281474976710656 + a.mac.key) (b.at_ * 281474976710656 + b.mac.key) = 1 := by unfold sgn; rw [if_neg (by omega), if_pos (by omega)]
    rw [e1, e2]; rfl

set_option maxRecDepth 100000 in
set_option maxHeartbeats 1000000 in
theorem compare_any (a b : EntM) (p q : Nat) (w : World) (hp : blk w p = some (.cells #[.int .u8 (a.mac.a0.toNat : Int), .int .u8 (a.mac.a1.toNat : Int), .int .u8 (a.mac.a2.toNat : Int), .int .u8 (a.mac.a3.toNat : Int), .int .u8 (a.mac.a4.toNat : Int), .int .u8 (a.mac.a5.toNat : Int), .bool a.tun, .int .i64 a.n, .int .u64 a.at_, .bool false] 67 (0, 0))) (hq : blk w q = some (.cells #[.int .u8 (b.mac.a0.toNat : Int), .int .u8 (b.mac.a1.toNat : Int), .int .u8 (b.mac.a2.toNat : Int), .int .u8 (b.mac.a3.toNat : Int), .int .u8 (b.mac.a4.toNat : Int), .int .u8 (b.mac.a5.toNat : Int), .bool b.tun, .int .i64 b.n, .int .u64 b.at_, .bool false] 67 (0, 0))) :
    Calls Try.prog 131 #[ptr p, ptr q] w fun r w' => r = .returned (.int .i64 (sgn a.key b.key)) ∧ Mod [] w w' := by
  have p8 : w.cell? ⟨p, 8, none⟩ = some (.int .u64 a.at_) := by rw [cell_of hp]; rfl
  have q8 : w.cell? ⟨q, 8, none⟩ = some (.int .u64 b.at_) := by rw [cell_of hq]; rfl
  have ha : (Extern.Bytes.bytesOf (.slice (some ⟨p, 0, none⟩) 6 6)).run Try.prog w.drew = .ok ⟨a.mac.bytes.toArray⟩ w.drew :=
    run_mac a.mac p 0 _ (by rw [World.cell?_drew, cell_of hp]; rfl) (by rw [World.cell?_drew, cell_of hp]; rfl) (by rw [World.cell?_drew, cell_of hp]; rfl) (by rw [World.cell?_drew, cell_of hp]; rfl) (by rw [World.cell?_drew, cell_of hp]; rfl) (by rw [World.cell?_drew, cell_of hp]; rfl) 6
  have hb : (Extern.Bytes.bytesOf (.slice (some ⟨q, 0, none⟩) 6 6)).run Try.prog w.drew = .ok ⟨b.mac.bytes.toArray⟩ w.drew :=
    run_mac b.mac q 0 _ (by rw [World.cell?_drew, cell_of hq]; rfl) (by rw [World.cell?_drew, cell_of hq]; rfl) (by rw [World.cell?_drew, cell_of hq]; rfl) (by rw [World.cell?_drew, cell_of hq]; rfl) (by rw [World.cell?_drew, cell_of hq]; rfl) (by rw [World.cell?_drew, cell_of hq]; rfl) 6
  have hs := or_sgn a b
  have H := Lib.hid hs
  clear hs
  have hc2 := Lib.hid (bcmp_any a.mac b.mac p q w.drew ha hb)
  clear ha hb hp hq
  go_enter Try.func131, Try.ntmps131
  go_wp2
  refine wp_region_still_tail 18 (by kernel_rfl) (by kernel_rfl) ?_
  simp only [List.take_succ_cons, List.take_zero, List.drop_succ_cons, List.drop_zero]
  iterate 8 still_step
  still_call (cmp64_any a.at_ b.at_ _)
  iterate 8 still_step
  still_call hc2.out
  refine wpStill_nil ?_
  change wpList _ _ _ _ _ w.drew
  go_wp2_with (go_at_call 147; refine (or2_any (sgn a.at_ b.at_) (sgn a.mac.key b.mac.key) _ _ (by go_simp) (by go_simp)).mono ?_; rintro r w' ⟨rfl, rfl⟩)
  go_ret
  exact ⟨congrArg (fun x => Ending.returned (.int .i64 x)) H.out, by (repeat (first | exact Mod.refl _ _ | refine Mod.alloc ?_ _ | refine Mod.drewN ?_ _ | refine Mod.drew ?_ | refine Mod.setCell ?_ (by first | (simp; done) | (simp; omega)) _ | refine Mod.setBlock ?_ (by first | (simp; done) | (simp; omega)) _ | assumption))⟩
end Go.Proofs.Ytmhfpiincnadiaa
