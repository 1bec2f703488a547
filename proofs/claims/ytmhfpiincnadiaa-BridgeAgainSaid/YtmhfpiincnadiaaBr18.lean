/- The steps that a statement of layer 16 is given; what a bridge is behind them. -/
import Derived.Test.YtmhfpiincnadiaaBr17
namespace Go.Proofs.Ytmhfpiincnadiaa
open Go.RowKit
open Go.ChangeMaps (setBlock)
set_option linter.unusedSimpArgs false
set_option linter.unusedVariables false

structure StepAt (w : World) (b o : Nat) (x : StepM) (vb : Value) : Prop where
  c0 : w.cell? ⟨b, o, none⟩ = some (i64 x.kind)
  c1 : w.cell? ⟨b, o + 1, none⟩ = some (i64 x.n)
  c2 : w.cell? ⟨b, o + 2, none⟩ = some (i64 x.s)
  c3 : w.cell? ⟨b, o + 3, none⟩ = some vb
  c4 : w.cell? ⟨b, o + 4, none⟩ = some (.int .u8 (x.by_ : Int))
  lt : b < w.heap.size
  bytes : Bytes w vb x.b
  n : -9223372036854775808 ≤ x.n ∧ x.n ≤ 9223372036854775807
  by_ : x.by_ ≤ 255
theorem StepAt.mod {w w' : World} {b o : Nat} {x : StepM} {vb : Value} (h : StepAt w b o x vb) (hm : Mod [] w w') : StepAt w' b o x vb :=
  ⟨(hm.cell h.lt (by simp) _).trans h.c0, (hm.cell h.lt (by simp) _).trans h.c1, (hm.cell h.lt (by simp) _).trans h.c2, (hm.cell h.lt (by simp) _).trans h.c3, (hm.cell h.lt (by simp) _).trans h.c4, Nat.lt_of_lt_of_le h.lt hm.size, h.bytes.keep hm, h.n, h.by_⟩
/-- A row of steps. -/
def Steps (w : World) (v : Value) (n : Nat) (st : Nat → StepM) (vb : Nat → Value) : Prop :=
  (n = 0 ∧ ∃ a c, v = .slice a 0 c) ∨ ∃ b off c, v = .slice (some ⟨b, off, none⟩) n c ∧ n ≤ c ∧ c ≤ maxLen ∧ ∀ i, i < n → StepAt w b (off + i * 5) (st i) (vb i)

def nowM (st : Nat → StepM) : Nat → Nat
  | 0 => 0
  | i + 1 => nowM st i + (st i).by_
def runM (st : Nat → StepM) (room life : Int) : Nat → BridgeM
  | 0 => newM room life
  | i + 1 => (doesM (runM st room life i) (st i) (nowM st (i + 1) : Int)).2.2
theorem nowM_le (st : Nat → StepM) (n : Nat) (h : ∀ i, i < n → (st i).by_ ≤ 255) : ∀ k, k ≤ n → nowM st k ≤ k * 255
  | 0, _ => by simp [nowM]
  | k + 1, hk => by
    have h1 := nowM_le st n h k (by omega)
    have h2 := h k (by omega)
    simp only [nowM]
    omega
theorem runM_ok (st : Nat → StepM) (room life : Int) : ∀ k, (runM st room life k).Ok
  | 0 => newM_ok _ _
  | k + 1 => doesM_ok (runM_ok st room life k) _ _
theorem runM_placed (st : Nat → StepM) (room life : Int) : ∀ k, Placed (runM st room life k)
  | 0 => placed_new _ _
  | k + 1 => placed_does (runM_ok st room life k) (runM_placed st room life k) _ _

theorem Live.does {w0 w : World} {p : Nat} {M : BridgeM} {K : List Nat} (h : Live w0 w p M K) (x : StepM) {v : Value} (now : Int) (hb : Bytes w v x.b) (hn : -9223372036854775808 ≤ x.n ∧ x.n ≤ 9223372036854775807) (hnow : 0 ≤ now ∧ now ≤ 18446744073709551615) :
    Calls Try.prog 15 #[ptr p, .agg #[i64 x.kind, i64 x.n, i64 x.s, v, .int .u8 (x.by_ : Int)], .int .u64 now] w fun r w' => OutRes (doesM M x now).1 (doesM M x now).2.1 w r w' ∧ Live w0 w' p (doesM M x now).2.2 K ∧ Keeps K w w' := by
  obtain ⟨G, h1, h2, h3, h4⟩ := h
  refine (does_any h1 x now hb hn hnow).mono fun r w' hr => ?_
  exact ⟨hr.1, Live.turns h2 h3 h4 hr.2⟩

/-- BridgeForgets' end, for the walk: what the model says of an errno. -/
theorem run_take (P : List Int) (port : Int) (j : Nat) (hj : j < P.length) : ((P.take (j + 1)).count port : Int) = (P.take j).count port + if P[j] = port then 1 else 0 := by
  rw [List.take_succ_eq_append_getElem hj, List.count_append]
  by_cases h : P[j] = port
  · rw [if_pos h, h]; simp
  · rw [if_neg h]
    rw [List.count_singleton]
    simp [h]
end Go.Proofs.Ytmhfpiincnadiaa
