/- bridge: its calls on the model; New. -/
import Derived.Test.YtmhfpiincnadiaaBr5
namespace Go.Proofs.Ytmhfpiincnadiaa
open Go.RowKit
open Go.ChangeMaps (setBlock)
set_option linter.unusedSimpArgs false
set_option linter.unusedVariables false

def BridgeAt (w : World) (p : Nat) (G : List Nat) (M : BridgeM) : Prop :=
  ∃ mb S, BridgeIs w p mb S M.bound ∧ (∀ i, i < 8 → (S i).m = M.segs i) ∧ M.Ok ∧ G = brFoot p mb S
theorem BridgeAt.lt {w : World} {p : Nat} {G : List Nat} {M : BridgeM} (h : BridgeAt w p G M) : ∀ b, b ∈ G → b < w.heap.size := by
  obtain ⟨mb, S, h1, _, _, rfl⟩ := h; exact h1.lt
theorem BridgeAt.mod {w w' : World} {p : Nat} {G T : List Nat} {M : BridgeM} (h : BridgeAt w p G M) (hm : Mod T w w') (hd : ∀ b, b ∈ G → b ∉ T) : BridgeAt w' p G M := by
  obtain ⟨mb, S, h1, h2, h3, rfl⟩ := h; exact ⟨mb, S, h1.mod hm hd, h2, h3, rfl⟩

/-- What a call does that may turn a bridge. -/
def Turns (p : Nat) (G : List Nat) (M' : BridgeM) (w w' : World) : Prop :=
  ∃ G', BridgeAt w' p G' M' ∧ Mod G w w' ∧ ∀ b, b ∈ G' → b ∈ G ∨ w.heap.size ≤ b
theorem Turns.refl {w : World} {p : Nat} {G : List Nat} {M : BridgeM} (h : BridgeAt w p G M) : Turns p G M w w := ⟨G, h, Mod.refl _ _, fun _ hb => .inl hb⟩

theorem setM_eq {S : Nat → SegR} {f : Nat → SegM} {k : Nat} {x' : SegR} {m : SegM} (hm : ∀ i, i < 8 → (S i).m = f i) (hx : x'.m = m) : ∀ i, i < 8 → (setF S k x' i).m = setF f k m i := by
  intro i hi
  by_cases hik : i = k
  · subst hik; rw [setF_eq, setF_eq, hx]
  · rw [setF_ne _ _ hik, setF_ne _ _ hik]; exact hm i hi

theorem toNat_of {n : Int} (h0 : ¬ n < 0) (h8 : n < 8) : ∃ k : Nat, k < 8 ∧ n = (k : Int) ∧ n.toNat = k := ⟨n.toNat, by omega, by omega, rfl⟩

section
variable {w : World} {p : Nat} {G : List Nat} {M : BridgeM} (h : BridgeAt w p G M)
include h

theorem unbind_any (port : Int) : Calls Try.prog 21 #[ptr p, i64 port] w fun r w' => r = .returned (i64 (unbindM M port).1) ∧ Turns p G (unbindM M port).2 w w' := by
  have hok := unbindM_ok (h.choose_spec.choose_spec.2.2.1) port
  obtain ⟨mb, S, h1, h2, h3, rfl⟩ := id h
  unfold unbindM at hok ⊢
  cases hl : look port M.bound with
  | none =>
    refine (unbind_none h1 hl).mono ?_
    rintro r w' ⟨rfl, rfl⟩
    exact ⟨rfl, Turns.refl h⟩
  | some n =>
    rw [hl] at hok
    obtain ⟨_, hn0, hn8⟩ := look_ok h3 hl
    obtain ⟨k, hk, rfl, hkn⟩ := toNat_of (by omega) hn8
    simp only [hkn] at hok ⊢
    refine (unbind_some h1 hk hl (by rw [h2 k hk]; have := h3.portsLen hk; omega)).mono ?_
    rintro r w' ⟨rfl, x', hx, hB, hm, hf⟩
    rw [h2 k hk] at hx
    exact ⟨rfl, _, ⟨mb, _, hB, setM_eq h2 hx, hok, rfl⟩, hm.mono (work_foot hk), brFoot_setF hk hf⟩

theorem bind_any (port to : Int) : Calls Try.prog 20 #[ptr p, i64 port, i64 to] w fun r w' => r = .returned (i64 (bindM M port to).1) ∧ Turns p G (bindM M port to).2 w w' := by
  have hok := bindM_ok (h.choose_spec.choose_spec.2.2.1) port to
  obtain ⟨mb, S, h1, h2, h3, rfl⟩ := id h
  have stay : ∀ e : Int, (Calls Try.prog 20 #[ptr p, i64 port, i64 to] w fun r w' => r = .returned (i64 e) ∧ w = w') →
      Calls Try.prog 20 #[ptr p, i64 port, i64 to] w fun r w' => r = .returned (i64 e) ∧ Turns p (brFoot p mb S) M w w' := fun e he => he.mono (by
    rintro r w' ⟨rfl, rfl⟩
    exact ⟨rfl, Turns.refl h⟩)
  unfold bindM at hok ⊢
  by_cases hc : port < 0 ∨ to < 0 ∨ 8 ≤ to
  · rw [if_pos hc]
    refine stay 1 ?_
    by_cases ht : to < 0 ∨ 8 ≤ to
    · exact bind_out h1 ht
    · obtain ⟨k, hk, rfl, _⟩ := toNat_of (n := to) (by omega) (by omega)
      exact bind_neg h1 hk (by omega)
  · rw [if_neg hc] at hok ⊢
    obtain ⟨k, hk, rfl, hkn⟩ := toNat_of (n := to) (by omega) (by omega)
    rw [hkn] at hok ⊢
    have hp : 0 ≤ port := by omega
    have hpl : (S k).m.ports.length ≤ 16 := by rw [h2 k hk]; exact h3.portsLen hk
    have hpr : (S k).m.ports.Pairwise (· ≤ ·) := by rw [h2 k hk]; exact h3.rise k hk
    cases hl : look port M.bound with
    | none =>
      rw [hl] at hok
      simp only at hok ⊢
      by_cases hfull : 16 ≤ M.bound.length
      · rw [if_pos hfull]
        exact stay 5 (bind_full h1 hk hp hl hfull)
      · rw [if_neg hfull] at hok ⊢
        refine (bind_go h1 hk hp (.inl ⟨hl, by omega⟩) (fun S1 bound1 => S1 = S ∧ bound1 = M.bound) (by omega) hpr ((unbind_none h1 hl).mono ?_)).mono ?_
        · rintro r w' ⟨rfl, rfl⟩
          exact ⟨⟨_, rfl⟩, S, _, ⟨rfl, rfl⟩, rfl, h1, Mod.refl _ _, fun _ hb => .inl hb⟩
        · rintro r w' ⟨rfl, S1, bound1, x', ⟨rfl, rfl⟩, _, hx, hB, hm, hf⟩
          refine ⟨rfl, _, ⟨mb, _, ?_, ?_, hok, rfl⟩, hm, hf⟩
          · unfold bindGo unbindM; rw [hl]; exact hB
          · unfold bindGo unbindM; rw [hl]
            refine setM_eq h2 ?_
            rw [hx, h2 k hk]
    | some was =>
      rw [hl] at hok
      simp only at hok ⊢
      by_cases hw : was = (k : Int)
      · rw [if_pos hw]
        exact stay 0 (bind_same h1 hk hp (by rw [hl, hw]))
      · rw [if_neg hw] at hok ⊢
        obtain ⟨_, hn0, hn8⟩ := look_ok h3 hl
        obtain ⟨j, hj, rfl, hjn⟩ := toNat_of (n := was) (by omega) hn8
        have hjk : k ≠ j := fun e => hw (by rw [e])
        refine (bind_go h1 hk hp (.inr ⟨_, hl, hw⟩) (fun S1 bound1 => (∃ x', x'.m = ⟨forgetM (S j).m.base false port, withoutM port (S j).m.ports, (S j).m.peers⟩ ∧ S1 = setF S j x') ∧ bound1 = del port M.bound) (by omega) hpr
          ((unbind_some h1 hj hl (by rw [h2 j hj]; have := h3.portsLen hj; omega)).mono ?_)).mono ?_
        · rintro r w' ⟨rfl, x', hx, hB, hm, hf⟩
          exact ⟨⟨_, rfl⟩, _, _, ⟨⟨x', hx, rfl⟩, rfl⟩, setF_ne _ _ hjk, hB, hm.mono (work_foot hj), brFoot_setF hj hf⟩
        · rintro r w' ⟨rfl, S1, bound1, x2, ⟨⟨x1, hx1, rfl⟩, rfl⟩, hsk, hx, hB, hm, hf⟩
          refine ⟨rfl, _, ⟨mb, _, ?_, ?_, hok, rfl⟩, hm, hf⟩
          · unfold bindGo unbindM; rw [hl]; exact hB
          · unfold bindGo unbindM; rw [hl]
            simp only [hjn]
            refine setM_eq (setM_eq h2 (by rw [hx1, h2 j hj])) ?_
            rw [hx, h2 k hk, setF_ne _ _ hjk]

theorem peer_any (n t : Int) : Calls Try.prog 32 #[ptr p, i64 n, i64 t] w fun r w' => r = .returned (i64 (peerM M n t).1) ∧ Turns p G (peerM M n t).2 w w' := by
  have hok := peerM_ok (h.choose_spec.choose_spec.2.2.1) n t
  obtain ⟨mb, S, h1, h2, h3, rfl⟩ := id h
  have stay : ∀ e : Int, (Calls Try.prog 32 #[ptr p, i64 n, i64 t] w fun r w' => r = .returned (i64 e) ∧ w = w') →
      Calls Try.prog 32 #[ptr p, i64 n, i64 t] w fun r w' => r = .returned (i64 e) ∧ Turns p (brFoot p mb S) M w w' := fun e he => he.mono (by
    rintro r w' ⟨rfl, rfl⟩
    exact ⟨rfl, Turns.refl h⟩)
  unfold peerM at hok ⊢
  by_cases hc : t < 0 ∨ n < 0 ∨ 8 ≤ n
  · rw [if_pos hc]
    refine stay 1 ?_
    by_cases ht : n < 0 ∨ 8 ≤ n
    · exact peer_out ht
    · obtain ⟨k, hk, rfl, _⟩ := toNat_of (n := n) (by omega) (by omega)
      exact peer_neg h1 hk (by omega)
  · rw [if_neg hc] at hok ⊢
    obtain ⟨k, hk, rfl, hkn⟩ := toNat_of (n := n) (by omega) (by omega)
    rw [hkn] at hok ⊢
    have hp8 := h3.peers k hk
    by_cases hco : (M.segs k).peers.contains t = true
    · rw [if_pos hco]
      exact stay 0 (peer_has h1 hk (by omega) (by rw [h2 k hk]; exact hp8) (by rw [h2 k hk]; exact hco))
    · rw [if_neg hco] at hok ⊢
      have hco' : (M.segs k).peers.contains t = false := by simpa using hco
      by_cases hfull : 8 ≤ (M.segs k).peers.length
      · rw [if_pos hfull]
        exact stay 5 (peer_full h1 hk (by omega) (by rw [h2 k hk]; exact hp8) (by rw [h2 k hk]; exact hco') (by rw [h2 k hk]; exact hfull))
      · rw [if_neg hfull] at hok ⊢
        refine (peer_go h1 hk (by omega) (by rw [h2 k hk]; exact h3.prise k hk) (by rw [h2 k hk]; exact hco') (by rw [h2 k hk]; omega)).mono ?_
        rintro r w' ⟨rfl, x', hx, hB, hm, hf⟩
        rw [h2 k hk] at hx
        exact ⟨rfl, _, ⟨mb, _, hB, setM_eq h2 hx, hok, rfl⟩, hm, hf⟩

theorem unpeer_any (n t : Int) : Calls Try.prog 36 #[ptr p, i64 n, i64 t] w fun r w' => r = .returned (i64 (unpeerM M n t).1) ∧ Turns p G (unpeerM M n t).2 w w' := by
  have hok := unpeerM_ok (h.choose_spec.choose_spec.2.2.1) n t
  obtain ⟨mb, S, h1, h2, h3, rfl⟩ := id h
  have stay : ∀ e : Int, (Calls Try.prog 36 #[ptr p, i64 n, i64 t] w fun r w' => r = .returned (i64 e) ∧ w = w') →
      Calls Try.prog 36 #[ptr p, i64 n, i64 t] w fun r w' => r = .returned (i64 e) ∧ Turns p (brFoot p mb S) M w w' := fun e he => he.mono (by
    rintro r w' ⟨rfl, rfl⟩
    exact ⟨rfl, Turns.refl h⟩)
  unfold unpeerM at hok ⊢
  by_cases hc : n < 0 ∨ 8 ≤ n
  · rw [if_pos hc]
    exact stay 6 (unpeer_out hc)
  · rw [if_neg hc] at hok ⊢
    obtain ⟨k, hk, rfl, hkn⟩ := toNat_of (n := n) (by omega) (by omega)
    rw [hkn] at hok ⊢
    have hp8 := h3.peers k hk
    by_cases hco : (M.segs k).peers.contains t = true
    · rw [if_pos hco] at hok ⊢
      refine (unpeer_go h1 hk (by rw [h2 k hk]; exact hp8) (by rw [h2 k hk]; exact hco)).mono ?_
      rintro r w' ⟨rfl, x', hx, hB, hm, hf⟩
      rw [h2 k hk] at hx
      exact ⟨rfl, _, ⟨mb, _, hB, setM_eq h2 hx, hok, rfl⟩, hm, hf⟩
    · rw [if_neg hco]
      have hco' : (M.segs k).peers.contains t = false := by simpa using hco
      exact stay 6 (unpeer_not h1 hk (by rw [h2 k hk]; exact hp8) (by rw [h2 k hk]; exact hco'))
end
end Go.Proofs.Ytmhfpiincnadiaa
