/- The model of bridge: frames, and what holds of a bridge behind any steps. No program in sight. -/
import Derived.Test.YtmhfpiincnadiaaBr8
namespace Go.Proofs.Ytmhfpiincnadiaa
open Go.RowKit
set_option linter.unusedSimpArgs false
set_option linter.unusedVariables false

def frameStep (M : BridgeM) (k : Nat) (tun : Bool) (n : Int) (d : List UInt8) (now : Int) : OutM × Int × BridgeM :=
  ((frameM (M.segs k) tun n d now).1, (frameM (M.segs k) tun n d now).2.1, ⟨setF M.segs k ⟨(frameM (M.segs k) tun n d now).2.2, (M.segs k).ports, (M.segs k).peers⟩, M.bound⟩)
def fromPortM (M : BridgeM) (port : Int) (d : List UInt8) (now : Int) : OutM × Int × BridgeM :=
  match look port M.bound with
  | none => (zeroOut, 6, M)
  | some n => frameStep M n.toNat false port d now
def fromTunnelM (M : BridgeM) (n t : Int) (d : List UInt8) (now : Int) : OutM × Int × BridgeM :=
  if n < 0 ∨ 8 ≤ n then (zeroOut, 6, M) else
  if (M.segs n.toNat).peers.contains t then frameStep M n.toNat true t d now else (zeroOut, 6, M)

theorem frameStep_ok {M : BridgeM} (h : M.Ok) (k : Nat) (tun : Bool) (n : Int) (d : List UInt8) (now : Int) : (frameStep M k tun n d now).2.2.Ok :=
  peers_ok h k _ rfl (fun hk => h.peers k hk) (fun hk => h.prise k hk)
theorem fromPortM_ok {M : BridgeM} (h : M.Ok) (port : Int) (d : List UInt8) (now : Int) : (fromPortM M port d now).2.2.Ok := by
  unfold fromPortM
  split
  · exact h
  · exact frameStep_ok h _ _ _ _ _
theorem fromTunnelM_ok {M : BridgeM} (h : M.Ok) (n t : Int) (d : List UInt8) (now : Int) : (fromTunnelM M n t d now).2.2.Ok := by
  unfold fromTunnelM
  split
  · exact h
  · split
    · exact frameStep_ok h _ _ _ _ _
    · exact h

/-! ### what is refused -/
theorem frameM_refused {m : SegM} {tun : Bool} {n : Int} {d : List UInt8} {now : Int} (h : (frameM m tun n d now).2.1 ≠ 0) :
    (frameM m tun n d now).1 = zeroOut ∧ (frameM m tun n d now).2.2 = m.base ∧ ((frameM m tun n d now).2.1 = 2 ∨ (frameM m tun n d now).2.1 = 7 ∨ (frameM m tun n d now).2.1 = 3) := by
  unfold frameM at h ⊢
  split
  · exact ⟨rfl, rfl, .inl rfl⟩
  · split
    · exact ⟨rfl, rfl, .inr (.inl rfl)⟩
    · split
      · exact ⟨rfl, rfl, .inr (.inr rfl)⟩
      · rename_i h1 h2 h3
        rw [if_neg h1, if_neg h2, if_neg h3] at h
        exact absurd rfl h
theorem fromPortM_refused {M : BridgeM} {port : Int} {d : List UInt8} {now : Int} (h : (fromPortM M port d now).2.1 ≠ 0) :
    (fromPortM M port d now).1 = zeroOut ∧ (∀ i, ((fromPortM M port d now).2.2.segs i).base = (M.segs i).base) ∧
      ((fromPortM M port d now).2.1 = 6 ∨ (fromPortM M port d now).2.1 = 2 ∨ (fromPortM M port d now).2.1 = 7 ∨ (fromPortM M port d now).2.1 = 3) := by
  unfold fromPortM at h ⊢
  split
  · exact ⟨rfl, fun _ => rfl, .inl rfl⟩
  · rename_i n hl
    rw [hl] at h
    obtain ⟨h1, h2, h3⟩ := frameM_refused (m := M.segs n.toNat) h
    refine ⟨h1, fun i => ?_, .inr h3⟩
    show (setF M.segs n.toNat _ i).base = _
    by_cases hi : i = n.toNat
    · subst hi; rw [setF_eq]; exact h2
    · rw [setF_ne _ _ hi]

/-! ### steps -/
structure StepM where
  kind : Int
  n : Int
  s : Int
  b : List UInt8
  by_ : Nat
def doesM (M : BridgeM) (x : StepM) (now : Int) : OutM × Int × BridgeM :=
  if x.kind = 0 then (zeroOut, -1, (bindM M x.n x.s).2)
  else if x.kind = 1 then (zeroOut, -1, (unbindM M x.n).2)
  else if x.kind = 2 then (zeroOut, -1, (peerM M x.s x.n).2)
  else if x.kind = 3 then (zeroOut, -1, (unpeerM M x.s x.n).2)
  else if 4 ≤ x.kind ∧ x.kind ≤ 7 then
    if (fromPortM M x.n x.b now).2.1 = 0 then ((fromPortM M x.n x.b now).1, (look x.n M.bound).getD 0, (fromPortM M x.n x.b now).2.2) else (zeroOut, -1, (fromPortM M x.n x.b now).2.2)
  else if 8 ≤ x.kind ∧ x.kind ≤ 9 then
    if (fromTunnelM M x.s x.n x.b now).2.1 = 0 then ((fromTunnelM M x.s x.n x.b now).1, x.s, (fromTunnelM M x.s x.n x.b now).2.2) else (zeroOut, -1, (fromTunnelM M x.s x.n x.b now).2.2)
  else (zeroOut, -1, M)

/-! ### entries of ports lie in the ports' own segments -/
def Placed (M : BridgeM) : Prop := ∀ i, i < 8 → ∀ e ∈ (M.segs i).base.ents, e.tun = false → look e.n M.bound = some (i : Int)
def Fresh (M : BridgeM) (port : Int) : Prop := ∀ i, i < 8 → ∀ e ∈ (M.segs i).base.ents, e.tun = false → e.n ≠ port

theorem placed_new (room life : Int) : Placed (newM room life) := by
  intro i _ e he
  simp [newM, newBaseM] at he
theorem Placed.fresh {M : BridgeM} (h : Placed M) {port : Int} (hl : look port M.bound = none) : Fresh M port := by
  intro i hi e he ht hn
  have := h i hi e he ht
  rw [hn, hl] at this
  cases this
theorem placed_set {M : BridgeM} (h : Placed M) (k : Nat) (x : SegM) (hx : k < 8 → ∀ e ∈ x.base.ents, e.tun = false → look e.n M.bound = some (k : Int)) : Placed ⟨setF M.segs k x, M.bound⟩ := by
  intro i hi e he ht
  simp only at he ⊢
  by_cases hik : i = k
  · subst hik; rw [setF_eq] at he; exact hx hi e he ht
  · rw [setF_ne _ _ hik] at he; exact h i hi e he ht

section
variable {κ : Type} [DecidableEq κ] {α : Type}
theorem look_append {k : κ} {v : α} {l' : List (κ × α)} : ∀ {l : List (κ × α)}, look k l = some v → look k (l ++ l') = some v
  | x :: l, h => by
    simp only [look, List.cons_append] at h ⊢
    by_cases hk : k = x.1
    · rw [if_pos hk] at h ⊢; exact h
    · rw [if_neg hk] at h ⊢; exact look_append h
theorem look_append_new {k : κ} {v : α} : ∀ {l : List (κ × α)}, look k l = none → look k (l ++ [(k, v)]) = some v
  | [], _ => by simp [look]
  | x :: l, h => by
    simp only [look, List.cons_append] at h ⊢
    by_cases hk : k = x.1
    · rw [if_pos hk] at h; cases h
    · rw [if_neg hk] at h ⊢; exact look_append_new h
theorem look_del_ne {k j : κ} (h : j ≠ k) : ∀ l : List (κ × α), look j (del k l) = look j l
  | [] => rfl
  | x :: l => by
    simp only [del, look]
    by_cases hk : k = x.1
    · rw [if_pos hk, if_neg (fun e => h (e.trans hk.symm))]
    · rw [if_neg hk]
      simp only [look, look_del_ne h l]
end

theorem eraseE_sub (mac : Mac) : ∀ L : List EntM, (eraseE mac L).Sublist L
  | [] => List.Sublist.refl _
  | x :: L => by
    simp only [eraseE]
    split
    · exact List.sublist_cons_self _ _
    · exact (eraseE_sub mac L).cons_cons x
theorem makeRoom_sub (room : Int) (l : List EntM) : (makeRoom room l).Sublist l := by
  unfold makeRoom
  split
  · exact List.Sublist.refl _
  · split
    · exact eraseE_sub _ _
    · exact List.Sublist.refl _
theorem learnM_mem {B : BaseM} {mac : Mac} {tun : Bool} {n now : Int} {e : EntM} (h : e ∈ (learnM B mac tun n now).2.2.ents) : e ∈ B.ents ∨ (e.tun = tun ∧ e.n = n) := by
  unfold learnM at h
  split at h
  · exact .inl h
  · split at h
    · simp only [addM] at h
      rcases List.mem_append.1 h with h | h
      · exact .inl ((makeRoom_sub _ _).subset h)
      · simp at h; subst h; exact .inr ⟨rfl, rfl⟩
    · simp only [updE, List.mem_map] at h
      obtain ⟨x, hx, rfl⟩ := h
      split
      · exact .inr ⟨rfl, rfl⟩
      · exact .inl hx
theorem frameM_mem {m : SegM} {tun : Bool} {n : Int} {d : List UInt8} {now : Int} {e : EntM} (h : e ∈ (frameM m tun n d now).2.2.ents) : e ∈ m.base.ents ∨ (e.tun = tun ∧ e.n = n) := by
  unfold frameM at h
  split at h
  · exact .inl h
  · split at h
    · exact .inl h
    · split at h
      · exact .inl h
      · exact learnM_mem h
theorem forgetM_mem {B : BaseM} {tun : Bool} {n : Int} {e : EntM} (h : e ∈ (forgetM B tun n).ents) : e ∈ B.ents ∧ ¬ (e.tun = tun ∧ e.n = n) := by
  simp only [forgetM, List.mem_filter, atPlace] at h
  refine ⟨h.1, fun hh => ?_⟩
  have := h.2
  rw [hh.1, hh.2] at this
  simp at this

theorem placed_unbind {M : BridgeM} (hok : M.Ok) (h : Placed M) (port : Int) : Placed (unbindM M port).2 := by
  unfold unbindM
  cases hl : look port M.bound with
  | none => exact h
  | some n =>
    intro i hi e he ht
    simp only at he ⊢
    have hmem : e ∈ (M.segs i).base.ents ∧ e.n ≠ port := by
      by_cases hik : i = n.toNat
      · subst hik
        rw [setF_eq] at he
        obtain ⟨h1, h2⟩ := forgetM_mem he
        exact ⟨h1, fun hn => h2 ⟨ht, hn⟩⟩
      · rw [setF_ne _ _ hik] at he
        refine ⟨he, fun hn => ?_⟩
        have := h i hi e he ht
        rw [hn, hl] at this
        cases this
        exact hik rfl
    rw [look_del_ne hmem.2]
    exact h i hi e hmem.1 ht
theorem placed_bindGo {M : BridgeM} (h : Placed M) {port : Int} {k : Nat} (hn : look port M.bound = none) : Placed (bindGo M port k) := by
  unfold bindGo
  rw [upd_new hn]
  intro i hi e he ht
  simp only at he ⊢
  refine look_append (h i hi e ?_ ht)
  by_cases hik : i = k
  · subst hik; rw [setF_eq] at he; exact he
  · rw [setF_ne _ _ hik] at he; exact he
theorem fresh_bindGo {M : BridgeM} {port : Int} (h : Fresh M port) (p : Int) (k : Nat) : Fresh (bindGo M p k) port := by
  intro i hi e he ht
  refine h i hi e ?_ ht
  simp only [bindGo] at he
  by_cases hik : i = k
  · subst hik; rw [setF_eq] at he; exact he
  · rw [setF_ne _ _ hik] at he; exact he
theorem placed_bind {M : BridgeM} (hok : M.Ok) (h : Placed M) (port to : Int) : Placed (bindM M port to).2 := by
  unfold bindM
  split
  · exact h
  · split
    · split
      · exact h
      · exact placed_bindGo (placed_unbind hok h port) (unbindM_look hok port)
    · split
      · exact h
      · exact placed_bindGo (placed_unbind hok h port) (unbindM_look hok port)
theorem placed_peer {M : BridgeM} (h : Placed M) (n t : Int) : Placed (peerM M n t).2 := by
  unfold peerM
  split
  · exact h
  · split
    · exact h
    · split
      · exact h
      · exact placed_set h _ _ (fun hk e he ht => h _ hk e he ht)
theorem placed_unpeer {M : BridgeM} (h : Placed M) (n t : Int) : Placed (unpeerM M n t).2 := by
  unfold unpeerM
  split
  · exact h
  · split
    · exact placed_set h _ _ (fun hk e he ht => h _ hk e (forgetM_mem he).1 ht)
    · exact h
theorem placed_frame {M : BridgeM} (h : Placed M) (k : Nat) (tun : Bool) (n : Int) (d : List UInt8) (now : Int) (hl : tun = false → look n M.bound = some (k : Int)) : Placed (frameStep M k tun n d now).2.2 := by
  refine placed_set h _ _ (fun hk e he ht => ?_)
  rcases frameM_mem he with he | ⟨h1, h2⟩
  · exact h _ hk e he ht
  · rw [h2]; exact hl (by rw [← h1, ht])
theorem placed_port {M : BridgeM} (hok : M.Ok) (h : Placed M) (port : Int) (d : List UInt8) (now : Int) : Placed (fromPortM M port d now).2.2 := by
  unfold fromPortM
  split
  · exact h
  · rename_i n hl
    have hv := hok.vals _ (look_mem hl)
    exact placed_frame h _ _ _ _ _ (fun _ => by rw [hl]; congr 1; omega)
theorem placed_tunnel {M : BridgeM} (h : Placed M) (n t : Int) (d : List UInt8) (now : Int) : Placed (fromTunnelM M n t d now).2.2 := by
  unfold fromTunnelM
  split
  · exact h
  · split
    · exact placed_frame h _ _ _ _ _ (fun e => by cases e)
    · exact h
theorem doesM_ok {M : BridgeM} (h : M.Ok) (x : StepM) (now : Int) : (doesM M x now).2.2.Ok := by
  unfold doesM
  split
  · exact bindM_ok h _ _
  split
  · exact unbindM_ok h _
  split
  · exact peerM_ok h _ _
  split
  · exact unpeerM_ok h _ _
  split
  · split <;> exact fromPortM_ok h _ _ _
  split
  · split <;> exact fromTunnelM_ok h _ _ _ _
  · exact h
theorem placed_does {M : BridgeM} (hok : M.Ok) (h : Placed M) (x : StepM) (now : Int) : Placed (doesM M x now).2.2 := by
  unfold doesM
  split
  · exact placed_bind hok h _ _
  split
  · exact placed_unbind hok h _
  split
  · exact placed_peer h _ _
  split
  · exact placed_unpeer h _ _
  split
  · split <;> exact placed_port hok h _ _ _
  split
  · split <;> exact placed_tunnel h _ _ _ _
  · exact h

/-! ### a port that is bound anew -/
theorem not_in_ports {M : BridgeM} (h : M.Ok) {port : Int} (hl : look port M.bound = none) {i : Nat} (hi : i < 8) : (M.segs i).ports.count port = 0 := by
  rw [List.count_eq_zero]
  intro hm
  have := (h.ports i hi).mem_iff.1 hm
  obtain ⟨x, hx, rfl⟩ := List.mem_map.1 this
  exact look_none hl x (List.mem_filter.1 hx).1 rfl
theorem bindGo_count {M : BridgeM} (h : M.Ok) {port : Int} (hl : look port M.bound = none) {k i : Nat} (hi : i < 8) : ((bindGo M port k).segs i).ports.count port = if i = k then 1 else 0 := by
  simp only [bindGo]
  by_cases hik : i = k
  · subst hik
    rw [setF_eq, if_pos rfl, (withM_perm _ _).count_eq]
    simp [not_in_ports h hl hi]
  · rw [setF_ne _ _ hik, if_neg hik]
    exact not_in_ports h hl hi
/-- What a port's binding anew leads to. -/
structure Anew (M : BridgeM) (port : Int) (k : Nat) : Prop where
  ok : M.Ok
  k8 : k < 8
  fresh : Fresh M port
  count : ∀ i, i < 8 → (M.segs i).ports.count port = if i = k then 1 else 0
theorem anew_bindGo {M : BridgeM} (hok : M.Ok) (h : Placed M) {port : Int} (hp : 0 ≤ port) {k : Nat} (hk : k < 8) (hl : look port M.bound = none) (hlen : M.bound.length < 16) : Anew (bindGo M port k) port k :=
  ⟨bindGo_ok hok hp hk hl hlen, hk, fresh_bindGo (h.fresh hl) _ _, fun i hi => bindGo_count hok hl hi⟩
theorem unbind_unbound {M : BridgeM} {port : Int} (hl : look port M.bound = none) : (unbindM M port).2 = M := by
  unfold unbindM; rw [hl]
/-- Bind that goes on, where the port was not bound to that segment. -/
theorem anew_bind {M : BridgeM} (hok : M.Ok) (h : Placed M) {port to : Int} (he : (bindM M port to).1 = 0) (hne : look port M.bound ≠ some to) : Anew (bindM M port to).2 port to.toNat := by
  unfold bindM at he ⊢
  split
  · rename_i hc; rw [if_pos hc] at he; cases he
  · rename_i hc
    rw [if_neg hc] at he
    have h1 : 0 ≤ port ∧ 0 ≤ to ∧ to < 8 := by omega
    have h2 : ∀ was, look port M.bound = some was → (unbindM M port).2.bound.length < 16 := fun was hw => unbindM_len hok hw
    cases hl : look port M.bound with
    | some was =>
      rw [hl] at he hne
      simp only at he ⊢
      rw [if_neg (fun e => hne (by rw [e]))]
      exact anew_bindGo (unbindM_ok hok port) (placed_unbind hok h port) h1.1 (by omega) (unbindM_look hok port) (h2 was hl)
    | none =>
      rw [hl] at he
      simp only at he ⊢
      split
      · rename_i hf; rw [if_pos hf] at he; cases he
      · rw [unbind_unbound hl]
        exact anew_bindGo hok h h1.1 (by omega) hl (by omega)
theorem bindM_same {M : BridgeM} {port to : Int} (he : (bindM M port to).1 = 0) (hl : look port M.bound = some to) : (bindM M port to).2 = M ∧ 0 ≤ port ∧ 0 ≤ to ∧ to < 8 := by
  unfold bindM at he ⊢
  split
  · rename_i hc; rw [if_pos hc] at he; cases he
  · rename_i hc
    rw [hl]
    simp only [if_true]
    exact ⟨trivial, by omega, by omega, by omega⟩
/-- Unbind, and Bind again. -/
theorem anew_again {M : BridgeM} (hok : M.Ok) (h : Placed M) {port to : Int} (h1 : 0 ≤ port) (h2 : 0 ≤ to) (h3 : to < 8) (hl : look port M.bound = some to) : Anew (bindM (unbindM M port).2 port to).2 port to.toNat := by
  have hlen := unbindM_len hok hl
  have hno := unbindM_look hok port
  refine anew_bind (unbindM_ok hok port) (placed_unbind hok h port) ?_ (by rw [hno]; simp)
  unfold bindM
  rw [if_neg (by omega), hno]
  simp only
  rw [if_neg (by omega)]
theorem bindM_err (M : BridgeM) (port to : Int) : (bindM M port to).1 = 0 ∨ (bindM M port to).1 = 1 ∨ (bindM M port to).1 = 5 := by
  unfold bindM
  split
  · exact .inr (.inl rfl)
  · split
    · split <;> exact .inl rfl
    · split
      · exact .inr (.inr rfl)
      · exact .inl rfl
end Go.Proofs.Ytmhfpiincnadiaa
