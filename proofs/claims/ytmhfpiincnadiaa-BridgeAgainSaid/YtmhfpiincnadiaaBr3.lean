/- The model of bridge: what its calls do; that it stays in order. No program in sight. -/
import Derived.Test.YtmhfpiincnadiaaBr2
namespace Go.Proofs.Ytmhfpiincnadiaa
open Go.RowKit
set_option linter.unusedSimpArgs false
set_option linter.unusedVariables false

structure BridgeM where
  segs : Nat → SegM
  bound : List (Int × Int)

structure BridgeM.Ok (M : BridgeM) : Prop where
  keys : (M.bound.map (·.1)).Nodup
  vals : ∀ x ∈ M.bound, 0 ≤ x.1 ∧ 0 ≤ x.2 ∧ x.2 < 8
  len : M.bound.length ≤ 16
  ports : ∀ i, i < 8 → (M.segs i).ports.Perm ((M.bound.filter fun x => x.2 == (i : Int)).map (·.1))
  rise : ∀ i, i < 8 → (M.segs i).ports.Pairwise (· ≤ ·)
  peers : ∀ i, i < 8 → (M.segs i).peers.length ≤ 8
  prise : ∀ i, i < 8 → (M.segs i).peers.Pairwise (· ≤ ·)

def unbindM (M : BridgeM) (port : Int) : Int × BridgeM :=
  match look port M.bound with
  | none => (6, M)
  | some n => (0, ⟨setF M.segs n.toNat ⟨forgetM (M.segs n.toNat).base false port, withoutM port (M.segs n.toNat).ports, (M.segs n.toNat).peers⟩, del port M.bound⟩)
def bindGo (M : BridgeM) (port : Int) (k : Nat) : BridgeM :=
  ⟨setF M.segs k ⟨(M.segs k).base, withM port (M.segs k).ports, (M.segs k).peers⟩, upd port (k : Int) M.bound⟩
def bindM (M : BridgeM) (port to : Int) : Int × BridgeM :=
  if port < 0 ∨ to < 0 ∨ 8 ≤ to then (1, M) else
  match look port M.bound with
  | some was => if was = to then (0, M) else (0, bindGo (unbindM M port).2 port to.toNat)
  | none => if 16 ≤ M.bound.length then (5, M) else (0, bindGo (unbindM M port).2 port to.toNat)
def peerM (M : BridgeM) (n t : Int) : Int × BridgeM :=
  if t < 0 ∨ n < 0 ∨ 8 ≤ n then (1, M) else
  if (M.segs n.toNat).peers.contains t then (0, M) else
  if 8 ≤ (M.segs n.toNat).peers.length then (5, M) else
  (0, ⟨setF M.segs n.toNat ⟨(M.segs n.toNat).base, (M.segs n.toNat).ports, withM t (M.segs n.toNat).peers⟩, M.bound⟩)
def unpeerM (M : BridgeM) (n t : Int) : Int × BridgeM :=
  if n < 0 ∨ 8 ≤ n then (6, M) else
  if (M.segs n.toNat).peers.contains t then
    (0, ⟨setF M.segs n.toNat ⟨forgetM (M.segs n.toNat).base true t, (M.segs n.toNat).ports, withoutM t (M.segs n.toNat).peers⟩, M.bound⟩)
  else (6, M)
def newM (room life : Int) : BridgeM := ⟨fun _ => ⟨newBaseM room life, [], []⟩, []⟩

/-! ### rows that rise -/
theorem withM_perm (n : Int) (L : List Int) : (withM n L).Perm (n :: L) := by
  unfold withM insAt
  refine (List.perm_middle).trans ?_
  rw [List.take_append_drop]
theorem withM_length (n : Int) (L : List Int) : (withM n L).length = L.length + 1 := by
  rw [(withM_perm n L).length_eq]; rfl
theorem withM_rise (n : Int) : ∀ L : List Int, L.Pairwise (· ≤ ·) → (withM n L).Pairwise (· ≤ ·)
  | [], _ => by simp [withM, insAt]
  | a :: t, h => by
    have ha := (List.pairwise_cons.1 h).1
    have ht := (List.pairwise_cons.1 h).2
    by_cases hlt : a < n
    · have e : withM n (a :: t) = a :: withM n t := by
        unfold withM insAt
        rw [List.countP_cons_of_pos (by simpa using hlt)]
        rfl
      rw [e]
      refine List.pairwise_cons.2 ⟨fun b hb => ?_, withM_rise n t ht⟩
      rcases List.mem_cons.1 ((withM_perm n t).mem_iff.1 hb) with rfl | hb
      · omega
      · exact ha b hb
    · have hz : (a :: t).countP (· < n) = 0 := by
        rw [List.countP_eq_zero]
        intro b hb
        rcases List.mem_cons.1 hb with rfl | hb
        · simpa using hlt
        · have := ha b hb
          simp
          omega
      have e : withM n (a :: t) = n :: a :: t := by
        unfold withM insAt
        rw [hz]
        rfl
      rw [e]
      refine List.pairwise_cons.2 ⟨fun b hb => ?_, h⟩
      rcases List.mem_cons.1 hb with rfl | hb
      · omega
      · have := ha b hb; omega
theorem withoutM_rise (n : Int) (L : List Int) (h : L.Pairwise (· ≤ ·)) : (withoutM n L).Pairwise (· ≤ ·) := h.sublist List.filter_sublist
theorem withoutM_length (n : Int) (L : List Int) : (withoutM n L).length ≤ L.length := List.length_filter_le _ _

/-! ### association lists with keys that are unlike -/
section
variable {α : Type}
theorem look_mem {k : Int} {v : α} : ∀ {l : List (Int × α)}, look k l = some v → (k, v) ∈ l
  | x :: l, h => by
    simp only [look] at h
    by_cases hk : k = x.1
    · rw [if_pos hk] at h; cases h; rw [hk]; exact List.mem_cons_self ..
    · rw [if_neg hk] at h; exact List.mem_cons_of_mem _ (look_mem h)
theorem look_none {k : Int} : ∀ {l : List (Int × α)}, look k l = none → ∀ x ∈ l, x.1 ≠ k
  | y :: l, h, x, hx => by
    simp only [look] at h
    by_cases hk : k = y.1
    · rw [if_pos hk] at h; cases h
    · rw [if_neg hk] at h
      rcases List.mem_cons.1 hx with rfl | hx
      · exact Ne.symm hk
      · exact look_none h x hx
theorem look_get {k : Int} {v : α} {x : Int × α} : ∀ {l : List (Int × α)}, (l.map (·.1)).Nodup → look k l = some v → x ∈ l → x.1 = k → x.2 = v
  | y :: l, hn, hl, hx, hk => by
    simp only [List.map_cons, List.nodup_cons] at hn
    simp only [look] at hl
    by_cases hy : k = y.1
    · rw [if_pos hy] at hl
      cases hl
      rcases List.mem_cons.1 hx with rfl | hx
      · rfl
      · have hm : x.1 ∈ l.map (·.1) := List.mem_map.2 ⟨x, hx, rfl⟩
        rw [hk, hy] at hm
        exact absurd hm hn.1
    · rw [if_neg hy] at hl
      rcases List.mem_cons.1 hx with rfl | hx
      · exact absurd hk.symm hy
      · exact look_get hn.2 hl hx hk
theorem del_eq {k : Int} : ∀ {l : List (Int × α)}, (l.map (·.1)).Nodup → del k l = l.filter fun x => !(x.1 == k)
  | [], _ => rfl
  | x :: l, h => by
    simp only [List.map_cons, List.nodup_cons] at h
    simp only [del]
    by_cases hk : k = x.1
    · rw [if_pos hk, List.filter_cons_of_neg (by simp [hk]), List.filter_eq_self.2]
      intro y hy
      have : y.1 ≠ k := fun e => h.1 (by rw [← hk, ← e]; exact List.mem_map.2 ⟨y, hy, rfl⟩)
      simpa using this
    · rw [if_neg hk, List.filter_cons_of_pos (by simpa using Ne.symm hk), del_eq h.2]
theorem look_del {k : Int} : ∀ {l : List (Int × α)}, (l.map (·.1)).Nodup → look k (del k l) = none
  | [], _ => rfl
  | x :: l, h => by
    simp only [List.map_cons, List.nodup_cons] at h
    simp only [del]
    by_cases hk : k = x.1
    · rw [if_pos hk]
      cases hl : look k l with
      | none => rfl
      | some v => exact absurd (List.mem_map.2 ⟨_, look_mem hl, rfl⟩) (hk ▸ h.1)
    · rw [if_neg hk]; simp only [look, if_neg hk]; exact look_del h.2
end

theorem look_ok {M : BridgeM} (h : M.Ok) {port n : Int} (hl : look port M.bound = some n) : 0 ≤ port ∧ 0 ≤ n ∧ n < 8 := h.vals _ (look_mem hl)

theorem BridgeM.Ok.portsLen {M : BridgeM} (h : M.Ok) {i : Nat} (hi : i < 8) : (M.segs i).ports.length ≤ 16 := by
  rw [(h.ports i hi).length_eq, List.length_map]
  exact Nat.le_trans (List.length_filter_le _ _) h.len

theorem unbindM_ok {M : BridgeM} (h : M.Ok) (port : Int) : (unbindM M port).2.Ok := by
  unfold unbindM
  cases hl : look port M.bound with
  | none => exact h
  | some n =>
    obtain ⟨h0, h1, h2⟩ := look_ok h hl
    have hd := del_eq (k := port) h.keys
    have hsub : (del port M.bound).Sublist M.bound := by rw [hd]; exact List.filter_sublist
    simp only
    constructor
    · exact h.keys.sublist (hsub.map _)
    · exact fun x hx => h.vals x (hsub.subset hx)
    · exact Nat.le_trans hsub.length_le h.len
    · intro i hi
      simp only
      rw [hd, List.filter_filter]
      by_cases hin : i = n.toNat
      · subst hin
        rw [setF_eq]
        have := (h.ports n.toNat hi).filter (fun x => !(x == port))
        refine this.trans (List.Perm.of_eq ?_)
        rw [List.filter_map, List.filter_filter]
        congr 1
        refine List.filter_congr fun x hx => ?_
        simp [Bool.and_comm]
      · rw [setF_ne _ _ hin]
        refine (h.ports i hi).trans (List.Perm.of_eq ?_)
        congr 1
        refine List.filter_congr fun x hx => ?_
        by_cases hx1 : x.1 = port
        · have : x = (port, n) := Prod.ext hx1 (look_get h.keys hl hx hx1)
          subst this
          have : ((n == (i : Int)) : Bool) = false := by
            simp only [beq_eq_false_iff_ne, ne_eq]; omega
          simp [this]
        · simp [hx1]
    · intro i hi
      by_cases hin : i = n.toNat
      · subst hin; simp only [setF_eq]; exact withoutM_rise _ _ (h.rise _ hi)
      · simp only [setF_ne _ _ hin]; exact h.rise i hi
    · intro i hi
      by_cases hin : i = n.toNat
      · subst hin; simp only [setF_eq]; exact h.peers _ hi
      · simp only [setF_ne _ _ hin]; exact h.peers i hi
    · intro i hi
      by_cases hin : i = n.toNat
      · subst hin; simp only [setF_eq]; exact h.prise _ hi
      · simp only [setF_ne _ _ hin]; exact h.prise i hi

theorem unbindM_look {M : BridgeM} (h : M.Ok) (port : Int) : look port (unbindM M port).2.bound = none := by
  unfold unbindM
  cases hl : look port M.bound with
  | none => exact hl
  | some n => exact look_del h.keys

theorem bindGo_ok {M : BridgeM} (h : M.Ok) {port : Int} (hp : 0 ≤ port) {k : Nat} (hk : k < 8) (hn : look port M.bound = none) (hlen : M.bound.length < 16) : (bindGo M port k).Ok := by
  unfold bindGo
  rw [upd_new hn]
  constructor
  · simp only [List.map_append, List.map_cons, List.map_nil]
    refine List.nodup_append.2 ⟨h.keys, by simp, ?_⟩
    intro a ha b hb hab
    simp at hb
    subst hab
    obtain ⟨x, hx, hx2⟩ := List.mem_map.1 ha
    exact look_none hn x hx (by rw [hx2, hb])
  · intro x hx
    rcases List.mem_append.1 hx with hx | hx
    · exact h.vals x hx
    · simp at hx; subst hx; simp; omega
  · simp; omega
  · intro i hi
    simp only [List.filter_append, List.map_append]
    by_cases hin : i = k
    · subst hin
      simp only [setF_eq]
      refine (withM_perm _ _).trans ?_
      simp
      refine List.Perm.trans ?_ (List.perm_append_singleton _ _).symm
      exact List.Perm.cons _ (h.ports i hi)
    · simp only [setF_ne _ _ hin]
      have : ((k : Int) == (i : Int)) = false := by simp only [beq_eq_false_iff_ne, ne_eq]; omega
      simp [this]
      exact h.ports i hi
  · intro i hi
    by_cases hin : i = k
    · subst hin; simp only [setF_eq]; exact withM_rise _ _ (h.rise _ hi)
    · simp only [setF_ne _ _ hin]; exact h.rise i hi
  · intro i hi
    by_cases hin : i = k
    · subst hin; simp only [setF_eq]; exact h.peers _ hi
    · simp only [setF_ne _ _ hin]; exact h.peers i hi
  · intro i hi
    by_cases hin : i = k
    · subst hin; simp only [setF_eq]; exact h.prise _ hi
    · simp only [setF_ne _ _ hin]; exact h.prise i hi

theorem unbindM_len {M : BridgeM} (h : M.Ok) {port was : Int} (hl : look port M.bound = some was) : (unbindM M port).2.bound.length < 16 := by
  unfold unbindM
  rw [hl]
  simp only
  have hm := look_mem hl
  rw [del_eq h.keys]
  have : (M.bound.filter fun x => !(x.1 == port)).length < M.bound.length := by
    refine List.length_filter_lt_length_iff_exists.2 ⟨_, hm, by simp⟩
  have := h.len
  omega

theorem bindM_ok {M : BridgeM} (h : M.Ok) (port to : Int) : (bindM M port to).2.Ok := by
  unfold bindM
  split
  · exact h
  · rename_i hc
    have h1 : 0 ≤ port ∧ 0 ≤ to ∧ to < 8 := by omega
    split
    · rename_i was hl
      split
      · exact h
      · exact bindGo_ok (unbindM_ok h port) h1.1 (by omega) (unbindM_look h port) (unbindM_len h hl)
    · rename_i hl
      split
      · exact h
      · refine bindGo_ok (unbindM_ok h port) h1.1 (by omega) (unbindM_look h port) ?_
        unfold unbindM
        rw [hl]
        simp only
        omega

theorem peers_ok {M : BridgeM} (h : M.Ok) (k : Nat) (x : SegM) (h1 : x.ports = (M.segs k).ports) (h2 : k < 8 → x.peers.length ≤ 8) (h3 : k < 8 → x.peers.Pairwise (· ≤ ·)) : (⟨setF M.segs k x, M.bound⟩ : BridgeM).Ok where
  keys := h.keys
  vals := h.vals
  len := h.len
  ports i hi := by
    by_cases hin : i = k
    · subst hin; simp only [setF_eq, h1]; exact h.ports _ hi
    · simp only [setF_ne _ _ hin]; exact h.ports i hi
  rise i hi := by
    by_cases hin : i = k
    · subst hin; simp only [setF_eq, h1]; exact h.rise _ hi
    · simp only [setF_ne _ _ hin]; exact h.rise i hi
  peers i hi := by
    by_cases hin : i = k
    · subst hin; simp only [setF_eq]; exact h2 hi
    · simp only [setF_ne _ _ hin]; exact h.peers i hi
  prise i hi := by
    by_cases hin : i = k
    · subst hin; simp only [setF_eq]; exact h3 hi
    · simp only [setF_ne _ _ hin]; exact h.prise i hi
theorem peerM_ok {M : BridgeM} (h : M.Ok) (n t : Int) : (peerM M n t).2.Ok := by
  unfold peerM
  split
  · exact h
  · split
    · exact h
    · split
      · exact h
      · exact peers_ok h _ _ rfl (fun _ => by simp only [withM_length]; omega) (fun hi => withM_rise _ _ (h.prise _ hi))
theorem unpeerM_ok {M : BridgeM} (h : M.Ok) (n t : Int) : (unpeerM M n t).2.Ok := by
  unfold unpeerM
  split
  · exact h
  · split
    · exact peers_ok h _ _ rfl (fun hi => Nat.le_trans (withoutM_length _ _) (h.peers _ hi)) (fun hi => withoutM_rise _ _ (h.prise _ hi))
    · exact h
theorem newM_ok (room life : Int) : (newM room life).Ok := by
  constructor <;> simp [newM]
end Go.Proofs.Ytmhfpiincnadiaa
