/- The model of fdb: what add and Learn do. -/
import Derived.Test.YtmhfpiincnadiaaFdb4
namespace Go.Proofs.Ytmhfpiincnadiaa
open Go.RowKit
open Go.ChangeMaps (setBlock)
set_option linter.unusedSimpArgs false
set_option linter.unusedVariables false

def leastE : List EntM → Option EntM
  | [] => none
  | e :: l => match leastE l with
    | none => some e
    | some m => if m.key < e.key then some m else some e
def eraseE (mac : Mac) : List EntM → List EntM
  | [] => []
  | e :: l => if mac = e.mac then l else e :: eraseE mac l
def makeRoom (room : Int) (l : List EntM) : List EntM :=
  if (l.length : Int) < room then l else match leastE l with | some m => eraseE m.mac l | none => l
def addM (B : BaseM) (e : EntM) : BaseM := { B with ents := makeRoom B.room B.ents ++ [e] }

theorem leastE_spec : ∀ (l : List EntM), l ≠ [] → ∃ m, leastE l = some m ∧ m ∈ l ∧ ∀ x ∈ l, m.key ≤ x.key
  | [], h => absurd rfl h
  | e :: l, _ => by
    simp only [leastE]
    by_cases hl : l = []
    · subst hl
      exact ⟨e, rfl, by simp, by simp⟩
    · obtain ⟨m, hm, hin, hle⟩ := leastE_spec l hl
      rw [hm]
      by_cases hk : m.key < e.key
      · refine ⟨m, by simp [hk], List.mem_cons_of_mem _ hin, fun x hx => ?_⟩
        rcases List.mem_cons.1 hx with rfl | hx
        · omega
        · exact hle x hx
      · refine ⟨e, by simp [hk], by simp, fun x hx => ?_⟩
        rcases List.mem_cons.1 hx with rfl | hx
        · omega
        · have := hle x hx; omega

theorem ekey_inj {a b : EntM} (h : a.key = b.key) : a.mac = b.mac := by
  have p := key_range a.mac
  have q := key_range b.mac
  unfold EntM.key at h
  exact key_inj (by omega)

/-- Entries with their blocks: the same erasing. -/
def eraseL (mac : Mac) : List (EntM × Nat) → List (EntM × Nat)
  | [] => []
  | e :: l => if mac = e.1.mac then l else e :: eraseL mac l
theorem eraseL_fst (mac : Mac) : ∀ L : List (EntM × Nat), (eraseL mac L).map (·.1) = eraseE mac (L.map (·.1))
  | [] => rfl
  | x :: L => by
    simp only [eraseL, List.map_cons, eraseE]
    split
    · rfl
    · simp [eraseL_fst mac L]
theorem eraseL_del (mac : Mac) : ∀ L : List (EntM × Nat), del mac (L.map fun x => (x.1.mac, ptr x.2)) = (eraseL mac L).map fun x => (x.1.mac, ptr x.2)
  | [] => rfl
  | x :: L => by
    simp only [eraseL, List.map_cons, del]
    split
    · rfl
    · simp [eraseL_del mac L]
theorem eraseL_sub (mac : Mac) : ∀ L : List (EntM × Nat), (eraseL mac L).Sublist L
  | [] => List.Sublist.refl _
  | x :: L => by
    simp only [eraseL]
    split
    · exact List.sublist_cons_self _ _
    · exact (eraseL_sub mac L).cons_cons x
theorem eraseL_len (mac : Mac) : ∀ L : List (EntM × Nat), (∃ x ∈ L, x.1.mac = mac) → (eraseL mac L).length + 1 = L.length
  | [], h => by obtain ⟨x, hx, _⟩ := h; cases hx
  | x :: L, h => by
    simp only [eraseL]
    split
    · rfl
    · rename_i hne
      obtain ⟨y, hy, hm⟩ := h
      rcases List.mem_cons.1 hy with rfl | hy
      · exact absurd hm.symm hne
      · simp [eraseL_len mac L ⟨y, hy, hm⟩]
theorem lookE_look {mac : Mac} {L : List (EntM × Nat)} (h : lookE mac (L.map (·.1)) = none) : look mac (L.map fun x => (x.1.mac, ptr x.2)) = none := by
  rw [look_ents]
  rw [lookE_find] at h
  cases hf : L.find? fun x => decide (mac = x.1.mac) with
  | none => rfl
  | some y => rw [hf] at h; cases h
theorem lookE_none {mac : Mac} : ∀ {l : List EntM}, lookE mac l = none → ∀ x ∈ l, x.mac ≠ mac
  | [], _, x, hx => by cases hx
  | e :: l, h, x, hx => by
    simp only [lookE] at h
    split at h
    · cases h
    · rename_i hne
      rcases List.mem_cons.1 hx with rfl | hx
      · exact fun hh => hne hh.symm
      · exact lookE_none h x hx

theorem lookE_of {mac : Mac} : ∀ {l : List EntM}, (∀ x ∈ l, x.mac ≠ mac) → lookE mac l = none
  | [], _ => rfl
  | e :: l, h => by
    simp only [lookE]
    rw [if_neg (fun hh => h e (by simp) hh.symm)]
    exact lookE_of (fun x hx => h x (List.mem_cons_of_mem _ hx))

/-- A base with one entry more, in a block of its own, and maybe with some less. -/
theorem BaseIs.push {w : World} {p mb : Nat} {L0 L : List (EntM × Nat)} {room life : Int} (h : BaseIs w p mb L0 room life) (hs : L.Sublist L0) {e : EntM} {b : Nat} {w' : World} {es' : Array MapEntry} {clock' : Nat}
    (hk : ∀ k, k ∈ p :: L0.map (·.2) → blk w' k = blk w k) (hmb : blk w' mb = some (.map es' clock')) (hm : IsMap Mac.v es' clock' ((L ++ [(e, b)]).map fun x => (x.1.mac, ptr x.2)))
    (hb : blk w' b = some (.cells e.cells 67 (0, 0))) (hn : b ∉ p :: mb :: L0.map (·.2)) (hne : ∀ x ∈ L0, x.1.mac ≠ e.mac) (hok : e.ok) (hl : (L.length : Int) + 1 ≤ room) :
    BaseIs w' p mb (L ++ [(e, b)]) room life where
  base := by rw [hk p (by simp)]; exact h.base
  map := ⟨es', clock', hmb, hm⟩
  ents x hx := by
    rcases List.mem_append.1 hx with hx | hx
    · have hx0 := hs.subset hx
      rw [hk x.2 (by simp; exact .inr ⟨x.1, hx0⟩)]
      exact h.ents x hx0
    · simp only [List.mem_singleton] at hx; subst hx; exact hb
  nodup := by
    have h1 := h.nodup
    have hsub : (p :: mb :: L.map (·.2)).Sublist (p :: mb :: L0.map (·.2)) := ((hs.map _).cons_cons mb).cons_cons p
    have h2 := h1.sublist hsub
    rw [List.map_append]
    have : (p :: mb :: (L.map (·.2) ++ [b])) = (p :: mb :: L.map (·.2)) ++ [b] := rfl
    simp only [List.map_cons, List.map_nil]
    rw [this]
    exact List.nodup_append.2 ⟨h2, by simp, fun a ha c hc => by simp only [List.mem_singleton] at hc; subst hc; intro hh; subst hh; exact hn (hsub.subset ha)⟩
  macs := by
    rw [List.map_append]
    refine List.nodup_append.2 ⟨h.macs.sublist (hs.map _), by simp, fun a ha c hc => ?_⟩
    simp only [List.map_cons, List.map_nil, List.mem_singleton] at hc
    subst hc
    obtain ⟨x, hx, rfl⟩ := List.mem_map.1 ha
    exact hne x (hs.subset hx)
  ok x hx := by
    rcases List.mem_append.1 hx with hx | hx
    · exact h.ok x (hs.subset hx)
    · simp only [List.mem_singleton] at hx; subst hx; exact hok
  room1 := h.room1
  room2 := h.room2
  len := by simp; omega
  life0 := h.life0
  life1 := h.life1

theorem nodup_mac : ∀ {L : List (EntM × Nat)} {x y : EntM × Nat}, (L.map (·.1.mac)).Nodup → x ∈ L → y ∈ L → x.1.mac = y.1.mac → x = y
  | [], _, _, _, h, _, _ => by cases h
  | z :: L, x, y, hn, hx, hy, h => by
    simp only [List.map_cons, List.nodup_cons] at hn
    rcases List.mem_cons.1 hx with e1 | h1 <;> rcases List.mem_cons.1 hy with e2 | h2
    · rw [e1, e2]
    · exact absurd (List.mem_map.2 ⟨y, h2, by rw [← h, e1]⟩) hn.1
    · exact absurd (List.mem_map.2 ⟨x, h1, by rw [h, e2]⟩) hn.1
    · exact nodup_mac hn.2 h1 h2 h

theorem add_any {w : World} {p : Nat} {F : List Nat} {B : BaseM} (h : BaseAt w p F B) (e : EntM) (he : e.ok) (hno : lookE e.mac B.ents = none) :
    Calls Try.prog 92 #[ptr p, .agg e.cells] w fun r w' => r = .returned (.int .i64 0) ∧ ∃ F', BaseAt w' p F' (addM B e) ∧ Mod F w w' ∧ ∀ b, b ∈ F' → b ∈ F ∨ w.heap.size ≤ b := by
  have hF := h.lt
  obtain ⟨mb, L, h1, h2, rfl⟩ := h
  obtain ⟨es, clock, h3, h4⟩ := h1.map
  rw [← h2] at hno
  have hlk := lookE_look hno
  have hne := lookE_none hno
  have hne' : ∀ x ∈ L, x.1.mac ≠ e.mac := fun x hx => hne x.1 (List.mem_map.2 ⟨x, hx, rfl⟩)
  have hsz : es.size = L.length := by simpa using congrArg List.length h4.kv
  have hnd := h1.nodup
  simp only [List.nodup_cons] at hnd
  have hpm : p ≠ mb := fun hh => hnd.1 (by rw [hh]; simp)
  have hps := hF p (by simp)
  have hms := hF mb (by simp)
  have hFk : ∀ k, k ∈ p :: L.map (·.2) → k < w.heap.size ∧ k ≠ mb := fun k hk => by
    rcases List.mem_cons.1 hk with hk | hk
    · subst hk; exact ⟨hps, hpm⟩
    · exact ⟨hF k (List.mem_cons_of_mem _ (List.mem_cons_of_mem _ hk)), fun hh => hnd.2.1 (hh ▸ hk)⟩
  have hfresh : w.heap.size ∉ p :: mb :: L.map (·.2) := fun hh => by have := hF _ hh; omega
  have hnew : ∀ (L1 : List (EntM × Nat)), L1.Sublist L → ∀ b, b ∈ p :: mb :: (L1 ++ [(e, w.heap.size)]).map (·.2) → b ∈ p :: mb :: L.map (·.2) ∨ w.heap.size ≤ b := fun L1 hs b hb => by
    simp only [List.map_append, List.mem_cons, List.mem_append, List.map_cons, List.map_nil, List.not_mem_nil, or_false] at hb
    rcases hb with hb | hb | hb | hb
    · exact .inl (by simp [hb])
    · exact .inl (by simp [hb])
    · exact .inl (List.mem_cons_of_mem _ (List.mem_cons_of_mem _ ((hs.map _).subset hb)))
    · exact .inr (by omega)
  by_cases hroom : (es.size : Int) < B.room
  · obtain ⟨es', clock', hu, hm⟩ := run_update mac_law Try.underlying112 h4 e.mac (ptr w.heap.size)
    refine (add_room p mb es clock B.room B.life e w h1.base h3 hroom es' clock' (fun W hW => hu W mb hW)).mono ?_
    rintro r w' ⟨rfl, n, rfl⟩
    rw [upd_new hlk] at hm
    have hmod : Mod (p :: mb :: L.map (·.2)) w (setBlock ((w.alloc (.cells #[.int .u8 (e.mac.a0.toNat : Int), .int .u8 (e.mac.a1.toNat : Int), .int .u8 (e.mac.a2.toNat : Int), .int .u8 (e.mac.a3.toNat : Int), .int .u8 (e.mac.a4.toNat : Int), .int .u8 (e.mac.a5.toNat : Int), .bool e.tun, .int .i64 e.n, .int .u64 e.at_, .bool false] 67)).drewN n) mb (.map es' clock')) := by (repeat (first | exact Mod.refl _ _ | refine Mod.alloc ?_ _ | refine Mod.drewN ?_ _ | refine Mod.drew ?_ | refine Mod.setCell ?_ (by first | (simp; done) | (simp; omega)) _ | refine Mod.setBlock ?_ (by first | (simp; done) | (simp; omega)) _ | assumption))
    refine ⟨rfl, p :: mb :: (L ++ [(e, w.heap.size)]).map (·.2), ⟨mb, L ++ [(e, w.heap.size)], ?_, ?_, rfl⟩, hmod, hnew L (List.Sublist.refl _)⟩
    · refine h1.push (List.Sublist.refl _) ?_ (heap_setBlock_at _ _ _ (by simp; omega)) (by simpa using hm) ?_ hfresh hne' he (by omega)
      · intro k hk
        obtain ⟨hk1, hk2⟩ := hFk k hk
        rw [heap_setBlock_ne _ _ _ _ hk2, heap_drewN, heap_alloc_lt _ _ _ hk1]
      · rw [heap_setBlock_ne _ _ _ _ (by omega), heap_drewN, heap_alloc_at _ _ _ rfl]
    · have hl : (B.ents.length : Int) < B.room := by rw [← h2]; simp; omega
      simp [addM, makeRoom, hl, h2]
  · have hL0 : L.map (·.1) ≠ [] := fun hh => by
      have hl0 : L.length = 0 := by simpa using congrArg List.length hh
      have := h1.room1
      omega
    obtain ⟨m, hm1, hm2, hm3⟩ := leastE_spec (L.map (·.1)) hL0
    obtain ⟨y, hy, rfl⟩ := List.mem_map.1 hm2
    obtain ⟨m, bm⟩ := y
    have hleast : ∀ x ∈ L, x.2 ≠ bm → m.key < x.1.key := fun x hx hxb => by
      have h5 := hm3 x.1 (List.mem_map.2 ⟨x, hx, rfl⟩)
      rcases Int.lt_or_eq_of_le h5 with h6 | h6
      · exact h6
      · exact absurd (congrArg Prod.snd (nodup_mac h1.macs hy hx (ekey_inj h6))).symm hxb
    obtain ⟨es1, hd, hmap1⟩ := run_delete mac_law Try.underlying112 h4 m.mac 0 63
    rw [eraseL_del] at hmap1
    have hlk1 : look e.mac ((eraseL m.mac L).map fun x => (x.1.mac, ptr x.2)) = none := by
      apply lookE_look
      refine lookE_of fun x hx => ?_
      obtain ⟨z, hz, rfl⟩ := List.mem_map.1 hx
      exact hne' z ((eraseL_sub _ _).subset hz)
    obtain ⟨es', clock', hu, hm⟩ := run_update mac_law Try.underlying112 hmap1 e.mac (ptr w.heap.size)
    have hlen2 : (L.length : Int) ≤ B.room := h1.len
    have hr2 := h1.room2
    refine (add_full p mb es clock B.room B.life e m bm L w h1.base hpm h3 h4 (by omega) h1.room1 (by omega) hsz (h1.ents _ hy) h1.ents hleast hy hnd.2.2 es1 es' clock clock' (fun W hW => hd W mb hW) (fun W hW => hu W mb hW)).mono ?_
    rintro r w' ⟨rfl, w1, hw1, w2, n, hw2, rfl⟩
    rw [upd_new hlk1] at hm
    have hs1 := hw1.size
    have hs2 := hw2.size
    simp only [World.size_alloc] at hs1
    rw [size_setBlock] at hs2
    have hkeep : ∀ k, k < w.heap.size → k ≠ mb → blk (setBlock (w2.drewN n) mb (.map es' clock')) k = blk w k := fun k hk hkm => by
      rw [heap_setBlock_ne _ _ _ _ hkm, heap_drewN, hw2.block k (by rw [size_setBlock]; omega) (by simp), heap_setBlock_ne _ _ _ _ hkm, hw1.block k (by simp; omega) (by simp), heap_alloc_lt _ _ _ hk]
    have hmod : Mod (p :: mb :: L.map (·.2)) w (setBlock (w2.drewN n) mb (.map es' clock')) :=
      ⟨hw2.os.trans hw1.os, hw2.tape.trans hw1.tape, hw2.output.trans hw1.output, by rw [size_setBlock, size_drewN]; omega, fun k hk hn => hkeep k hk (fun hh => hn (by simp [hh]))⟩
    refine ⟨rfl, p :: mb :: (eraseL m.mac L ++ [(e, w.heap.size)]).map (·.2), ⟨mb, eraseL m.mac L ++ [(e, w.heap.size)], ?_, ?_, rfl⟩, hmod, hnew _ (eraseL_sub _ _)⟩
    · have hel := eraseL_len m.mac L ⟨_, hy, rfl⟩
      refine h1.push (eraseL_sub _ _) (fun k hk => hkeep k (hFk k hk).1 (hFk k hk).2) (heap_setBlock_at _ _ _ (by rw [size_drewN]; omega)) (by simpa using hm) ?_ hfresh hne' he (by omega)
      rw [heap_setBlock_ne _ _ _ _ (by omega), heap_drewN, hw2.block _ (by rw [size_setBlock]; omega) (by simp), heap_setBlock_ne _ _ _ _ (by omega), hw1.block _ (by simp) (by simp), heap_alloc_at _ _ _ rfl]
    · have hl : ¬ (B.ents.length : Int) < B.room := by rw [← h2]; simp; omega
      have hm1' : leastE B.ents = some m := by rw [← h2]; exact hm1
      simp [addM, makeRoom, hl, hm1', eraseL_fst, h2]
end Go.Proofs.Ytmhfpiincnadiaa
