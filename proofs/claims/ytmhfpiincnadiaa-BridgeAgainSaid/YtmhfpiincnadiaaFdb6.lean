/- fdb: drop, Forget. -/
import Derived.Test.YtmhfpiincnadiaaFdb5
namespace Go.Proofs.Ytmhfpiincnadiaa
open Go.RowKit
open Go.ChangeMaps (setBlock)
set_option linter.unusedSimpArgs false
set_option linter.unusedVariables false

theorem erase_filter : ∀ (es : List MapEntry) (i : Nat) (e : MapEntry), (es.map (·.born)).Nodup → es[i]? = some e → es.eraseIdx i = es.filter fun x => !(x.born == e.born)
  | [], i, e, _, h => by simp at h
  | x :: es, 0, e, hn, h => by
    simp only [List.getElem?_cons_zero, Option.some.injEq] at h
    subst h
    simp only [List.map_cons, List.nodup_cons] at hn
    simp only [List.eraseIdx_cons_zero, List.filter_cons, beq_self_eq_true, Bool.not_true, Bool.false_eq_true, if_false]
    refine (List.filter_eq_self.2 fun y hy => ?_).symm
    have : y.born ≠ x.born := fun hh => hn.1 (hh ▸ List.mem_map.2 ⟨y, hy, rfl⟩)
    simp [this]
  | x :: es, i + 1, e, hn, h => by
    simp only [List.map_cons, List.nodup_cons] at hn
    simp only [List.getElem?_cons_succ] at h
    have hx : x.born ≠ e.born := fun hh => hn.1 (hh ▸ List.mem_map.2 ⟨e, List.mem_of_getElem? h, rfl⟩)
    have ih := erase_filter es i e hn.2 h
    simp [List.filter_cons, hx, ih]

theorem nodup_get {α β : Type} (f : α → β) : ∀ {l : List α} {i j : Nat} {a b : α}, (l.map f).Nodup → l[i]? = some a → l[j]? = some b → f a = f b → i = j
  | [], _, _, _, _, _, h, _, _ => by simp at h
  | x :: l, 0, 0, _, _, _, _, _, _ => rfl
  | x :: l, 0, j + 1, a, b, hn, h, h', he => by
    simp at h h'
    subst h
    simp only [List.map_cons, List.nodup_cons] at hn
    exact absurd (List.mem_map.2 ⟨b, List.mem_of_getElem? h', he.symm⟩) hn.1
  | x :: l, i + 1, 0, a, b, hn, h, h', he => by
    simp at h h'
    subst h'
    simp only [List.map_cons, List.nodup_cons] at hn
    exact absurd (List.mem_map.2 ⟨a, List.mem_of_getElem? h, he⟩) hn.1
  | x :: l, i + 1, j + 1, a, b, hn, h, h', he => by
    simp at h h'
    simp only [List.map_cons, List.nodup_cons] at hn
    rw [nodup_get f hn.2 h h' he]

theorem run_delete_entry {κ : Type} [DecidableEq κ] {P : Program} {T K E : TypeId} {ks : κ → Value} (law : KeyLaw P K ks) (hu : P.underlying T = some (.map K E)) (hinj : ∀ a b, ks a = ks b → a = b)
    {es : Array MapEntry} {clock : Nat} {l : List (κ × Value)} (hm : IsMap ks es clock l) (hkn : (l.map (·.1)).Nodup) {e : MapEntry} (he : e ∈ es.toList) (ty K' : TypeId) :
    ∃ es' : Array MapEntry, (∀ w mb, blk w mb = some (.map es clock) → (Builtin.delete_ #[T, K'] ty #[.map (some mb), e.key]).run P w = .ok (.tuple #[]) (setBlock w mb (.map es' clock))) ∧
      es'.toList = es.toList.filter fun x => !(x.born == e.born) := by
  obtain ⟨j, hj⟩ := List.getElem?_of_mem he
  have h5 := congrArg (·[j]?) hm.kv
  simp only [List.getElem?_map, hj, Option.map_some] at h5
  obtain ⟨x, hx, hx2⟩ := Option.map_eq_some_iff.1 h5.symm
  obtain ⟨k, v⟩ := x
  simp only [Prod.mk.injEq] at hx2
  obtain ⟨r, hr, hf⟩ := law.find k es.toList l hm.kv
  have hempty : ∀ em w, (Instr.checkKey em 10000 K (ks k)).run P w = .ok () w := fun em w => law.check em k w
  rw [← hx2.1]
  have hmem : ∀ (l : List (κ × Value)), (k, v) ∈ l → look k l ≠ none := fun l => by
    induction l with
    | nil => intro h; cases h
    | cons y l ih =>
      intro h
      simp only [look]
      split
      · simp
      · rename_i hne
        rcases List.mem_cons.1 h with rfl | h
        · exact absurd rfl hne
        · exact ih h
  cases r with
  | none => exact absurd hf.1 (hmem l (List.mem_of_getElem? hx))
  | some y =>
    obtain ⟨i, u⟩ := y
    obtain ⟨h1, h2, h3, h4⟩ := hf
    have hij : i = j := nodup_get (·.1) hkn h2 hx rfl
    subst hij
    have hi : i < es.size := by have := (List.getElem?_eq_some_iff.1 hj).1; simpa using this
    refine ⟨es.eraseIdxIfInBounds i, fun w mb hb => ?_, ?_⟩
    · simp only [Builtin.delete_, Sem.run_bind, run_underlying hu, Result.andThen, run_get hb, hempty, hr, run_set _ hb, Sem.run_pure, List.getElem?_toArray, List.getElem?_cons_zero, List.getElem?_cons_succ]
    · have he2 : (es.eraseIdxIfInBounds i).toList = es.toList.eraseIdx i := by simp [Array.eraseIdxIfInBounds, hi]
      rw [he2]
      exact erase_filter _ _ _ hm.nodup hj

theorem mac_inj (a b : Mac) (h : a.v = b.v) : a = b := by
  obtain ⟨a0, a1, a2, a3, a4, a5⟩ := a
  obtain ⟨b0, b1, b2, b3, b4, b5⟩ := b
  simp only [Mac.v, Mac.cells, Value.agg.injEq, Array.mk.injEq, List.cons.injEq, Value.int.injEq, true_and, and_true] at h
  have e : ∀ x y : UInt8, (x.toNat : Int) = y.toNat → x = y := fun x y h => UInt8.toNat_inj.1 (by omega)
  simp only [Mac.mk.injEq]
  exact ⟨e _ _ h.1, e _ _ h.2.1, e _ _ h.2.2.1, e _ _ h.2.2.2.1, e _ _ h.2.2.2.2.1, e _ _ h.2.2.2.2.2⟩

/-- A map with fewer entries. -/
theorem IsMap.filter {κ : Type} {ks : κ → Value} {es es' : Array MapEntry} {clock : Nat} : ∀ {l : List (κ × Value)}, IsMap ks es clock l → ∀ (q : MapEntry → Bool) (q' : κ × Value → Bool),
    (∀ e x, e.key = ks x.1 → e.val = x.2 → x ∈ l → q e = q' x) → es'.toList = es.toList.filter q → IsMap ks es' clock (l.filter q') := fun {l} hm q q' hq he => by
  refine ⟨?_, fun e h => hm.born e (by rw [he] at h; exact (List.mem_filter.1 h).1), ?_⟩
  · rw [he]
    have : ∀ (a : List MapEntry) (b : List (κ × Value)), (∀ x ∈ b, x ∈ l) → a.map (fun e => (e.key, e.val)) = b.map (fun x => (ks x.1, x.2)) → (a.filter q).map (fun e => (e.key, e.val)) = (b.filter q').map (fun x => (ks x.1, x.2)) := by
      intro a
      induction a with
      | nil => intro b _ h; cases b with
        | nil => rfl
        | cons x b => simp at h
      | cons e a ih =>
        intro b hb h
        cases b with
        | nil => simp at h
        | cons x b =>
          simp only [List.map_cons, List.cons.injEq, Prod.mk.injEq] at h
          have := hq e x h.1.1 h.1.2 (hb x (by simp))
          have ih2 := ih b (fun y hy => hb y (List.mem_cons_of_mem _ hy)) h.2
          simp only [List.filter_cons, this]
          split
          · simp [h.1.1, h.1.2, ih2]
          · exact ih2
    exact this _ _ (fun _ h => h) hm.kv
  · rw [he]
    exact hm.nodup.sublist (List.filter_sublist.map _)
end Go.Proofs.Ytmhfpiincnadiaa
