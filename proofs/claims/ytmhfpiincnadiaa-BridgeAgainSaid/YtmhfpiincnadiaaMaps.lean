/- Maps as association lists in the order in which keys came: what lookup, update and delete run to. -/
import Derived.Test.YtmhfpiincnadiaaLib
import Derived.Maps.RangeRun
import Derived.MapKept
namespace Go.Proofs.Ytmhfpiincnadiaa
open Go.RowKit
open Go.ChangeMaps (setBlock)
set_option linter.unusedSimpArgs false
set_option linter.unusedVariables false

theorem run_get {P : Program} {w : World} {r : Nat} {es : Array MapEntry} {clock : Nat} (hb : blk w r = some (.map es clock)) : (getObj r).run P w = .ok (.map es clock) w := by
  unfold blk at hb; simp [getObj, Sem.run, hb]
theorem run_set {P : Program} {w : World} {r : Nat} {es : Array MapEntry} {clock : Nat} (o : Obj) (hb : blk w r = some (.map es clock)) : (setObj r o).run P w = .ok () (setBlock w r o) := by
  unfold blk at hb; simp [setObj, Sem.run, hb, setBlock]
@[go_sem] theorem heap_setBlock_ne (w : World) (r : Nat) (o : Obj) (b : Nat) (h : b ≠ r) : blk (setBlock w r o) b = blk w b := by
  simp [blk, setBlock, Ne.symm h]
@[go_sem] theorem heap_setBlock_at (w : World) (r : Nat) (o : Obj) (h : r < w.heap.size) : blk (setBlock w r o) r = some o := by
  simp [blk, setBlock, h]
@[go_sem] theorem size_setBlock (w : World) (r : Nat) (o : Obj) : (setBlock w r o).heap.size = w.heap.size := by simp [setBlock]
theorem Mod.setBlock {S : List Nat} {w w' : World} (h : Mod S w w') {r : Nat} (hp : r ∈ S ∨ w.heap.size ≤ r) (o : Obj) : Mod S w (setBlock w' r o) :=
  ⟨h.os, h.tape, h.output, by rw [size_setBlock]; exact h.size, fun k hk hn => by
    rw [heap_setBlock_ne _ _ _ _ (fun e => by rcases hp with hp | hp; · exact hn (e ▸ hp)
                                              · omega), h.block k hk hn]⟩
@[go_sem] theorem cell_setBlock_ne (w : World) (r : Nat) (o : Obj) (b i : Nat) (h : b ≠ r) : (setBlock w r o).cell? ⟨b, i, none⟩ = w.cell? ⟨b, i, none⟩ := by
  have := heap_setBlock_ne w r o b h; unfold blk at this; simp [World.cell?, this]

theorem run_len {P : Program} {T K E : TypeId} {w : World} {mb : Nat} {es : Array MapEntry} {clock : Nat} (hu : P.underlying T = some (.map K E)) (ty : TypeId) (hb : blk w mb = some (.map es clock)) :
    (Builtin.len_ #[T] ty #[.map (some mb)]).run P w = .ok (.int .i64 (es.size : Int)) w := by
  simp only [Builtin.len_, List.getElem?_toArray, List.getElem?_cons_zero, Sem.run_bind, run_underlying hu, Result.andThen, run_get hb, Sem.run_pure]
  rfl

/-! ### association lists -/
section
variable {κ : Type} [DecidableEq κ] {α : Type}
def look (k : κ) : List (κ × α) → Option α
  | [] => none
  | (k', v) :: l => if k = k' then some v else look k l
def upd (k : κ) (v : α) : List (κ × α) → List (κ × α)
  | [] => [(k, v)]
  | (k', v') :: l => if k = k' then (k', v) :: l else (k', v') :: upd k v l
def del (k : κ) : List (κ × α) → List (κ × α)
  | [] => []
  | (k', v') :: l => if k = k' then l else (k', v') :: del k l
end

section
variable {κ : Type} [DecidableEq κ]
/-- What a search for a key says. -/
def Found (k : κ) (l : List (κ × Value)) : Option (Nat × Value) → Prop
  | none => look k l = none ∧ (∀ v, upd k v l = l ++ [(k, v)]) ∧ del k l = l
  | some (i, v) => look k l = some v ∧ l[i]? = some (k, v) ∧ (∀ u, upd k u l = l.set i (k, u)) ∧ del k l = l.eraseIdx i

theorem found_nil (k : κ) : Found k [] none := ⟨rfl, fun _ => rfl, rfl⟩
theorem found_eq (k : κ) (v : Value) (l : List (κ × Value)) : Found k ((k, v) :: l) (some (0, v)) := by
  simp [Found, look, upd, del]
theorem found_ne {k k' : κ} (h : k ≠ k') (v : Value) {l : List (κ × Value)} {r : Option (Nat × Value)} (hr : Found k l r) :
    Found k ((k', v) :: l) (r.map fun x => (x.1 + 1, x.2)) := by
  cases r with
  | none => obtain ⟨h1, h2, h3⟩ := hr; simp [Found, look, upd, del, h, h1, h2, h3]
  | some x => obtain ⟨i, u⟩ := x; obtain ⟨h1, h2, h3, h4⟩ := hr; simp [Found, look, upd, del, h, h1, h2, h3, h4]

/-- How keys of one type are told: a check of one, a search for one. -/
structure KeyLaw (P : Program) (K : TypeId) (ks : κ → Value) : Prop where
  check : ∀ (em : Bool) (k : κ) (w : World), (Instr.checkKey em 10000 K (ks k)).run P w = .ok () w
  find : ∀ (k : κ) (es : List MapEntry) (l : List (κ × Value)), es.map (fun e => (e.key, e.val)) = l.map (fun x => (ks x.1, x.2)) →
    ∃ r, (∀ w, (Instr.findKey K (ks k) es).run P w = .ok r w) ∧ Found k l r
  same : ∀ k, Instr.sameBits 10000 (ks k) (ks k) = true

theorem findNow_int (kd : IntKind) (k : Int) : ∀ (es : List MapEntry) (l : List (Int × Value)) (j : Nat), es.map (fun e => (e.key, e.val)) = l.map (fun x => (Value.int kd x.1, x.2)) →
    ∃ r, Instr.findNow (.int kd) (.int kd k) es j = some (r.map fun x => (x.1 + j, x.2)) ∧ Found k l r
  | [], l, j, h => by
    have : l = [] := by simpa using h.symm
    subst this
    exact ⟨none, rfl, found_nil k⟩
  | e :: es, l, j, h => by
    cases l with
    | nil => simp at h
    | cons x l =>
      obtain ⟨k', v⟩ := x
      simp only [List.map_cons, List.cons.injEq, Prod.mk.injEq] at h
      obtain ⟨⟨hk, hv⟩, ht⟩ := h
      by_cases hkk : k = k'
      · subst hkk
        exact ⟨some (0, v), by simp [Instr.findNow, hk, Instr.sameNow, hv], found_eq k v l⟩
      · obtain ⟨r, hr, hf⟩ := findNow_int kd k es l (j + 1) ht
        refine ⟨r.map fun x => (x.1 + 1, x.2), ?_, found_ne hkk v hf⟩
        simp only [Instr.findNow, hk, Instr.sameNow, if_true]
        have : (k == k') = false := by simpa using hkk
        simp only [this, hr]
        cases r with
        | none => rfl
        | some x => simp; omega

theorem keyLaw_int {P : Program} {K : TypeId} {kd : IntKind} (hu : P.underlying K = some (.int kd)) : KeyLaw P K (fun n : Int => Value.int kd n) where
  check em k w := MapKept.run_checkKey (P := P) hu (by simp [MapKept.IsKey]) em 9999
  find k es l h := by
    obtain ⟨r, hr, hf⟩ := findNow_int kd k es l 0 h
    refine ⟨r, fun w => ?_, hf⟩
    simp only [Instr.findKey, Sem.run_bind, run_underlying hu, Result.andThen, hr]
    cases r <;> rfl
  same k := by simp [Instr.sameBits]

theorem findAsking_run {P : Program} {K : TypeId} {ks : κ → Value} (heq : ∀ (a b : κ) (w : World), (Op.equal K (ks a) (ks b)).run P w = .ok (decide (a = b)) w) (k : κ) :
    ∀ (es : List MapEntry) (l : List (κ × Value)) (j : Nat), es.map (fun e => (e.key, e.val)) = l.map (fun x => (ks x.1, x.2)) →
    ∃ r, (∀ w, (Instr.findAsking K (ks k) es j).run P w = .ok (r.map fun x => (x.1 + j, x.2)) w) ∧ Found k l r
  | [], l, j, h => by
    have : l = [] := by simpa using h.symm
    subst this
    exact ⟨none, fun _ => rfl, found_nil k⟩
  | e :: es, l, j, h => by
    cases l with
    | nil => simp at h
    | cons x l =>
      obtain ⟨k', v⟩ := x
      simp only [List.map_cons, List.cons.injEq, Prod.mk.injEq] at h
      obtain ⟨⟨hk, hv⟩, ht⟩ := h
      by_cases hkk : k = k'
      · subst hkk
        exact ⟨some (0, v), fun w => by simp [Instr.findAsking, hk, heq, hv, Result.andThen], found_eq k v l⟩
      · obtain ⟨r, hr, hf⟩ := findAsking_run heq k es l (j + 1) ht
        refine ⟨r.map fun x => (x.1 + 1, x.2), fun w => ?_, found_ne hkk v hf⟩
        simp only [Instr.findAsking, hk, Sem.run_bind, heq, Result.andThen, hkk, decide_false, Bool.false_eq_true, if_false, hr]
        cases r with
        | none => rfl
        | some x => simp; omega

theorem keyLaw_asking {P : Program} {K : TypeId} {ks : κ → Value} {d : TypeDesc} (hu : P.underlying K = some d) (hnow : ∀ a b, Instr.sameNow d (ks a) (ks b) = none)
    (hcheck : ∀ (em : Bool) (k : κ) (w : World), (Instr.checkKey em 10000 K (ks k)).run P w = .ok () w)
    (heq : ∀ (a b : κ) (w : World), (Op.equal K (ks a) (ks b)).run P w = .ok (decide (a = b)) w)
    (hsame : ∀ k, Instr.sameBits 10000 (ks k) (ks k) = true) : KeyLaw P K ks where
  check := hcheck
  find k es l h := by
    cases es with
    | nil =>
      have : l = [] := by simpa using h.symm
      subst this
      exact ⟨none, fun w => by simp [Instr.findKey, run_underlying hu, Result.andThen, Instr.findNow], found_nil k⟩
    | cons e es =>
      cases l with
      | nil => simp at h
      | cons x l =>
        obtain ⟨r, hr, hf⟩ := findAsking_run heq k (e :: es) (x :: l) 0 h
        refine ⟨r, fun w => ?_, hf⟩
        simp only [List.map_cons, List.cons.injEq, Prod.mk.injEq] at h
        have h0 : Instr.findNow d (ks k) (e :: es) 0 = none := by simp [Instr.findNow, h.1.1, hnow]
        simp only [Instr.findKey, Sem.run_bind, run_underlying hu, Result.andThen, h0, hr]
        cases r <;> rfl
  same := hsame
end

theorem map_erase {α β : Type} (f : α → β) : ∀ (l : List α) (i : Nat), (l.eraseIdx i).map f = (l.map f).eraseIdx i
  | [], _ => rfl
  | _ :: _, 0 => rfl
  | a :: l, i + 1 => by simp [map_erase f l i]

/-- A map's object: its entries, in the order in which keys came, each stamped once. -/
structure IsMap {κ : Type} (ks : κ → Value) (es : Array MapEntry) (clock : Nat) (l : List (κ × Value)) : Prop where
  kv : es.toList.map (fun e => (e.key, e.val)) = l.map (fun x => (ks x.1, x.2))
  born : ∀ e ∈ es.toList, e.born < clock
  nodup : (es.toList.map (·.born)).Nodup

theorem isMap_nil {κ : Type} (ks : κ → Value) : IsMap ks #[] 0 [] := ⟨rfl, by simp, by simp⟩

section
variable {κ : Type} [DecidableEq κ] {P : Program} {T K E : TypeId} {ks : κ → Value} (law : KeyLaw P K ks) (hu : P.underlying T = some (.map K E))
variable {mb : Nat} {es : Array MapEntry} {clock : Nat} {l : List (κ × Value)} (hm : IsMap ks es clock l)
include law hu hm

theorem run_lookup {w : World} (hb : blk w mb = some (.map es clock)) (k : κ) (z : Value) (hz : ∀ w, (zeroValue E).run P w = .ok z w) :
    (Instr.lookup T (.map (some mb)) (ks k) false).run P w = .ok ((look k l).getD z) w := by
  obtain ⟨r, hr, hf⟩ := law.find k es.toList l hm.kv
  simp only [Instr.lookup, Sem.run_bind, run_underlying hu, Result.andThen, run_get hb, Sem.run_pure, law.check, hr]
  cases r with
  | none => simp only [hf.1, Sem.run_bind, hz, Result.andThen, Sem.run_pure]; rfl
  | some x => obtain ⟨i, v⟩ := x; simp only [hf.1, Sem.run_pure]; rfl

theorem run_lookup_ok {w : World} (hb : blk w mb = some (.map es clock)) (k : κ) (z : Value) (hz : ∀ w, (zeroValue E).run P w = .ok z w) :
    (Instr.lookup T (.map (some mb)) (ks k) true).run P w = .ok (.tuple #[(look k l).getD z, .bool (look k l).isSome]) w := by
  obtain ⟨r, hr, hf⟩ := law.find k es.toList l hm.kv
  simp only [Instr.lookup, Sem.run_bind, run_underlying hu, Result.andThen, run_get hb, Sem.run_pure, law.check, hr]
  cases r with
  | none => simp only [hf.1, Sem.run_bind, hz, Result.andThen, Sem.run_pure]; rfl
  | some x => obtain ⟨i, v⟩ := x; simp only [hf.1, Sem.run_pure]; rfl

theorem run_update (k : κ) (v : Value) :
    ∃ es' clock', (∀ w mb, blk w mb = some (.map es clock) → (Instr.mapUpdate T (.map (some mb)) (ks k) v).run P w = .ok () (setBlock w mb (.map es' clock'))) ∧ IsMap ks es' clock' (upd k v l) := by
  obtain ⟨r, hr, hf⟩ := law.find k es.toList l hm.kv
  cases r with
  | none =>
    refine ⟨es.push { key := ks k, val := v, born := clock }, clock + 1, fun w mb hb => ?_, ?_⟩
    · simp only [Instr.mapUpdate, Sem.run_bind, run_underlying hu, Result.andThen, run_get hb, law.check, hr, run_set _ hb]
    rw [hf.2.1]
    refine ⟨by simp [hm.kv], ?_, ?_⟩
    · intro e he
      simp at he
      rcases he with he | he
      · have := hm.born e (by simpa using he); omega
      · subst he; simp
    · simp only [Array.toList_push, List.map_append, List.map_cons, List.map_nil]
      refine List.nodup_append.2 ⟨hm.nodup, by simp, ?_⟩
      intro a ha b hb' hab
      simp at hb'
      subst hab
      obtain ⟨e, he, he'⟩ := List.mem_map.1 ha
      have := hm.born e he
      omega
  | some x =>
    obtain ⟨i, u⟩ := x
    obtain ⟨h1, h2, h3, h4⟩ := hf
    have hlen : es.toList.length = l.length := by simpa using congrArg List.length hm.kv
    have hi : i < l.length := (List.getElem?_eq_some_iff.1 h2).1
    have hi' : i < es.size := by rw [← Array.length_toList, hlen]; exact hi
    have hk : es[i].key = ks k := by
      have h5 := congrArg (·[i]?) hm.kv
      simp only [List.getElem?_map, h2, Option.map_some, Array.getElem?_toList, Array.getElem?_eq_getElem hi', Option.some.injEq, Prod.mk.injEq] at h5
      exact h5.1
    have hkey : ∀ w, (Instr.keyThatStays (((es[i]?).map (·.key)).getD (ks k)) (ks k)).run P w = .ok (ks k) w := fun w => by
      simp [Instr.keyThatStays, Array.getElem?_eq_getElem hi', hk, law.same]
    refine ⟨es.modify i fun e => { e with key := ks k, val := v }, clock, fun w mb hb => ?_, ?_⟩
    · simp only [Instr.mapUpdate, Sem.run_bind, run_underlying hu, Result.andThen, run_get hb, law.check, hr, hkey, run_set _ hb]
    rw [h3]
    refine ⟨?_, ?_, ?_⟩
    · apply List.ext_getElem?
      intro j
      have h5 := congrArg (·[j]?) hm.kv
      simp only [List.getElem?_map, Array.getElem?_toList] at h5 ⊢
      rw [Array.getElem?_modify, List.getElem?_set]
      by_cases hij : i = j
      · subst hij
        simp [hi, Array.getElem?_eq_getElem hi']
      · simp [hij, h5]
    · intro e he
      obtain ⟨j, hj, rfl⟩ := List.getElem_of_mem he
      simp only [Array.getElem_toList, Array.getElem_modify]
      have hj' : j < es.size := by simpa using hj
      have := hm.born es[j] (by simp)
      split <;> simpa using this
    · have : (es.modify i fun e => { e with key := ks k, val := v }).toList.map (·.born) = es.toList.map (·.born) := by
        apply List.ext_getElem?
        intro j
        simp only [List.getElem?_map, Array.getElem?_toList, Array.getElem?_modify]
        by_cases hij : i = j
        · subst hij; simp [Array.getElem?_eq_getElem hi']
        · simp [hij]
      rw [this]
      exact hm.nodup

theorem run_delete (k : κ) (ty : TypeId) (K' : TypeId) :
    ∃ es', (∀ w mb, blk w mb = some (.map es clock) → (Builtin.delete_ #[T, K'] ty #[.map (some mb), ks k]).run P w = .ok (.tuple #[]) (setBlock w mb (.map es' clock))) ∧ IsMap ks es' clock (del k l) := by
  obtain ⟨r, hr, hf⟩ := law.find k es.toList l hm.kv
  have hempty : ∀ em w, (Instr.checkKey em 10000 K (ks k)).run P w = .ok () w := fun em w => law.check em k w
  cases r with
  | none =>
    refine ⟨es, fun w mb hb => ?_, by rw [hf.2.2]; exact hm⟩
    simp only [Builtin.delete_, Sem.run_bind, run_underlying hu, Result.andThen, run_get hb, hempty, hr, run_set _ hb, Sem.run_pure, List.getElem?_toArray, List.getElem?_cons_zero, List.getElem?_cons_succ]
  | some x =>
    obtain ⟨i, u⟩ := x
    obtain ⟨h1, h2, h3, h4⟩ := hf
    have hlen : es.toList.length = l.length := by simpa using congrArg List.length hm.kv
    have hi : i < l.length := (List.getElem?_eq_some_iff.1 h2).1
    have hi' : i < es.size := by rw [← Array.length_toList, hlen]; exact hi
    refine ⟨es.eraseIdxIfInBounds i, fun w mb hb => ?_, ?_⟩
    · simp only [Builtin.delete_, Sem.run_bind, run_underlying hu, Result.andThen, run_get hb, hempty, hr, run_set _ hb, Sem.run_pure, List.getElem?_toArray, List.getElem?_cons_zero, List.getElem?_cons_succ]
    · rw [h4]
      have he : (es.eraseIdxIfInBounds i).toList = es.toList.eraseIdx i := by simp [Array.eraseIdxIfInBounds, hi']
      refine ⟨?_, ?_, ?_⟩
      · rw [he, map_erase, hm.kv, map_erase]
      · rw [he]; exact fun e h => hm.born e (List.mem_of_mem_eraseIdx h)
      · rw [he, map_erase]; exact hm.nodup.sublist (List.eraseIdx_sublist ..)
end

section
variable {κ : Type} [DecidableEq κ] {α : Type}
theorem upd_new {k : κ} {v : α} : ∀ {l : List (κ × α)}, look k l = none → upd k v l = l ++ [(k, v)]
  | [], _ => rfl
  | (k', v') :: l, h => by
    simp only [look] at h
    by_cases hk : k = k'
    · simp [hk] at h
    · simp only [hk, if_false] at h
      simp [upd, hk, upd_new h]
end
end Go.Proofs.Ytmhfpiincnadiaa
