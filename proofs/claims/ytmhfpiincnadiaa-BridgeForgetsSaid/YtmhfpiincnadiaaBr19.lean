/- BridgeForgets: its walk. -/
import Derived.Test.YtmhfpiincnadiaaBr18
namespace Go.Proofs.Ytmhfpiincnadiaa
open Go.RowKit
open Go.ChangeMaps (setBlock)
set_option linter.unusedSimpArgs false
set_option linter.unusedVariables false

/-- How often a port was met in the segments ahead of number j. -/
def Cnt (kk j : Nat) (m : Int) : Prop := m = if kk < j then 1 else 0
theorem EntRow.form {w : World} {B : Nat} {v : Value} {L : List EntM} (h : EntRow w B v L) : ∃ a c, v = .slice a L.length c ∧ L.length ≤ c := by
  rcases h with ⟨rfl, rfl⟩ | ⟨g, c, rfl, h2, _⟩
  · exact ⟨none, 0, rfl, Nat.le_refl _⟩
  · exact ⟨_, c, rfl, h2⟩
theorem EntRow.place {w : World} {B : Nat} {a : Option Addr} {c : Nat} {L : List EntM} (h : EntRow w B (.slice a L.length c) L) {jj : Nat} (hj : jj < L.length) : ∃ g, a = some ⟨g, 0, none⟩ ∧ w.cell? ⟨g, jj * 10 + 6, none⟩ = some (.bool L[jj].tun) ∧ w.cell? ⟨g, jj * 10 + 7, none⟩ = some (i64 L[jj].n) := by
  rcases h with ⟨h1, rfl⟩ | ⟨g, c', h1, h2, h3, h4, h5⟩
  · simp at hj
  · cases h1
    exact ⟨g, rfl, h5 jj L[jj] (List.getElem?_eq_getElem hj) 6 _ rfl, h5 jj L[jj] (List.getElem?_eq_getElem hj) 7 _ rfl⟩

set_option maxRecDepth 100000 in
set_option maxHeartbeats 4000000 in
theorem forgets_walk (room life port to : Int) (v : Value) (n : Nat) (st : Nat → StepM) (vb : Nat → Value) (w : World) (hst : Steps w v n st vb) (hl : 0 ≤ life ∧ life ≤ 18446744073709551615) (hp : -9223372036854775808 ≤ port ∧ port ≤ 9223372036854775807) :
    Calls Try.prog 5 #[i64 room, .int .u64 life, v, i64 port, i64 to] w fun r w' => r = .returned (.bool true) ∧ Mod [] w w' := by
  obtain ⟨a, c, hv, hc1, hc2⟩ : ∃ a c, v = .slice a n c ∧ n ≤ c ∧ n ≤ maxLen := by
    rcases hst with ⟨rfl, a, c, rfl⟩ | ⟨b, off, c, rfl, h1, h2, _⟩
    · exact ⟨a, c, rfl, by omega, by unfold maxLen; omega⟩
    · exact ⟨_, c, rfl, h1, by omega⟩
  unfold maxLen at hc2
  have hby : ∀ i, i < n → (st i).by_ ≤ 255 := by
    intro i hi
    rcases hst with ⟨rfl, _⟩ | ⟨b, off, c, _, h1, h2, h3⟩
    · omega
    · exact (h3 i hi).by_
  have HNOW := Lib.hid (nowM_le st n hby)
  have HST := Lib.hid hst
  have HV := Lib.hid hv
  clear hst hby
  rw [hv]
  clear hv
  go_enter Try.func5, Try.ntmps5
  go_wp2_with fail
  refine (shown_any w).mono ?_
  rintro r w1 ⟨rfl, hm1⟩
  go_wp2_with fail
  refine (live_new room life w1 hl.1 hl.2 hm1).mono ?_
  rintro r w2 ⟨p, rfl, h, _⟩
  have H0 := Lib.hid h
  clear h hm1
  go_wp2_with fail
  go_loopw [13, 14] (fun now i wr => ∃ k : Nat, k ≤ n ∧ k ≤ 100 ∧ i = .int .i64 k ∧ now = .int .u64 (nowM st k : Nat) ∧ Live w wr p (runM st room life k) []) (fun _ i _ => 100 - (intOf i).toNat)
  case atStart => exact ⟨0, by omega, by omega, rfl, rfl, H0.out⟩
  case round =>
    obtain ⟨k, hkn, hk1, rfl, rfl, h⟩ := hrel
    have H := Lib.hid h
    clear h H0
    by_cases hlt : k < n ∧ k < 100
    · obtain ⟨hl1, hl2⟩ := hlt
      obtain ⟨b, off, hva, hsk⟩ : ∃ b off, a = some ⟨b, off, none⟩ ∧ StepAt w b (off + k * 5) (st k) (vb k) := by
        rcases HST.out with ⟨h0, _⟩ | ⟨b, off, c', h1, _, _, h3⟩
        · omega
        · have h2 := HV.out
          rw [h1] at h2
          cases h2
          exact ⟨b, off, rfl, h3 k hl1⟩
      have hs := hsk.mod H.out.mod0
      subst hva
      obtain ⟨c0, c1, c2, c3, c4, hblt, hbytes, hnn, hby⟩ := hs
      have hnw := HNOW.out k hkn
      have hnw2 := HNOW.out (k + 1) hl1
      have hd := Lib.hid (H.out.does (st k) (v := vb k) (nowM st (k + 1) : Nat) hbytes hnn (by omega))
      have hnext : runM st room life (k + 1) = (doesM (runM st room life k) (st k) (nowM st (k + 1) : Nat)).2.2 := rfl
      rw [← hnext] at hd
      have hn1 : (nowM st (k + 1) : Int) = (nowM st k : Int) + ((st k).by_ : Int) := by simp [nowM]
      rw [hn1] at hd
      have HN1 := Lib.hid hn1
      clear hsk hnw2 hbytes hnext hn1
      go_wp2_with fail
      refine hd.out.mono ?_
      rintro r w3 ⟨⟨pv, qv, rfl, _, _⟩, h3, _⟩
      have H3 := Lib.hid h3
      clear h3 hd
      go_wp2_with fail
      go_roundw
      case rel => exact ⟨k + 1, by omega, by omega, by go_num, by rw [HN1.out], H3.out⟩
      case measure => simp [intOf]; omega
    · have hM := runM_ok st room life k
      have hP := runM_placed st room life k
      have hend : ¬ k < n ∨ (k < n ∧ k = 100) := by omega
      generalize runM st room life k = M at H hM hP
      have HM := Lib.hid hM
      have HP := Lib.hid hP
      obtain ⟨e, M', he⟩ : ∃ e M', bindM M port to = (e, M') := ⟨_, _, rfl⟩
      have HE := Lib.hid he
      have HS := Lib.hid (H.out.segment port)
      have hcase : (e ≠ 0) ∨ (e = 0 ∧ look port M.bound = some to) ∨ (e = 0 ∧ look port M.bound ≠ some to) := by
        by_cases h1 : e = 0
        · by_cases h2 : look port M.bound = some to
          · exact .inr (.inl ⟨h1, h2⟩)
          · exact .inr (.inr ⟨h1, h2⟩)
        · exact .inl h1
      have HCASE := Lib.hid hcase
      clear hM hP he hcase hlt
      have hseg : (look port M.bound = some to → (look port M.bound).getD 0 = to ∧ (look port M.bound).isSome = true) ∧ (look port M.bound ≠ some to → (look port M.bound).isSome = false ∨ ((look port M.bound).getD 0 == to) = false) := by
        refine ⟨fun h1 => by rw [h1]; exact ⟨rfl, rfl⟩, fun h1 => ?_⟩
        cases h2 : look port M.bound with
        | none => exact .inl rfl
        | some y =>
          refine .inr ?_
          simp only [Option.getD_some, beq_eq_false_iff_ne, ne_eq]
          intro h3
          exact h1 (by rw [h2, h3])
      have HSEG := Lib.hid hseg
      clear hseg
      generalize (look port M.bound).getD 0 = wasv at HS HSEG
      generalize (look port M.bound).isSome = bnd at HS HSEG
      have herr : e = 0 ∨ e = 1 ∨ e = 5 := by have := bindM_err M port to; rw [HE.out] at this; exact this
      have HERR := Lib.hid herr
      clear herr
      obtain ⟨kz, hkz⟩ : ∃ kz : Nat, kz = k := ⟨_, rfl⟩
      rcases hend with hend | ⟨hend, rfl⟩
      all_goals
        go_wp2_with fail
        refine HS.out.mono ?_
        rintro r w3 ⟨rfl, rfl⟩
        go_wp2_with fail
        refine (H.out.bind HE.out).mono ?_
        rintro r w4 ⟨rfl, h4, _⟩
        have H4 := Lib.hid h4
        clear h4
        rcases HCASE.out with h1 | ⟨h1, h2⟩ | ⟨h1, h2⟩
        · rcases HERR.out with h5 | rfl | rfl
          · exact absurd h5 h1
          · clear h1
            go_wp2
            go_ret
            exact ⟨rfl, H4.out.mod0⟩
          · clear h1
            go_wp2
            go_ret
            exact ⟨rfl, H4.out.mod0⟩
        focus
          subst h1
          obtain ⟨h3, h4⟩ := HSEG.out.1 h2
          have hsame := bindM_same (M := M) (port := port) (to := to) (by rw [HE.out]) h2
          rw [HE.out] at hsame
          obtain ⟨hMM, hp0, ht0, ht8⟩ := hsame
          simp only at hMM
          subst hMM
          have HA := Lib.hid (anew_again HM.out HP.out hp0 ht0 ht8 h2)
          obtain ⟨kk, hkk⟩ : ∃ kk, kk = to.toNat := ⟨_, rfl⟩
          rw [← hkk] at HA
          clear hkk ht0 ht8
          subst h3 h4
          clear h2
          obtain ⟨e1, M1, he1⟩ : ∃ e M1, unbindM M' port = (e, M1) := ⟨_, _, rfl⟩
          rw [he1] at HA
          obtain ⟨e2, M2, he2⟩ : ∃ e M2, bindM M1 port wasv = (e, M2) := ⟨_, _, rfl⟩
          simp only [he2] at HA
          have HE1 := Lib.hid he1
          have HE2 := Lib.hid he2
          clear he1 he2
          go_wp2_with fail
          refine (H4.out.unbind HE1.out).mono ?_
          rintro r w5 ⟨rfl, h5, _⟩
          go_wp2_with fail
          refine (h5.bind HE2.out).mono ?_
          rintro r w6 ⟨rfl, h6, _⟩
          have H6 := Lib.hid h6
          clear h5 h6
        rotate_left 1
        focus
          subst h1
          have hA := anew_bind HM.out HP.out (port := port) (to := to) (by rw [HE.out]) h2
          rw [HE.out] at hA
          obtain ⟨M2, hM2⟩ : ∃ M2, M2 = M' := ⟨_, rfl⟩
          simp only at hA
          rw [← hM2] at hA H4
          obtain ⟨kk, hkk⟩ : ∃ kk, kk = to.toNat := ⟨_, rfl⟩
          rw [← hkk] at hA
          clear hkk
          have HA := Lib.hid hA
          have h7 := HSEG.out.2 h2
          obtain ⟨w6, hw6⟩ : ∃ w6, w6 = w4 := ⟨_, rfl⟩
          rw [← hw6] at H4 ⊢
          have H6 := H4
          have HW6 := Lib.hid hw6
          clear hA hM2 h2 hw6
          clear HSEG
          have h8 : bnd = false ∨ (bnd = true ∧ (wasv == to) = false) := by
            rcases h7 with h7 | h7
            · exact .inl h7
            · cases bnd
              · exact .inl rfl
              · exact .inr ⟨rfl, h7⟩
          clear h7
          rcases h8 with rfl | ⟨rfl, h7⟩
        all_goals
          have HK := Lib.hid HA.out.k8
          clear HCASE HE HERR HM HP
          go_wp2_with fail
          go_loopw [18, 19] (fun m s wr2 => ∃ j : Nat, j ≤ 8 ∧ s = .int .i64 j ∧ (∃ m0 : Int, m = .int .i64 m0 ∧ Cnt kk j m0) ∧ Live w wr2 p M2 []) (fun _ s _ => 8 - (intOf s).toNat)
          case atStart => exact ⟨0, by omega, rfl, ⟨0, rfl, by simp [Cnt]⟩, H6.out⟩
          case round =>
            obtain ⟨j, hj, rfl, ⟨m0, rfl, hm0⟩, h8⟩ := hrel
            have HM0 := Lib.hid hm0
            clear hm0
            have H8 := Lib.hid h8
            clear h8
            by_cases hj8 : j < 8
            · go_wp2_with fail
              refine (H8.out.base hj8).mono ?_
              rintro r w7 ⟨q, F, rfl, hB, rfl⟩
              have hfr : ∀ x ∈ listM (M2.segs j).base, x.tun = false → x.n ≠ port := fun x hx => HA.out.fresh j hj8 x ((listM_perm _).mem_iff.1 hx)
              have hL64 : (listM (M2.segs j).base).length ≤ 64 := by
                obtain ⟨mb, L, g1, g2, _⟩ := hB
                have g3 := g1.len
                have g4 := g1.room2
                rw [(listM_perm _).length_eq, ← g2]
                simp
                omega
              go_wp2_with fail
              refine (list_any hB).mono ?_
              rintro r w8 ⟨v8, rfl, hrow, hm8⟩
              generalize listM (M2.segs j).base = L at hfr hL64 hrow
              have H9 := Lib.hid (H8.out.later hm8)
              have HROW := Lib.hid hrow
              have HFR := Lib.hid hfr
              obtain ⟨a8, c8, rfl, hc8⟩ := hrow.form
              clear hB hrow hfr hm8
              go_wp2_with fail
              go_loop [21] (fun t => ∃ jj : Nat, jj ≤ L.length ∧ t = .int .i64 jj) (fun t => L.length - (intOf t).toNat)
              case atStart => exact ⟨0, Nat.zero_le _, rfl⟩
              case round =>
                obtain ⟨jj, hjj, rfl⟩ := hrel
                by_cases hjl : jj < L.length
                · obtain ⟨g8, rfl, d6, d7⟩ := HROW.out.place hjl
                  have hpe := fun W => place_eq W L[jj].tun false L[jj].n port
                  have hne : (L[jj].tun == false && L[jj].n == port) = false := by
                    have := HFR.out L[jj] (List.getElem_mem hjl)
                    cases ht : L[jj].tun with
                    | true => rfl
                    | false => simpa using this ht
                  rw [hne] at hpe
                  have hpg := place_guard
                  generalize L[jj].tun = xt at d6 hpe
                  generalize L[jj].n = xn at d7 hpe
                  clear hne
                  go_wp2_with fail
                  go_round
                  case rel => exact ⟨jj + 1, by omega, by go_num⟩
                  case measure => simp [intOf]; omega
                · go_wp2_with fail
                  refine (H9.out.ports hj8).mono ?_
                  rintro r w10 ⟨v10, rfl, hv10, hm10⟩
                  have hcnt := HA.out.count j hj8
                  have hP16 : (M2.segs j).ports.length ≤ 16 := HA.out.ok.portsLen hj8
                  generalize (M2.segs j).ports = P at hv10 hcnt hP16
                  have HC := Lib.hid hcnt
                  have H10 := Lib.hid (H9.out.later hm10)
                  obtain ⟨a10, c10, rfl, hc10, _, hrow10⟩ := hv10.slice
                  have HR10 := Lib.hid hrow10
                  clear hcnt hm10 hv10 hrow10
                  go_wp2_with fail
                  go_loop [18, 23] (fun m t => ∃ i : Nat, i ≤ P.length ∧ t = .int .i64 i ∧ ∃ q0 : Nat, q0 ≤ i ∧ m = .int .i64 (m0 + (q0 : Int)) ∧ Hid (q0 = (P.take i).count port)) (fun _ t => P.length - (intOf t).toNat)
                  case atStart => exact ⟨0, Nat.zero_le _, rfl, 0, by omega, by simp, Lib.hid (by simp)⟩
                  case round =>
                    obtain ⟨i, hi, rfl, q0, hq, rfl, HQ⟩ := hrel
                    have hm01 : 0 ≤ m0 ∧ m0 ≤ 1 := by
                      have := HM0.out
                      unfold Cnt at this
                      split at this <;> omega
                    obtain ⟨hm0a, hm0b⟩ := hm01
                    by_cases hil : i < P.length
                    · obtain ⟨g10, rfl, d0⟩ : ∃ g, a10 = some ⟨g, 0, none⟩ ∧ w10.cell? ⟨g, i, none⟩ = some (i64 P[i]) := by
                        rcases HR10.out with ⟨_, h1, _⟩ | ⟨g, cur, h1, _, h3, _, h5⟩
                        · rw [h1] at hil; simp at hil
                        · refine ⟨g, h1, ?_⟩
                          rw [cell_of h3, ints_at h5 hil, List.getD_eq_getElem?_getD, List.getElem?_eq_getElem hil]
                          rfl
                      have HT := Lib.hid (run_take P port i hil)
                      generalize P[i] = z at d0 HT
                      by_cases hz : z = port
                      · subst hz
                        go_wp2_with fail
                        go_round
                        case rel => 
                          refine ⟨i + 1, by omega, by go_num, q0 + 1, by omega, by go_num, Lib.hid ?_⟩
                          have h1 := HT.out
                          have h2 := HQ.out
                          rw [if_pos rfl] at h1
                          omega
                        case measure => simp [intOf]; omega
                      · have hzf : (z == port) = false := by simpa using hz
                        have HZ := Lib.hid hz
                        clear hz
                        go_wp2_with fail
                        go_round
                        case rel => 
                          refine ⟨i + 1, by omega, by go_num, q0, by omega, rfl, Lib.hid ?_⟩
                          have h1 := HT.out
                          have h2 := HQ.out
                          rw [if_neg HZ.out] at h1
                          omega
                        case measure => simp [intOf]; omega
                    · obtain rfl : i = P.length := by omega
                      go_wp2_with fail
                      go_roundw
                      case rel =>
                        refine ⟨j + 1, by omega, by go_num, ⟨m0 + q0, rfl, ?_⟩, H10.out⟩
                        have h1 := HQ.out
                        have h2 := HC.out
                        have h3 := HM0.out
                        rw [List.take_length] at h1
                        unfold Cnt at h3 ⊢
                        rw [h1, h2, h3]
                        by_cases h4 : j = kk
                        · subst h4
                          rw [if_neg (by omega), if_pos rfl, if_pos (by omega)]
                          rfl
                        · rw [if_neg h4]
                          by_cases h5 : kk < j
                          · rw [if_pos h5, if_pos (by omega)]; rfl
                          · rw [if_neg h5, if_neg (by omega)]; rfl
                      case measure => simp [intOf]; omega
            · obtain rfl : j = 8 := by omega
              have hm1 : m0 = 1 := by
                have h1 := HM0.out
                have h2 := HK.out
                unfold Cnt at h1
                rw [if_pos h2] at h1
                exact h1
              subst hm1
              go_wp2
              go_ret
              exact ⟨rfl, H8.out.mod0⟩
end Go.Proofs.Ytmhfpiincnadiaa
