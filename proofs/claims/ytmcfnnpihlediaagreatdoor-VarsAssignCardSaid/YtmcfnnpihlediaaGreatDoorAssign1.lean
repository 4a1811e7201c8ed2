/- Part 6 of the proof: what is walked and what is not, the pure interpreter over the code and its soundness, plain laws. -/
import Derived.Test.YtmcfnnpihlediaaGreatDoorVr5
set_option linter.unusedSimpArgs false
set_option linter.unusedVariables false
set_option linter.unusedSectionVars false

/- The document's own stack of what is open: where it closes. -/
namespace Go.Proofs.YtmcfnnpihlediaaGreatDoor.Ex
open Go
attribute [-simp] rgn rgnD exec_seq exec_cond exec_block keepS

/-- A stack of bytes that is a row of its own: the top is its end. -/
def StkR (v : AV) (S : Obs) (st : Str) : Prop :=
  (st = [] ∧ v = .nils) ∨ ∃ id cs, v = .row id 1 0 st.length ∧ S[id]? = some (.rowo id cs) ∧ cs.take st.length = st.reverse.map byteAV ∧ st.length ≤ cs.length

theorem StkR.top {v : AV} {S : Obs} {d : UInt8} {st : Str} (h : StkR v S (d :: st)) : ∃ id cs, v = .row id 1 0 (st.length + 1) ∧ S[id]? = some (.rowo id cs) ∧ cs[st.length]? = some (byteAV d) ∧ st.length + 1 ≤ cs.length ∧
    cs.take (st.length + 1) = (d :: st).reverse.map byteAV := by
  rcases h with ⟨h, _⟩ | ⟨id, cs, rfl, hS, ht, hl⟩
  · cases h
  · refine ⟨id, cs, rfl, hS, ?_, hl, ht⟩
    have : (cs.take (d :: st).length)[st.length]? = ((d :: st).reverse.map byteAV)[st.length]? := by rw [ht]
    rw [List.getElem?_take_of_lt (by simp)] at this
    rw [this]
    simp [List.getElem?_append_right]

theorem StkR.pop {v : AV} {S : Obs} {d : UInt8} {st : Str} {id : Nat} {cs : List AV} (hS : S[id]? = some (.rowo id cs)) (ht : cs.take (st.length + 1) = (d :: st).reverse.map byteAV) (hl : st.length + 1 ≤ cs.length) :
    StkR (.row id 1 0 st.length) S st := by
  refine .inr ⟨id, cs, rfl, hS, ?_, by omega⟩
  have := congrArg (List.take st.length) ht
  rw [List.take_take, Nat.min_eq_left (by omega)] at this
  rw [this]
  simp [List.take_append_of_le_length]

/-- A byte put on the stack. -/
theorem StkR.push0 (S : Obs) (c : UInt8) : StkR (.row S.length 1 0 1) (S ++ [.rowo S.length [byteAV c], .gone]) [c] := by
  refine .inr ⟨S.length, [byteAV c], rfl, ?_, rfl, by simp⟩
  simp
theorem StkR.push1 {S : Obs} {st : Str} {id : Nat} {cs : List AV} (ht : cs.take st.length = st.reverse.map byteAV) (hl : st.length ≤ cs.length) (c : UInt8) :
    StkR (.row S.length 1 0 (st.length + 1)) (S.set id .gone ++ [.rowo S.length (cs.take st.length ++ [byteAV c]), .gone]) (c :: st) := by
  refine .inr ⟨S.length, cs.take st.length ++ [byteAV c], rfl, ?_, ?_, ?_⟩
  · rw [List.getElem?_append_right (by simp)]; simp
  · rw [List.take_of_length_le (by simp; omega), ht]; simp
  · simp; omega

theorem opens_at (s : Str) (i : Nat) (h : i < s.length) : opens (s.drop i) =
    (if h2 : i + 1 < s.length then (if s[i] = 36 then (if s[i + 1] = 40 then some 41 else if s[i + 1] = 123 then some 125 else none) else none) else none) := by
  have hd : s.drop i = s[i] :: s.drop (i + 1) := List.drop_eq_getElem_cons h
  by_cases h2 : i + 1 < s.length
  · rw [dif_pos h2, hd, List.drop_eq_getElem_cons h2]; rfl
  · rw [dif_neg h2, hd, List.drop_of_length_le (by omega)]; rfl

section
variable [XX]

def clI (s : Str) (x : Nat × Str) (c : Cfg) : Prop :=
  c.D = [] ∧ c.pf 0 = .str s ∧ c.pf 4 = .int .i64 x.1 ∧ StkR (c.pf 3) c.S x.2 ∧ x.1 ≤ s.length ∧ x.2.length ≤ x.1 ∧
    closeI (s.length + 1) [] s = (closeI (s.length + 1) x.2 (s.drop x.1)).map (· + x.1)
def clQ (s : Str) (x : PX) (c : Cfg) : Prop :=
  c.D = [] ∧ ((x = .ex 0 ∧ closeI (s.length + 1) [] s = none) ∨ (x = .ret ∧ c.pf 2 = .int .i64 (intOf (closeI (s.length + 1) [] s))))

set_option maxHeartbeats 8000000 in
theorem v39 (n : Nat) (s : Str) (hs : s.length ≤ 1000000000) (hn : s.length + 5 < n) : CP (F (n + 1)) 39 [.str s] (.int .i64 (intOf (closeI (s.length + 1) [] s))) := by
  have hrs : ∃ S, runFn Tryz.prog own1 (F n) n Tryz.f39 (Tryz.f39.body.getD .skip) [.str s] [] = some ([.int .i64 (intOf (closeI (s.length + 1) [] s))], S) := by
    simp [runFn, Tryz.f39]
    generalize hI : iter _ _ _ = r
    obtain ⟨px, c, rfl, hD, hx⟩ := iter_cfg (fun x : Nat × Str => s.length - x.1) (clI s) (clQ s)
      (fun x c hcc => by
        obtain ⟨i, st⟩ := x
        obtain ⟨pf, S, D⟩ := c
        obtain ⟨rfl, p0, p4, p3, hi, hl, hinv⟩ := hcc
        simp only at p0 p4 p3 hi hl hinv
        by_cases hlt : i < s.length
        · have hat : s[i]? = some s[i] := List.getElem?_eq_getElem hlt
          have w1 : IntKind.wrap .i64 ((i : Int) + 1) = (i : Int) + 1 := wrap64 (by omega) (by omega)
          have w2 : IntKind.wrap .i64 ((i : Int) + 1 + 1) = (i : Int) + 2 := by rw [wrap64 (by omega) (by omega)]; omega
          rw [closeI_cons s i hlt st] at hinv
          have hoa := opens_at s i hlt
          have hb := byte_eq s[i] 36 (by decide)
          have e41 : byteAV 41 = .int .u8 41 := rfl
          have e125 : byteAV 125 = .int .u8 125 := rfl
          by_cases hop : ∃ d, opens (s.drop i) = some d
          · obtain ⟨d, hd⟩ := hop
            rw [hd] at hinv
            simp only [map_map_add] at hinv
            rw [hoa] at hd
            split at hd
            case isFalse => cases hd
            rename_i h2
            split at hd
            case isFalse => cases hd
            rename_i h36
            have hb' : (((s[i]).toNat : Int) == 36) = true := by rw [show (36 : Int) = ((36 : Nat) : Int) from rfl, hb]; simp [h36]
            have h2' : (i : Int) + 1 < (s.length : Int) := by omega
            have hat2 : s[i + 1]? = some s[i + 1] := List.getElem?_eq_getElem h2
            have t1 : ((i : Int) + 1).toNat = i + 1 := by omega
            have z1 : (0 : Int) ≤ (i : Int) + 1 := by omega
            have hb40 := byte_eq s[i + 1] 40 (by decide)
            have hb123 := byte_eq s[i + 1] 123 (by decide)
            have hl3 : st.length + 1 ≤ 140737488355328 := by omega
            left
            split at hd
            · rename_i h40
              injection hd with hd; subst hd
              have hb40' : (((s[i + 1]).toNat : Int) == 40) = true := by rw [show (40 : Int) = ((40 : Nat) : Int) from rfl, hb40]; simp [h40]
              have hb123' : (((s[i + 1]).toNat : Int) == 123) = false := by rw [show (123 : Int) = ((123 : Nat) : Int) from rfl, hb123]; simp [h40]
              rcases p3 with ⟨rfl, p3⟩ | ⟨id, cs, p3, hS, ht, hl2⟩
              · refine ⟨(i + 2, [41]), _, by simp [p0, p4, p3, hlt, hat, hb', h2', t1, z1, hat2, hb40', hb123', w1, w2]; rfl, by simp only; omega, rfl, by simp [p0], by simp, ?_, by simp only; omega, by simp only [List.length_cons, List.length_nil]; omega, hinv⟩
                simp only [e41.symm]
                simpa using StkR.push0 S 41
              · have hpush := StkR.push1 (S := S) (id := id) ht hl2 41
                rw [e41] at hpush
                refine ⟨(i + 2, 41 :: st), _, by simp [p0, p4, p3, hS, hl2, hl3, hlt, hat, hb', h2', t1, z1, hat2, hb40', hb123', w1, w2]; rfl, by simp only; omega, rfl, by simp [p0], by simp, ?_, by simp only; omega, by simp only [List.length_cons]; omega, hinv⟩
                simpa using hpush
            · rename_i h40
              split at hd
              case isFalse => cases hd
              rename_i h123
              injection hd with hd; subst hd
              have hb40' : (((s[i + 1]).toNat : Int) == 40) = false := by rw [show (40 : Int) = ((40 : Nat) : Int) from rfl, hb40]; simpa using h40
              have hb123' : (((s[i + 1]).toNat : Int) == 123) = true := by rw [show (123 : Int) = ((123 : Nat) : Int) from rfl, hb123]; simp [h123]
              rcases p3 with ⟨rfl, p3⟩ | ⟨id, cs, p3, hS, ht, hl2⟩
              · refine ⟨(i + 2, [125]), _, by simp [p0, p4, p3, hlt, hat, hb', h2', t1, z1, hat2, hb40', hb123', w1, w2]; rfl, by simp only; omega, rfl, by simp [p0], by simp, ?_, by simp only; omega, by simp only [List.length_cons, List.length_nil]; omega, hinv⟩
                simp only [e125.symm]
                simpa using StkR.push0 S 125
              · have hpush := StkR.push1 (S := S) (id := id) ht hl2 125
                rw [e125] at hpush
                refine ⟨(i + 2, 125 :: st), _, by simp [p0, p4, p3, hS, hl2, hl3, hlt, hat, hb', h2', t1, z1, hat2, hb40', hb123', w1, w2]; rfl, by simp only; omega, rfl, by simp [p0], by simp, ?_, by simp only; omega, by simp only [List.length_cons]; omega, hinv⟩
                simpa using hpush
          · -- nothing opens
            have hno : opens (s.drop i) = none := by
              cases h : opens (s.drop i) with
              | none => rfl
              | some d => exact absurd ⟨d, h⟩ hop
            rw [hno] at hinv
            simp only at hinv
            rcases p3 with ⟨rfl, p3⟩ | ⟨id, cs, p3, hS, ht, hl2⟩
            · simp only [map_map_add] at hinv
              left
              rw [hno] at hoa
              by_cases h36 : s[i] = 36
              · have hb' : (((s[i]).toNat : Int) == 36) = true := by rw [show (36 : Int) = ((36 : Nat) : Int) from rfl, hb]; simp [h36]
                by_cases h2 : i + 1 < s.length
                · rw [dif_pos h2, if_pos h36] at hoa
                  have h2' : (i : Int) + 1 < (s.length : Int) := by omega
                  have hat2 : s[i + 1]? = some s[i + 1] := List.getElem?_eq_getElem h2
                  have t1 : ((i : Int) + 1).toNat = i + 1 := by omega
                  have z1 : (0 : Int) ≤ (i : Int) + 1 := by omega
                  have hb40 := byte_eq s[i + 1] 40 (by decide)
                  have hb123 := byte_eq s[i + 1] 123 (by decide)
                  have h40 : ¬ s[i + 1] = 40 := by intro h; simp [h] at hoa
                  have h123 : ¬ s[i + 1] = 123 := by intro h; simp [h] at hoa
                  have hb40' : (((s[i + 1]).toNat : Int) == 40) = false := by rw [show (40 : Int) = ((40 : Nat) : Int) from rfl, hb40]; simpa using h40
                  have hb123' : (((s[i + 1]).toNat : Int) == 123) = false := by rw [show (123 : Int) = ((123 : Nat) : Int) from rfl, hb123]; simpa using h123
                  exact ⟨(i + 1, []), _, by simp [p0, p4, p3, hlt, hat, hb', h2', t1, z1, hat2, hb40', hb123', w1, w2]; rfl, by simp only; omega, rfl, by simp [p0], by simp, .inl ⟨rfl, by simp [p3]⟩, by simp only; omega, by simp, hinv⟩
                · have h2' : ¬ ((i : Int) + 1 < (s.length : Int)) := by omega
                  exact ⟨(i + 1, []), _, by simp [p0, p4, p3, hlt, hat, hb', h2', w1, w2]; rfl, by simp only; omega, rfl, by simp [p0], by simp, .inl ⟨rfl, by simp [p3]⟩, by simp only; omega, by simp, hinv⟩
              · have hb' : (((s[i]).toNat : Int) == 36) = false := by rw [show (36 : Int) = ((36 : Nat) : Int) from rfl, hb]; simpa using h36
                exact ⟨(i + 1, []), _, by simp [p0, p4, p3, hlt, hat, hb', w1, w2]; rfl, by simp only; omega, rfl, by simp [p0], by simp, .inl ⟨rfl, by simp [p3]⟩, by simp only; omega, by simp, hinv⟩
            · rw [hno] at hoa
              by_cases h36 : s[i] = 36
              · have hb' : (((s[i]).toNat : Int) == 36) = true := by rw [show (36 : Int) = ((36 : Nat) : Int) from rfl, hb]; simp [h36]
                by_cases h2 : i + 1 < s.length
                · rw [dif_pos h2, if_pos h36] at hoa
                  have h2' : (i : Int) + 1 < (s.length : Int) := by omega
                  have hat2 : s[i + 1]? = some s[i + 1] := List.getElem?_eq_getElem h2
                  have t1 : ((i : Int) + 1).toNat = i + 1 := by omega
                  have z1 : (0 : Int) ≤ (i : Int) + 1 := by omega
                  have hb40 := byte_eq s[i + 1] 40 (by decide)
                  have hb123 := byte_eq s[i + 1] 123 (by decide)
                  have h40 : ¬ s[i + 1] = 40 := by intro h; simp [h] at hoa
                  have h123 : ¬ s[i + 1] = 123 := by intro h; simp [h] at hoa
                  have hb40' : (((s[i + 1]).toNat : Int) == 40) = false := by rw [show (40 : Int) = ((40 : Nat) : Int) from rfl, hb40]; simpa using h40
                  have hb123' : (((s[i + 1]).toNat : Int) == 123) = false := by rw [show (123 : Int) = ((123 : Nat) : Int) from rfl, hb123]; simpa using h123
                  by_cases hst0 : st = []
                  · subst hst0
                    simp only [map_map_add] at hinv
                    left
                    exact ⟨(i + 1, []), _, by simp [p0, p4, p3, hlt, hat, hb', h2', t1, z1, hat2, hb40', hb123', w1, w2]; rfl, by simp only; omega, rfl, by simp [p0], by simp, .inr ⟨id, cs, by simp [p3], by simp [hS], by simp, by simp⟩, by simp only; omega, by simp, hinv⟩
                  · obtain ⟨d, st', rfl⟩ := List.exists_cons_of_ne_nil hst0
                    have htop := StkR.top (.inr ⟨id, cs, rfl, hS, ht, hl2⟩)
                    obtain ⟨id2, cs2, he, hS2, htp, hl3, ht3⟩ := htop
                    injection he with he; subst he
                    rw [hS] at hS2; injection hS2 with hS2; injection hS2 with _ hS2; subst hS2
                    simp only [List.length_cons] at p3 hl2 hl
                    have w3 : IntKind.wrap .i64 (st'.length : Int) = (st'.length : Int) := wrap64 (by omega) (by omega)
                    have hbt := byte_eq2 s[i] d
                    have z2 : (st'.length : Int) ≤ (st'.length : Int) + 1 := by omega
                    simp only at hinv
                    by_cases hsd : s[i] = d
                    · have hbt' : (((s[i]).toNat : Int) == (d.toNat : Int)) = true := by rw [hbt]; simpa using hsd
                      rw [if_pos hsd] at hinv
                      by_cases he : st' = []
                      · right
                        rw [if_pos he] at hinv
                        have hne : ((st'.length : Int) == 0) = true := by simp [he]
                        refine ⟨.ret, _, by simp, by simp [p0, p4, p3, hS, htp, hlt, hat, hb', h2', t1, z1, hat2, hb40', hb123', w1, w2, w3, z2, hbt', hne, byteAV]; rfl, rfl, .inr ⟨rfl, ?_⟩⟩
                        rw [hinv]; simp [intOf]
                      · left
                        rw [if_neg he, map_map_add] at hinv
                        have hne : ((st'.length : Int) == 0) = false := by
                          have : st'.length ≠ 0 := fun h => he (List.eq_nil_of_length_eq_zero h)
                          simpa using this
                        exact ⟨(i + 1, st'), _, by simp [p0, p4, p3, hS, htp, hlt, hat, hb', h2', t1, z1, hat2, hb40', hb123', w1, w2, w3, z2, hbt', hne, byteAV]; rfl, by simp only; omega, rfl, by simp [p0], by simp, by simp; exact StkR.pop (v := .nils) hS ht3 hl3, by simp only; omega, by simp only; omega, hinv⟩
                    · left
                      have hbt' : (((s[i]).toNat : Int) == (d.toNat : Int)) = false := by rw [hbt]; simpa using hsd
                      rw [if_neg hsd, map_map_add] at hinv
                      exact ⟨(i + 1, d :: st'), _, by simp [p0, p4, p3, hS, htp, hlt, hat, hb', h2', t1, z1, hat2, hb40', hb123', w1, w2, w3, z2, hbt', byteAV]; rfl, by simp only; omega, rfl, by simp [p0], by simp, .inr ⟨id, cs, by simp [p3], by simp [hS], ht, by simpa using hl2⟩, by simp only; omega, by simp only [List.length_cons]; omega, hinv⟩
                · have hz : True := trivial
                  have h2' : ¬ ((i : Int) + 1 < (s.length : Int)) := by omega
                  by_cases hst0 : st = []
                  · subst hst0
                    simp only [map_map_add] at hinv
                    left
                    exact ⟨(i + 1, []), _, by simp [p0, p4, p3, hlt, hat, hb', h2', w1, w2]; rfl, by simp only; omega, rfl, by simp [p0], by simp, .inr ⟨id, cs, by simp [p3], by simp [hS], by simp, by simp⟩, by simp only; omega, by simp, hinv⟩
                  · obtain ⟨d, st', rfl⟩ := List.exists_cons_of_ne_nil hst0
                    have htop := StkR.top (.inr ⟨id, cs, rfl, hS, ht, hl2⟩)
                    obtain ⟨id2, cs2, he, hS2, htp, hl3, ht3⟩ := htop
                    injection he with he; subst he
                    rw [hS] at hS2; injection hS2 with hS2; injection hS2 with _ hS2; subst hS2
                    simp only [List.length_cons] at p3 hl2 hl
                    have w3 : IntKind.wrap .i64 (st'.length : Int) = (st'.length : Int) := wrap64 (by omega) (by omega)
                    have hbt := byte_eq2 s[i] d
                    have z2 : (st'.length : Int) ≤ (st'.length : Int) + 1 := by omega
                    simp only at hinv
                    by_cases hsd : s[i] = d
                    · have hbt' : (((s[i]).toNat : Int) == (d.toNat : Int)) = true := by rw [hbt]; simpa using hsd
                      rw [if_pos hsd] at hinv
                      by_cases he : st' = []
                      · right
                        rw [if_pos he] at hinv
                        have hne : ((st'.length : Int) == 0) = true := by simp [he]
                        refine ⟨.ret, _, by simp, by simp [p0, p4, p3, hS, htp, hlt, hat, hb', h2', w1, w2, w3, z2, hbt', hne, byteAV]; rfl, rfl, .inr ⟨rfl, ?_⟩⟩
                        rw [hinv]; simp [intOf]
                      · left
                        rw [if_neg he, map_map_add] at hinv
                        have hne : ((st'.length : Int) == 0) = false := by
                          have : st'.length ≠ 0 := fun h => he (List.eq_nil_of_length_eq_zero h)
                          simpa using this
                        exact ⟨(i + 1, st'), _, by simp [p0, p4, p3, hS, htp, hlt, hat, hb', h2', w1, w2, w3, z2, hbt', hne, byteAV]; rfl, by simp only; omega, rfl, by simp [p0], by simp, by simp; exact StkR.pop (v := .nils) hS ht3 hl3, by simp only; omega, by simp only; omega, hinv⟩
                    · left
                      have hbt' : (((s[i]).toNat : Int) == (d.toNat : Int)) = false := by rw [hbt]; simpa using hsd
                      rw [if_neg hsd, map_map_add] at hinv
                      exact ⟨(i + 1, d :: st'), _, by simp [p0, p4, p3, hS, htp, hlt, hat, hb', h2', w1, w2, w3, z2, hbt', byteAV]; rfl, by simp only; omega, rfl, by simp [p0], by simp, .inr ⟨id, cs, by simp [p3], by simp [hS], ht, by simpa using hl2⟩, by simp only; omega, by simp only [List.length_cons]; omega, hinv⟩
              · have hb' : (((s[i]).toNat : Int) == 36) = false := by rw [show (36 : Int) = ((36 : Nat) : Int) from rfl, hb]; simpa using h36
                by_cases hst0 : st = []
                · subst hst0
                  simp only [map_map_add] at hinv
                  left
                  exact ⟨(i + 1, []), _, by simp [p0, p4, p3, hlt, hat, hb', w1, w2]; rfl, by simp only; omega, rfl, by simp [p0], by simp, .inr ⟨id, cs, by simp [p3], by simp [hS], by simp, by simp⟩, by simp only; omega, by simp, hinv⟩
                · obtain ⟨d, st', rfl⟩ := List.exists_cons_of_ne_nil hst0
                  have htop := StkR.top (.inr ⟨id, cs, rfl, hS, ht, hl2⟩)
                  obtain ⟨id2, cs2, he, hS2, htp, hl3, ht3⟩ := htop
                  injection he with he; subst he
                  rw [hS] at hS2; injection hS2 with hS2; injection hS2 with _ hS2; subst hS2
                  simp only [List.length_cons] at p3 hl2 hl
                  have w3 : IntKind.wrap .i64 (st'.length : Int) = (st'.length : Int) := wrap64 (by omega) (by omega)
                  have hbt := byte_eq2 s[i] d
                  have z2 : (st'.length : Int) ≤ (st'.length : Int) + 1 := by omega
                  simp only at hinv
                  by_cases hsd : s[i] = d
                  · have hbt' : (((s[i]).toNat : Int) == (d.toNat : Int)) = true := by rw [hbt]; simpa using hsd
                    rw [if_pos hsd] at hinv
                    by_cases he : st' = []
                    · right
                      rw [if_pos he] at hinv
                      have hne : ((st'.length : Int) == 0) = true := by simp [he]
                      refine ⟨.ret, _, by simp, by simp [p0, p4, p3, hS, htp, hlt, hat, hb', w1, w2, w3, z2, hbt', hne, byteAV]; rfl, rfl, .inr ⟨rfl, ?_⟩⟩
                      rw [hinv]; simp [intOf]
                    · left
                      rw [if_neg he, map_map_add] at hinv
                      have hne : ((st'.length : Int) == 0) = false := by
                        have : st'.length ≠ 0 := fun h => he (List.eq_nil_of_length_eq_zero h)
                        simpa using this
                      exact ⟨(i + 1, st'), _, by simp [p0, p4, p3, hS, htp, hlt, hat, hb', w1, w2, w3, z2, hbt', hne, byteAV]; rfl, by simp only; omega, rfl, by simp [p0], by simp, by simp; exact StkR.pop (v := .nils) hS ht3 hl3, by simp only; omega, by simp only; omega, hinv⟩
                  · left
                    have hbt' : (((s[i]).toNat : Int) == (d.toNat : Int)) = false := by rw [hbt]; simpa using hsd
                    rw [if_neg hsd, map_map_add] at hinv
                    exact ⟨(i + 1, d :: st'), _, by simp [p0, p4, p3, hS, htp, hlt, hat, hb', w1, w2, w3, z2, hbt', byteAV]; rfl, by simp only; omega, rfl, by simp [p0], by simp, .inr ⟨id, cs, by simp [p3], by simp [hS], ht, by simpa using hl2⟩, by simp only; omega, by simp only [List.length_cons]; omega, hinv⟩
        · right
          rw [List.drop_of_length_le (by omega)] at hinv
          refine ⟨.ex 0, _, by simp, by simp [p0, p4, hlt]; rfl, rfl, .inl ⟨rfl, ?_⟩⟩
          rw [hinv]; rfl)
      n (0, []) _ r hI (by simp [clI, StkR]) (by simp; omega)
    rcases hx with ⟨rfl, h⟩ | ⟨rfl, h⟩
    · rw [h]; simp [hD, intOf]
    · simp [hD, h]
  obtain ⟨S, h⟩ := hrs
  refine F_cp (rs := [.int .i64 (intOf (closeI (s.length + 1) [] s))]) (S := S) rfl rfl ?_
  rw [F_fn rfl rfl rfl Tryz.func39 rfl]
  exact h

end
end Go.Proofs.YtmcfnnpihlediaaGreatDoor.Ex

/- The document's own cutting: which bytes are outside; texts cut at signs. -/
namespace Go.Proofs.YtmcfnnpihlediaaGreatDoor.Ex
open Go
attribute [-simp] rgn rgnD exec_seq exec_cond exec_block keepS

/-- Of each byte: is it outside? -/
def outB : Nat → Str → Str → List Bool
  | 0, _, _ => []
  | _ + 1, _, [] => []
  | f + 1, st, c :: r =>
    match opens (c :: r) with
    | some d => false :: false :: outB f (d :: st) (r.drop 1)
    | none =>
      match st with
      | [] => true :: outB f [] r
      | d :: st' => false :: outB f (if c = d then st' else d :: st') r

theorem outB_fuel : ∀ (f g : Nat) (st s : Str), s.length < f → s.length < g → outB f st s = outB g st s
  | 0, _, _, _, h, _ => by omega
  | _ + 1, 0, _, _, _, h => by omega
  | f + 1, g + 1, st, [], _, _ => rfl
  | f + 1, g + 1, st, c :: r, h1, h2 => by
    simp only [List.length_cons] at h1 h2
    have hd : (r.drop 1).length ≤ r.length := by simp
    simp only [outB]
    split
    · rw [outB_fuel f g _ _ (by omega) (by omega)]
    · split
      · rw [outB_fuel f g _ _ (by omega) (by omega)]
      · rw [outB_fuel f g _ r (by omega) (by omega)]

theorem opens_two {s : Str} {d : UInt8} (h : opens s = some d) : ∃ a b r, s = a :: b :: r := by
  match s, h with
  | a :: b :: r, _ => exact ⟨a, b, r, rfl⟩
  | [], h => cases h
  | [_], h => cases h

theorem outB_len : ∀ (f : Nat) (st s : Str), s.length < f → (outB f st s).length = s.length
  | 0, _, _, h => by omega
  | f + 1, st, [], _ => rfl
  | f + 1, st, c :: r, h => by
    simp only [List.length_cons] at h
    simp only [outB]
    split
    · rename_i d hd
      obtain ⟨a, b, q, he⟩ := opens_two hd
      injection he with _ he
      subst he
      simp only [List.length_cons, List.drop_succ_cons, List.drop_zero] at h ⊢
      rw [outB_len f _ q (by omega)]
    · split
      · simp only [List.length_cons]; rw [outB_len f _ r (by omega)]
      · simp only [List.length_cons]; rw [outB_len f _ r (by omega)]

theorem outB_cons (s : Str) (i : Nat) (h : i < s.length) (st : Str) :
    outB (s.length + 1) st (s.drop i) =
    match opens (s.drop i) with
    | some d => false :: false :: outB (s.length + 1) (d :: st) (s.drop (i + 2))
    | none =>
      match st with
      | [] => true :: outB (s.length + 1) [] (s.drop (i + 1))
      | d :: st' => false :: outB (s.length + 1) (if s[i] = d then st' else d :: st') (s.drop (i + 1)) := by
  have hd : s.drop i = s[i] :: s.drop (i + 1) := List.drop_eq_getElem_cons h
  have e2 : (s.drop (i + 1)).drop 1 = s.drop (i + 2) := by rw [List.drop_drop]
  have l1 : (s.drop (i + 1)).length < s.length := by simp; omega
  have l2 : (s.drop (i + 2)).length < s.length := by simp; omega
  conv => lhs; rw [hd]
  simp only [outB, e2]
  rw [← hd]
  cases opens (s.drop i) with
  | some d => simp only []; rw [outB_fuel s.length (s.length + 1) _ _ l2 (by omega)]
  | none =>
    cases st with
    | nil => simp only []; rw [outB_fuel s.length (s.length + 1) _ _ l1 (by omega)]
    | cons d st' => simp only []; rw [outB_fuel s.length (s.length + 1) _ (s.drop (i + 1)) l1 (by omega)]

/-- The first outside byte at which a sign stands. -/
def scanO (signs : List Str) : List Bool → Str → Option (Nat × Str)
  | b :: bs, c :: r =>
    if b then (match signs.find? fun g => g != [] && isPre g (c :: r) with
      | some g => some (0, g)
      | none => (scanO signs bs r).map fun p => (p.1 + 1, p.2))
    else (scanO signs bs r).map fun p => (p.1 + 1, p.2)
  | _, _ => none

theorem scanO_cut (signs : List Str) : ∀ (f : Nat) (st s : Str), s.length < f → scanO signs (outB f st s) s = cutI signs f st s
  | 0, _, _, h => by omega
  | f + 1, st, [], _ => rfl
  | f + 1, st, c :: r, h => by
    simp only [List.length_cons] at h
    simp only [outB, cutI]
    cases hop : opens (c :: r) with
    | some d =>
      obtain ⟨a, b, q, he⟩ := opens_two hop
      injection he with _ he
      subst he
      simp only [List.length_cons] at h
      simp only [List.drop_succ_cons, List.drop_zero, scanO, Bool.false_eq_true, if_false]
      rw [scanO_cut signs f _ q (by omega)]
      cases cutI signs f (d :: st) q <;> simp
    | none =>
      cases st with
      | nil =>
        simp only [scanO, if_true]
        rw [scanO_cut signs f _ r (by omega)]
        cases List.find? (fun g => g != [] && isPre g (c :: r)) signs <;> rfl
      | cons d st' =>
        simp only [scanO, Bool.false_eq_true, if_false]
        rw [scanO_cut signs f _ r (by omega)]

/-- A stack that is no object of the first number. -/
def StkZ (v : AV) (S : Obs) (st : Str) : Prop := StkR v S st ∧ ∀ id sz off n, v = .row id sz off n → 1 ≤ id

section
variable [XX]

def ouC (s : Str) (i : Nat) : List AV := ((outB (s.length + 1) [] s).take i).map .bool ++ List.replicate (s.length - i) (.bool false)
def ouI (s : Str) (x : Nat × Str) (c : Cfg) : Prop :=
  c.D = [] ∧ c.pf 0 = .str s ∧ c.pf 3 = .row 0 1 0 s.length ∧ c.pf 5 = .int .i64 x.1 ∧ StkZ (c.pf 4) c.S x.2 ∧ c.S[0]? = some (.rowo 0 (ouC s x.1)) ∧ x.1 ≤ s.length ∧ x.2.length ≤ x.1 ∧
    outB (s.length + 1) [] s = (outB (s.length + 1) [] s).take x.1 ++ outB (s.length + 1) x.2 (s.drop x.1)
def ouQ (s : Str) (x : PX) (c : Cfg) : Prop :=
  c.D = [] ∧ x = .ex 0 ∧ c.pf 3 = .row 0 1 0 s.length ∧ c.S[0]? = some (.rowo 0 ((outB (s.length + 1) [] s).map .bool))

theorem ouC_len (s : Str) (i : Nat) (h : i ≤ s.length) : (ouC s i).length = s.length := by
  have := outB_len (s.length + 1) [] s (by omega)
  simp [ouC, this]; omega

/-- A byte's mark is laid, or left. -/
theorem ouC_put {s : Str} {i : Nat} {b : Bool} {rest : List Bool} (h : i < s.length) (hM : outB (s.length + 1) [] s = (outB (s.length + 1) [] s).take i ++ b :: rest) :
    (ouC s i).take i ++ [.bool b] ++ (ouC s i).drop (i + 1) = ouC s (i + 1) ∧ (b = false → ouC s i = ouC s (i + 1)) ∧ outB (s.length + 1) [] s = (outB (s.length + 1) [] s).take (i + 1) ++ rest := by
  have hl := outB_len (s.length + 1) [] s (by omega)
  unfold ouC
  generalize outB (s.length + 1) [] s = M at *
  have hti : (M.take i).length = i := by rw [List.length_take]; omega
  have ht : M.take (i + 1) = M.take i ++ [b] := by
    conv => lhs; rw [hM]
    rw [List.take_append, hti, List.take_of_length_le (by omega)]
    simp
  have hr : List.replicate (s.length - i) (AV.bool false) = .bool false :: List.replicate (s.length - (i + 1)) (.bool false) := by
    rw [show s.length - i = s.length - (i + 1) + 1 by omega, List.replicate_succ]
  refine ⟨?_, fun hb => ?_, ?_⟩
  · rw [List.take_append_of_le_length (by simp; omega), List.take_of_length_le (by simp; omega), List.drop_append, ht, hr]
    simp [hti, List.drop_of_length_le]
    rw [List.drop_of_length_le (by simp; omega)]
    simp
    rw [show i + 1 - min i M.length = 1 by omega]
    simp
  · rw [ht, hr, hb]; simp
  · rw [ht]; conv => lhs; rw [hM]
    simp

set_option maxHeartbeats 16000000 in
theorem v96 (n : Nat) (s : Str) (hs : s.length ≤ 1000000000) (hn : s.length + 5 < n) :
    ∃ S, F (n + 1) (.f 96) [.str s] [] = some ([.row 0 1 0 s.length], S) ∧ S[0]? = some (.rowo 0 ((outB (s.length + 1) [] s).map .bool)) := by
  rw [F_fn rfl rfl rfl Tryz.func96 rfl]
  have hb0 : (s.length : Int) ≤ 140737488355328 := by omega
  simp [runFn, Tryz.f96, hb0, zeroCells]
  generalize hI : iter _ _ _ = r
  obtain ⟨px, c, rfl, hD, rfl, h3, h0⟩ := iter_cfg (fun x : Nat × Str => s.length - x.1) (ouI s) (ouQ s)
    (fun x c hcc => by
      obtain ⟨i, st⟩ := x
      obtain ⟨pf, S, D⟩ := c
      obtain ⟨rfl, p0, p3, p5, ⟨hstk, hz⟩, hS0, hi, hl, hinv⟩ := hcc
      simp only at p0 p3 p5 hstk hz hS0 hi hl hinv
      by_cases hlt : i < s.length
      · have hat : s[i]? = some s[i] := List.getElem?_eq_getElem hlt
        have w1 : IntKind.wrap .i64 ((i : Int) + 1) = (i : Int) + 1 := wrap64 (by omega) (by omega)
        have w2 : IntKind.wrap .i64 ((i : Int) + 1 + 1) = (i : Int) + 2 := by rw [wrap64 (by omega) (by omega)]; omega
        rw [outB_cons s i hlt st] at hinv
        have hoa := opens_at s i hlt
        have hb := byte_eq s[i] 36 (by decide)
        have e41 : byteAV 41 = .int .u8 41 := rfl
        have e125 : byteAV 125 = .int .u8 125 := rfl
        have hSpos : 0 < S.length := (List.getElem?_eq_some_iff.1 hS0).1
        have hSa : ∀ l : Obs, (S ++ l)[0]? = some (.rowo 0 (ouC s i)) := fun l => by rw [List.getElem?_append_left hSpos]; exact hS0
        have hCl := ouC_len s i hi
        have hC1 : i + 1 ≤ s.length := hlt
        have hS00 : ∀ o : Ob, (S.set 0 o)[0]? = some o := fun o => by simp [hSpos]
        left
        by_cases hop : ∃ d, opens (s.drop i) = some d
        · obtain ⟨d, hd⟩ := hop
          rw [hd] at hinv
          simp only at hinv
          obtain ⟨_, q1, q2⟩ := ouC_put hlt hinv
          rw [hoa] at hd
          split at hd
          case isFalse => cases hd
          rename_i h2
          obtain ⟨_, q3, put3⟩ := ouC_put h2 q2
          have hC2 : ouC s i = ouC s (i + 2) := (q1 rfl).trans (q3 rfl)
          split at hd
          case isFalse => cases hd
          rename_i h36
          have hb' : (((s[i]).toNat : Int) == 36) = true := by rw [show (36 : Int) = ((36 : Nat) : Int) from rfl, hb]; simp [h36]
          have h2' : (i : Int) + 1 < (s.length : Int) := by omega
          have hat2 : s[i + 1]? = some s[i + 1] := List.getElem?_eq_getElem h2
          have t1 : ((i : Int) + 1).toNat = i + 1 := by omega
          have z1 : (0 : Int) ≤ (i : Int) + 1 := by omega
          have hb40 := byte_eq s[i + 1] 40 (by decide)
          have hb123 := byte_eq s[i + 1] 123 (by decide)
          have hl3 : st.length + 1 ≤ 140737488355328 := by omega
          split at hd
          · rename_i h40
            injection hd with hd; subst hd
            have hb40' : (((s[i + 1]).toNat : Int) == 40) = true := by rw [show (40 : Int) = ((40 : Nat) : Int) from rfl, hb40]; simp [h40]
            have hb123' : (((s[i + 1]).toNat : Int) == 123) = false := by rw [show (123 : Int) = ((123 : Nat) : Int) from rfl, hb123]; simp [h40]
            · skip
              rcases hstk with ⟨rfl, p4⟩ | ⟨id, cs, p4, hS, ht, hl2⟩
              · refine ⟨(i + 2, [41]), _, by simp [p0, p3, p4, p5, hlt, hat, w1, w2, hS0, hCl, hC1, hb', h2', t1, z1, hat2, hb40', hb123']; rfl, by simp only; omega, rfl, by simp [p0], by simp [p3], by simp, ⟨?_, by simp; omega⟩, by rw [← hC2]; exact hSa _, by simp only; omega, by simp only [List.length_cons, List.length_nil]; omega, put3⟩
                simp only [e41.symm]
                simpa using StkR.push0 S 41
              · have hid := hz id 1 0 st.length p4
                have hid0 : ¬ id = 0 := by omega
                have hid0' : ¬ 0 = id := by omega
                have hpush := StkR.push1 (S := S) (id := id) ht hl2 41
                rw [e41] at hpush
                refine ⟨(i + 2, 41 :: st), _, by simp [p0, p3, p4, p5, hS, hl2, hl3, hlt, hat, w1, w2, hS0, hCl, hC1, hb', h2', t1, z1, hat2, hb40', hb123']; rfl, by simp only; omega, rfl, by simp [p0], by simp [p3], by simp, ⟨by simpa using hpush, by simp; omega⟩, ?_, by simp only; omega, by simp only [List.length_cons]; omega, put3⟩
                rw [← hC2, List.getElem?_append_left (by simpa using hSpos), List.getElem?_set_ne hid0]
                exact hS0
          · rename_i h40
            split at hd
            case isFalse => cases hd
            rename_i h123
            injection hd with hd; subst hd
            have hb40' : (((s[i + 1]).toNat : Int) == 40) = false := by rw [show (40 : Int) = ((40 : Nat) : Int) from rfl, hb40]; simpa using h40
            have hb123' : (((s[i + 1]).toNat : Int) == 123) = true := by rw [show (123 : Int) = ((123 : Nat) : Int) from rfl, hb123]; simp [h123]
            · skip
              rcases hstk with ⟨rfl, p4⟩ | ⟨id, cs, p4, hS, ht, hl2⟩
              · refine ⟨(i + 2, [125]), _, by simp [p0, p3, p4, p5, hlt, hat, w1, w2, hS0, hCl, hC1, hb', h2', t1, z1, hat2, hb40', hb123']; rfl, by simp only; omega, rfl, by simp [p0], by simp [p3], by simp, ⟨?_, by simp; omega⟩, by rw [← hC2]; exact hSa _, by simp only; omega, by simp only [List.length_cons, List.length_nil]; omega, put3⟩
                simp only [e125.symm]
                simpa using StkR.push0 S 125
              · have hid := hz id 1 0 st.length p4
                have hid0 : ¬ id = 0 := by omega
                have hid0' : ¬ 0 = id := by omega
                have hpush := StkR.push1 (S := S) (id := id) ht hl2 125
                rw [e125] at hpush
                refine ⟨(i + 2, 125 :: st), _, by simp [p0, p3, p4, p5, hS, hl2, hl3, hlt, hat, w1, w2, hS0, hCl, hC1, hb', h2', t1, z1, hat2, hb40', hb123']; rfl, by simp only; omega, rfl, by simp [p0], by simp [p3], by simp, ⟨by simpa using hpush, by simp; omega⟩, ?_, by simp only; omega, by simp only [List.length_cons]; omega, put3⟩
                rw [← hC2, List.getElem?_append_left (by simpa using hSpos), List.getElem?_set_ne hid0]
                exact hS0
        · have hno : opens (s.drop i) = none := by
            cases h : opens (s.drop i) with
            | none => rfl
            | some d => exact absurd ⟨d, h⟩ hop
          rw [hno] at hinv hoa
          simp only at hinv
          rcases hstk with ⟨rfl, p4⟩ | ⟨id, cs, p4, hS, ht, hl2⟩
          · simp only at hinv
            obtain ⟨put1, _, put3⟩ := ouC_put hlt hinv
            · by_cases h36 : s[i] = 36
              · have hb' : (((s[i]).toNat : Int) == 36) = true := by rw [show (36 : Int) = ((36 : Nat) : Int) from rfl, hb]; simp [h36]
                by_cases h2 : i + 1 < s.length
                · rw [dif_pos h2, if_pos h36] at hoa
                  have h2' : (i : Int) + 1 < (s.length : Int) := by omega
                  have hat2 : s[i + 1]? = some s[i + 1] := List.getElem?_eq_getElem h2
                  have t1 : ((i : Int) + 1).toNat = i + 1 := by omega
                  have z1 : (0 : Int) ≤ (i : Int) + 1 := by omega
                  have hb40 := byte_eq s[i + 1] 40 (by decide)
                  have hb123 := byte_eq s[i + 1] 123 (by decide)
                  have h40 : ¬ s[i + 1] = 40 := by intro h; simp [h] at hoa
                  have h123 : ¬ s[i + 1] = 123 := by intro h; simp [h] at hoa
                  have hb40' : (((s[i + 1]).toNat : Int) == 40) = false := by rw [show (40 : Int) = ((40 : Nat) : Int) from rfl, hb40]; simpa using h40
                  have hb123' : (((s[i + 1]).toNat : Int) == 123) = false := by rw [show (123 : Int) = ((123 : Nat) : Int) from rfl, hb123]; simpa using h123
                  exact ⟨(i + 1, []), _, by simp [p0, p3, p4, p5, hlt, hat, w1, w2, hS0, hCl, hC1, hb', h2', t1, z1, hat2, hb40', hb123']; rfl, by simp only; omega, rfl, by simp [p0], by simp [p3], by simp, ⟨.inl ⟨rfl, by simp [p4]⟩, by simp [p4]⟩, by simp [hS00, ← put1, -List.take_append_drop], by simp only; omega, by simp, put3⟩
                · have hz2 : True := trivial
                  have h2' : ¬ ((i : Int) + 1 < (s.length : Int)) := by omega
                  exact ⟨(i + 1, []), _, by simp [p0, p3, p4, p5, hlt, hat, w1, w2, hS0, hCl, hC1, hb', h2']; rfl, by simp only; omega, rfl, by simp [p0], by simp [p3], by simp, ⟨.inl ⟨rfl, by simp [p4]⟩, by simp [p4]⟩, by simp [hS00, ← put1, -List.take_append_drop], by simp only; omega, by simp, put3⟩
              · have hb' : (((s[i]).toNat : Int) == 36) = false := by rw [show (36 : Int) = ((36 : Nat) : Int) from rfl, hb]; simpa using h36
                exact ⟨(i + 1, []), _, by simp [p0, p3, p4, p5, hlt, hat, w1, w2, hS0, hCl, hC1, hb']; rfl, by simp only; omega, rfl, by simp [p0], by simp [p3], by simp, ⟨.inl ⟨rfl, by simp [p4]⟩, by simp [p4]⟩, by simp [hS00, ← put1, -List.take_append_drop], by simp only; omega, by simp, put3⟩
          · have hid := hz id 1 0 st.length p4
            have hid0 : ¬ 0 = id := by omega
            · by_cases h36 : s[i] = 36
              · have hb' : (((s[i]).toNat : Int) == 36) = true := by rw [show (36 : Int) = ((36 : Nat) : Int) from rfl, hb]; simp [h36]
                by_cases h2 : i + 1 < s.length
                · rw [dif_pos h2, if_pos h36] at hoa
                  have h2' : (i : Int) + 1 < (s.length : Int) := by omega
                  have hat2 : s[i + 1]? = some s[i + 1] := List.getElem?_eq_getElem h2
                  have t1 : ((i : Int) + 1).toNat = i + 1 := by omega
                  have z1 : (0 : Int) ≤ (i : Int) + 1 := by omega
                  have hb40 := byte_eq s[i + 1] 40 (by decide)
                  have hb123 := byte_eq s[i + 1] 123 (by decide)
                  have h40 : ¬ s[i + 1] = 40 := by intro h; simp [h] at hoa
                  have h123 : ¬ s[i + 1] = 123 := by intro h; simp [h] at hoa
                  have hb40' : (((s[i + 1]).toNat : Int) == 40) = false := by rw [show (40 : Int) = ((40 : Nat) : Int) from rfl, hb40]; simpa using h40
                  have hb123' : (((s[i + 1]).toNat : Int) == 123) = false := by rw [show (123 : Int) = ((123 : Nat) : Int) from rfl, hb123]; simpa using h123
                  by_cases hst0 : st = []
                  · subst hst0
                    simp only at hinv
                    obtain ⟨put1, _, put3⟩ := ouC_put hlt hinv
                    exact ⟨(i + 1, []), _, by simp [p0, p3, p4, p5, hlt, hat, w1, w2, hS0, hCl, hC1, hb', h2', t1, z1, hat2, hb40', hb123']; rfl, by simp only; omega, rfl, by simp [p0], by simp [p3], by simp, ⟨.inr ⟨id, cs, by simp [p4], by simp [List.getElem?_set, hid0, hS], by simp, by simp⟩, by simp [p4]; omega⟩, by simp [hS00, ← put1], by simp only; omega, by simp, put3⟩
                  · obtain ⟨d, st', rfl⟩ := List.exists_cons_of_ne_nil hst0
                    have htop := StkR.top (.inr ⟨id, cs, rfl, hS, ht, hl2⟩)
                    obtain ⟨id2, cs2, he, hS2, htp, hl3, ht3⟩ := htop
                    injection he with he; subst he
                    rw [hS] at hS2; injection hS2 with hS2; injection hS2 with _ hS2; subst hS2
                    simp only [List.length_cons] at p4 hl2 hl
                    have w3 : IntKind.wrap .i64 (st'.length : Int) = (st'.length : Int) := wrap64 (by omega) (by omega)
                    have z2 : (st'.length : Int) ≤ (st'.length : Int) + 1 := by omega
                    have hbt := byte_eq2 s[i] d
                    simp only at hinv
                    by_cases hsd : s[i] = d
                    · have hbt' : (((s[i]).toNat : Int) == (d.toNat : Int)) = true := by rw [hbt]; simpa using hsd
                      rw [if_pos hsd] at hinv
                      obtain ⟨_, put2, put3⟩ := ouC_put hlt hinv
                      exact ⟨(i + 1, st'), _, by simp [p0, p3, p4, p5, hS, htp, hlt, hat, w1, w2, hS0, hCl, hC1, hb', h2', t1, z1, hat2, hb40', hb123', w3, z2, hbt', byteAV]; rfl, by simp only; omega, rfl, by simp [p0], by simp [p3], by simp, ⟨by simp; exact StkR.pop (v := .nils) hS ht3 hl3, by simp; omega⟩, by simp [hS0, ← put2 rfl], by simp only; omega, by simp only; omega, put3⟩
                    · have hbt' : (((s[i]).toNat : Int) == (d.toNat : Int)) = false := by rw [hbt]; simpa using hsd
                      rw [if_neg hsd] at hinv
                      obtain ⟨put1, _, put3⟩ := ouC_put hlt hinv
                      exact ⟨(i + 1, d :: st'), _, by simp [p0, p3, p4, p5, hS, htp, hlt, hat, w1, w2, hS0, hCl, hC1, hb', h2', t1, z1, hat2, hb40', hb123', w3, z2, hbt', (show ((st'.length : Int) + 1 == 0) = false by simp; omega), byteAV]; rfl, by simp only; omega, rfl, by simp [p0], by simp [p3], by simp, ⟨.inr ⟨id, cs, by simp [p4], by simp [List.getElem?_set, hid0, hS], ht, by simpa using hl2⟩, by simp [p4]; omega⟩, by simp [hS00, ← put1], by simp only; omega, by simp only [List.length_cons]; omega, put3⟩
                · have hz2 : True := trivial
                  have h2' : ¬ ((i : Int) + 1 < (s.length : Int)) := by omega
                  by_cases hst0 : st = []
                  · subst hst0
                    simp only at hinv
                    obtain ⟨put1, _, put3⟩ := ouC_put hlt hinv
                    exact ⟨(i + 1, []), _, by simp [p0, p3, p4, p5, hlt, hat, w1, w2, hS0, hCl, hC1, hb', h2']; rfl, by simp only; omega, rfl, by simp [p0], by simp [p3], by simp, ⟨.inr ⟨id, cs, by simp [p4], by simp [List.getElem?_set, hid0, hS], by simp, by simp⟩, by simp [p4]; omega⟩, by simp [hS00, ← put1], by simp only; omega, by simp, put3⟩
                  · obtain ⟨d, st', rfl⟩ := List.exists_cons_of_ne_nil hst0
                    have htop := StkR.top (.inr ⟨id, cs, rfl, hS, ht, hl2⟩)
                    obtain ⟨id2, cs2, he, hS2, htp, hl3, ht3⟩ := htop
                    injection he with he; subst he
                    rw [hS] at hS2; injection hS2 with hS2; injection hS2 with _ hS2; subst hS2
                    simp only [List.length_cons] at p4 hl2 hl
                    have w3 : IntKind.wrap .i64 (st'.length : Int) = (st'.length : Int) := wrap64 (by omega) (by omega)
                    have z2 : (st'.length : Int) ≤ (st'.length : Int) + 1 := by omega
                    have hbt := byte_eq2 s[i] d
                    simp only at hinv
                    by_cases hsd : s[i] = d
                    · have hbt' : (((s[i]).toNat : Int) == (d.toNat : Int)) = true := by rw [hbt]; simpa using hsd
                      rw [if_pos hsd] at hinv
                      obtain ⟨_, put2, put3⟩ := ouC_put hlt hinv
                      exact ⟨(i + 1, st'), _, by simp [p0, p3, p4, p5, hS, htp, hlt, hat, w1, w2, hS0, hCl, hC1, hb', h2', w3, z2, hbt', byteAV]; rfl, by simp only; omega, rfl, by simp [p0], by simp [p3], by simp, ⟨by simp; exact StkR.pop (v := .nils) hS ht3 hl3, by simp; omega⟩, by simp [hS0, ← put2 rfl], by simp only; omega, by simp only; omega, put3⟩
                    · have hbt' : (((s[i]).toNat : Int) == (d.toNat : Int)) = false := by rw [hbt]; simpa using hsd
                      rw [if_neg hsd] at hinv
                      obtain ⟨put1, _, put3⟩ := ouC_put hlt hinv
                      exact ⟨(i + 1, d :: st'), _, by simp [p0, p3, p4, p5, hS, htp, hlt, hat, w1, w2, hS0, hCl, hC1, hb', h2', w3, z2, hbt', (show ((st'.length : Int) + 1 == 0) = false by simp; omega), byteAV]; rfl, by simp only; omega, rfl, by simp [p0], by simp [p3], by simp, ⟨.inr ⟨id, cs, by simp [p4], by simp [List.getElem?_set, hid0, hS], ht, by simpa using hl2⟩, by simp [p4]; omega⟩, by simp [hS00, ← put1], by simp only; omega, by simp only [List.length_cons]; omega, put3⟩
              · have hb' : (((s[i]).toNat : Int) == 36) = false := by rw [show (36 : Int) = ((36 : Nat) : Int) from rfl, hb]; simpa using h36
                by_cases hst0 : st = []
                · subst hst0
                  simp only at hinv
                  obtain ⟨put1, _, put3⟩ := ouC_put hlt hinv
                  exact ⟨(i + 1, []), _, by simp [p0, p3, p4, p5, hlt, hat, w1, w2, hS0, hCl, hC1, hb']; rfl, by simp only; omega, rfl, by simp [p0], by simp [p3], by simp, ⟨.inr ⟨id, cs, by simp [p4], by simp [List.getElem?_set, hid0, hS], by simp, by simp⟩, by simp [p4]; omega⟩, by simp [hS00, ← put1], by simp only; omega, by simp, put3⟩
                · obtain ⟨d, st', rfl⟩ := List.exists_cons_of_ne_nil hst0
                  have htop := StkR.top (.inr ⟨id, cs, rfl, hS, ht, hl2⟩)
                  obtain ⟨id2, cs2, he, hS2, htp, hl3, ht3⟩ := htop
                  injection he with he; subst he
                  rw [hS] at hS2; injection hS2 with hS2; injection hS2 with _ hS2; subst hS2
                  simp only [List.length_cons] at p4 hl2 hl
                  have w3 : IntKind.wrap .i64 (st'.length : Int) = (st'.length : Int) := wrap64 (by omega) (by omega)
                  have z2 : (st'.length : Int) ≤ (st'.length : Int) + 1 := by omega
                  have hbt := byte_eq2 s[i] d
                  simp only at hinv
                  by_cases hsd : s[i] = d
                  · have hbt' : (((s[i]).toNat : Int) == (d.toNat : Int)) = true := by rw [hbt]; simpa using hsd
                    rw [if_pos hsd] at hinv
                    obtain ⟨_, put2, put3⟩ := ouC_put hlt hinv
                    exact ⟨(i + 1, st'), _, by simp [p0, p3, p4, p5, hS, htp, hlt, hat, w1, w2, hS0, hCl, hC1, hb', w3, z2, hbt', byteAV]; rfl, by simp only; omega, rfl, by simp [p0], by simp [p3], by simp, ⟨by simp; exact StkR.pop (v := .nils) hS ht3 hl3, by simp; omega⟩, by simp [hS0, ← put2 rfl], by simp only; omega, by simp only; omega, put3⟩
                  · have hbt' : (((s[i]).toNat : Int) == (d.toNat : Int)) = false := by rw [hbt]; simpa using hsd
                    rw [if_neg hsd] at hinv
                    obtain ⟨put1, _, put3⟩ := ouC_put hlt hinv
                    exact ⟨(i + 1, d :: st'), _, by simp [p0, p3, p4, p5, hS, htp, hlt, hat, w1, w2, hS0, hCl, hC1, hb', w3, z2, hbt', (show ((st'.length : Int) + 1 == 0) = false by simp; omega), byteAV]; rfl, by simp only; omega, rfl, by simp [p0], by simp [p3], by simp, ⟨.inr ⟨id, cs, by simp [p4], by simp [List.getElem?_set, hid0, hS], ht, by simpa using hl2⟩, by simp [p4]; omega⟩, by simp [hS00, ← put1], by simp only; omega, by simp only [List.length_cons]; omega, put3⟩
      · right
        have hie : i = s.length := by omega
        subst hie
        have hM := outB_len (s.length + 1) [] s (by omega)
        refine ⟨.ex 0, _, by simp, by simp [p0, p5]; rfl, rfl, rfl, by simp [p3], ?_⟩
        simp only
        rw [hS0, ouC, List.take_of_length_le (by omega)]
        simp)
    n (0, []) _ r hI (by refine ⟨rfl, by simp, by simp, by simp, ⟨.inl ⟨rfl, by simp⟩, by simp⟩, by simp [ouC], by simp, by simp, by simp⟩) (by simp; omega)
  simp [hD, h3, h0]

end
end Go.Proofs.YtmcfnnpihlediaaGreatDoor.Ex

/- The document's own cutting of a text at signs. -/
namespace Go.Proofs.YtmcfnnpihlediaaGreatDoor.Ex
open Go
attribute [-simp] rgn rgnD exec_seq exec_cond exec_block keepS

def sgn (r : Str) (g : Str) : Bool := g != [] && isPre g r

theorem scanO_drop (signs : List Str) (M : List Bool) (s : Str) (i : Nat) (h : i < s.length) (hM : M.length = s.length) :
    scanO signs (M.drop i) (s.drop i) = if M[i]'(by omega) = true then (match signs.find? (sgn (s.drop i)) with | some g => some (0, g) | none => (scanO signs (M.drop (i + 1)) (s.drop (i + 1))).map fun p => (p.1 + 1, p.2))
      else (scanO signs (M.drop (i + 1)) (s.drop (i + 1))).map fun p => (p.1 + 1, p.2) := by
  have hd : s.drop i = s[i] :: s.drop (i + 1) := List.drop_eq_getElem_cons h
  have hd2 : M.drop i = M[i]'(by omega) :: M.drop (i + 1) := List.drop_eq_getElem_cons (by omega)
  conv => lhs; rw [hd, hd2]
  rw [scanO, ← hd]
  rfl

theorem omap2 (o : Option (Nat × Str)) (a b : Nat) : (o.map fun p => (p.1 + a, p.2)).map (fun p => (p.1 + b, p.2)) = o.map fun p => (p.1 + (b + a), p.2) := by
  cases o with
  | none => rfl
  | some x => simp; omega

section
variable [XX]

def cwI (s : Str) (signs : List Str) (M : List Bool) (i : Nat) (pf : PF) : Prop :=
  pf 0 = .str s ∧ pf 1 = .sl 1 (signs.map .str) ∧ pf 7 = .row 0 1 0 s.length ∧ pf 8 = .int .i64 i ∧ i ≤ s.length ∧ scanO signs M s = (scanO signs (M.drop i) (s.drop i)).map fun p => (p.1 + i, p.2)
def cwQ (s : Str) (signs : List Str) (M : List Bool) (x : PX) (pf : PF) : Prop :=
  (x = .ex 0 ∧ scanO signs M s = none ∧ pf 0 = .str s) ∨ (x = .ret ∧ ∃ j g, scanO signs M s = some (j, g) ∧ pf 4 = .str (s.take j) ∧ pf 5 = .str g ∧ pf 6 = .str (s.drop (j + g.length)))
def cvI (s : Str) (signs : List Str) (i k : Nat) (pf : PF) : Prop :=
  pf 0 = .str s ∧ pf 1 = .sl 1 (signs.map .str) ∧ pf 7 = .row 0 1 0 s.length ∧ pf 8 = .int .i64 i ∧ pf 9 = .int .i64 k ∧ k ≤ signs.length ∧ (signs.take k).find? (sgn (s.drop i)) = none
def cvQ (s : Str) (signs : List Str) (i : Nat) (x : PX) (pf : PF) : Prop :=
  (x = .ex 2 ∧ signs.find? (sgn (s.drop i)) = none ∧ pf 0 = .str s ∧ pf 1 = .sl 1 (signs.map .str) ∧ pf 7 = .row 0 1 0 s.length ∧ pf 8 = .int .i64 i) ∨
  (x = .ret ∧ ∃ g, signs.find? (sgn (s.drop i)) = some g ∧ pf 4 = .str (s.take i) ∧ pf 5 = .str g ∧ pf 6 = .str (s.drop (i + g.length)))

set_option maxHeartbeats 16000000 in
theorem v64 (n : Nat) (s : Str) (signs : List Str) (hs : s.length ≤ 1000000000) (hg : signs.length ≤ 1000000) (hgl : ∀ g ∈ signs, g.length ≤ 1000000000) (hn : s.length + signs.length + 10 < n) :
    CP (F (n + 1)) 64 [.str s, .sl 1 (signs.map .str)] (.tup [.str (cutS s signs).1, .str (cutS s signs).2.1, .str (cutS s signs).2.2]) := by
  obtain ⟨n, rfl⟩ : ∃ q, n = q + 1 := ⟨n - 1, by omega⟩
  obtain ⟨S0, h96, hS0⟩ := v96 n s hs (by omega)
  have hcp : callP (F (n + 1)) (.f 96) [.str s] = none := by
    simp only [callP, h96]
    simp [noBoxL, noBox]
  have hML := outB_len (s.length + 1) [] s (by omega)
  have hcut := scanO_cut signs (s.length + 1) [] s (by omega)
  have hrs : ∃ S, runFn Tryz.prog own1 (F (n + 1)) (n + 1) Tryz.f64 (Tryz.f64.body.getD .skip) [.str s, .sl 1 (signs.map .str)] [] = some ([.str (cutS s signs).1, .str (cutS s signs).2.1, .str (cutS s signs).2.2], S) := by
    unfold cutS
    rw [← hcut]
    generalize outB (s.length + 1) [] s = M at *
    simp [runFn, Tryz.f64, hcp, h96]
    generalize hI : iter _ _ _ = r
    obtain ⟨x, pf', rfl, hx⟩ := iter_gen (fun i : Nat => s.length - i) (cwI s signs M) (cwQ s signs M)
      (fun i pf h => by
        obtain ⟨p0, p1, p7, p8, hi, hinv⟩ := h
        by_cases hlt : i < s.length
        · have hltM : i < M.length := by omega
          have hMi : M[i]? = some M[i] := List.getElem?_eq_getElem hltM
          have w1 : IntKind.wrap .i64 ((i : Int) + 1) = (i : Int) + 1 := wrap64 (by omega) (by omega)
          rw [scanO_drop signs M s i hlt hML] at hinv
          cases hb : M[i] with
          | false =>
            left
            rw [hb] at hinv hMi
            simp only [Bool.false_eq_true, if_false, omap2] at hinv
            exact ⟨i + 1, _, by simp [p0, p7, p8, hlt, hS0, hMi, w1]; rfl, by omega, by simp [p0], by simp [p1], by simp [p7], by simp, by omega, by rw [hinv]⟩
          | true =>
            rw [hb] at hinv hMi
            simp only [if_true] at hinv
            generalize hz : exec _ _ _ _ _ _ _ (⟨pf, S0, []⟩ : Cfg) = z
            simp [p0, p1, p7, p8, hlt, hS0, hMi, w1] at hz
            generalize hI2 : iter _ _ _ = r2 at hz
            obtain ⟨x2, pf2, rfl, hx2⟩ := iter_gen (fun k : Nat => signs.length - k) (cvI s signs i) (cvQ s signs i)
              (fun k pf h => by
                obtain ⟨p0, p1, p7, p8, p9, hk, hfk⟩ := h
                by_cases hkl : k < signs.length
                · have hat : signs[k]? = some signs[k] := List.getElem?_eq_getElem hkl
                  have hgk := hgl signs[k] (List.getElem_mem hkl)
                  have w2 : IntKind.wrap .i64 ((k : Int) + 1) = (k : Int) + 1 := wrap64 (by omega) (by omega)
                  have htk : signs.take (k + 1) = signs.take k ++ [signs[k]] := List.take_succ_eq_append_getElem hkl
                  have hfull : signs = signs.take k ++ signs[k] :: signs.drop (k + 1) := by rw [List.getElem_cons_drop, List.take_append_drop]
                  have w3 : IntKind.wrap .i64 ((i : Int) + (signs[k].length : Int)) = (i : Int) + (signs[k].length : Int) := wrap64 (by omega) (by omega)
                  by_cases hsg : sgn (s.drop i) signs[k] = true
                  · right
                    have hsg0 := hsg
                    simp only [sgn, Bool.and_eq_true, bne_iff_ne, ne_eq] at hsg
                    obtain ⟨hne, hpre⟩ := hsg
                    have hpl := isPre_len hpre
                    rw [isPre_take] at hpre
                    simp only [Bool.and_eq_true, decide_eq_true_eq, beq_iff_eq] at hpre
                    rw [List.length_drop] at hpl
                    have hgp : 0 < signs[k].length := List.length_pos_iff.2 hne
                    have d1 : (i : Int) + (signs[k].length : Int) ≤ (s.length : Int) := by omega
                    have d2 : (0 : Int) ≤ (i : Int) + (signs[k].length : Int) := by omega
                    have d3 : (i : Int) ≤ (i : Int) + (signs[k].length : Int) := by omega
                    have d4 : ((i : Int) + (signs[k].length : Int)).toNat = i + signs[k].length := by omega
                    have d5 : i + signs[k].length ≤ s.length := by omega
                    have d6 : List.take (s.length - (i + signs[k].length)) (List.drop (i + signs[k].length) s) = List.drop (i + signs[k].length) s := List.take_of_length_le (by simp)
                    have hfind : signs.find? (sgn (s.drop i)) = some signs[k] := by
                      have h := congrArg (List.find? (sgn (s.drop i))) hfull
                      rw [h, List.find?_append, hfk, Option.none_or, List.find?_cons, hsg0]
                    refine ⟨.ret, _, by simp, by simp [p0, p1, p8, p9, hkl, hat, w3, hgp, d1, d2, d3, d4, d5, d6, hpre.2, hi]; rfl, .inr ⟨rfl, signs[k], hfind, by simp, by simp, by simp⟩⟩
                  · left
                    have hsgf : sgn (s.drop i) signs[k] = false := by simpa using hsg
                    have hnext : (signs.take (k + 1)).find? (sgn (s.drop i)) = none := by
                      rw [htk, List.find?_append, hfk]
                      simp [hsgf]
                    simp only [sgn, Bool.and_eq_true, bne_iff_ne, ne_eq, not_and, Bool.not_eq_true] at hsg
                    by_cases hne : signs[k] = []
                    · have hl0 : ¬ 0 < signs[k].length := by simp [hne]
                      exact ⟨k + 1, _, by simp [p0, p1, p8, p9, hkl, hat, w2, w3, hl0]; rfl, by omega, by simp [p0], by simp [p1], by simp [p7], by simp [p8], by simp, by omega, hnext⟩
                    · have hpre := hsg hne
                      rw [isPre_take] at hpre
                      have hgp : 0 < signs[k].length := List.length_pos_iff.2 hne
                      by_cases hfit : i + signs[k].length ≤ s.length
                      · have d1 : (i : Int) + (signs[k].length : Int) ≤ (s.length : Int) := by omega
                        have d2 : (0 : Int) ≤ (i : Int) + (signs[k].length : Int) := by omega
                        have d3 : (i : Int) ≤ (i : Int) + (signs[k].length : Int) := by omega
                        have d4 : ((i : Int) + (signs[k].length : Int)).toNat = i + signs[k].length := by omega
                        have hne2 : (List.take signs[k].length (List.drop i s) == signs[k]) = false := by
                          have : decide (signs[k].length ≤ (s.drop i).length) = true := by simp; omega
                          rw [this, Bool.true_and] at hpre
                          exact hpre
                        exact ⟨k + 1, _, by simp [p0, p1, p8, p9, hkl, hat, w2, w3, hgp, d1, d2, d3, d4, hne2]; rfl, by omega, by simp [p0], by simp [p1], by simp [p7], by simp [p8], by simp, by omega, hnext⟩
                      · have d1 : ¬ ((i : Int) + (signs[k].length : Int) ≤ (s.length : Int)) := by omega
                        exact ⟨k + 1, _, by simp [p0, p1, p8, p9, hkl, hat, w2, w3, hgp, d1]; rfl, by omega, by simp [p0], by simp [p1], by simp [p7], by simp [p8], by simp, by omega, hnext⟩
                · right
                  have hke : k = signs.length := by omega
                  subst hke
                  rw [List.take_length] at hfk
                  exact ⟨.ex 2, _, by simp, by simp [p1, p9]; rfl, .inl ⟨rfl, hfk, by simp [p0], by simp [p1], by simp [p7], by simp [p8]⟩⟩)
              (n + 1) 0 _ r2 hI2 (by refine ⟨by simp [p0], by simp [p1], by simp [p7], by simp [p8], by simp, by simp, by simp⟩) (by omega)
            rcases hx2 with ⟨rfl, hf, q0, q1, q7, q8⟩ | ⟨rfl, g, hf, q4, q5, q6⟩
            · left
              rw [hf] at hinv
              simp only [omap2] at hinv
              simp [q8, w1] at hz
              exact ⟨i + 1, _, hz.symm, by omega, by simp [q0], by simp [q1], by simp [q7], by simp, by omega, by rw [hinv]⟩
            · right
              rw [hf] at hinv
              simp at hz
              refine ⟨.ret, _, by simp, hz.symm, .inr ⟨rfl, i, g, by rw [hinv]; simp, q4, q5, q6⟩⟩
        · right
          rw [List.drop_of_length_le (by omega), List.drop_of_length_le (by omega)] at hinv
          exact ⟨.ex 0, _, by simp, by simp [p0, p8, hlt]; rfl, .inl ⟨rfl, by rw [hinv]; cases M <;> rfl, by simp [p0]⟩⟩)
      (n + 1) 0 _ r hI (by refine ⟨by simp, by simp, by simp, by simp, by simp, ?_⟩; simp) (by omega)
    rcases hx with ⟨rfl, h1, p0⟩ | ⟨rfl, j, g, h1, p4, p5, p6⟩
    · rw [h1]; simp [p0]
    · rw [h1]; simp [p4, p5, p6]
  obtain ⟨S, h⟩ := hrs
  refine F_cp (rs := [.str (cutS s signs).1, .str (cutS s signs).2.1, .str (cutS s signs).2.2]) (S := S) (by simp [noBoxL, noBox]) rfl ?_
  rw [F_fn rfl rfl rfl Tryz.func64 rfl]
  exact h

end
end Go.Proofs.YtmcfnnpihlediaaGreatDoor.Ex

/- The document's own arguments; one reference more. -/
namespace Go.Proofs.YtmcfnnpihlediaaGreatDoor.Ex
open Go
attribute [-simp] rgn rgnD exec_seq exec_cond exec_block keepS

theorem cutI_sign {signs : List Str} : ∀ (f : Nat) (st s : Str) {i : Nat} {g : Str}, cutI signs f st s = some (i, g) → g ≠ []
  | 0, _, _, _, _, h => by cases h
  | _ + 1, _, [], _, _, h => by cases h
  | f + 1, st, c :: r, i, g, h => by
    simp only [cutI] at h
    split at h
    · simp only [Option.map_eq_some_iff] at h
      obtain ⟨⟨a, b⟩, h1, h2⟩ := h
      injection h2 with _ h2
      subst h2
      exact cutI_sign f _ _ h1
    · split at h
      · split at h
        · rename_i g' hf
          injection h with h; injection h with _ h; subst h
          have := List.find?_some hf
          simp only [Bool.and_eq_true, bne_iff_ne, ne_eq] at this
          exact this.1
        · simp only [Option.map_eq_some_iff] at h
          obtain ⟨⟨a, b⟩, h1, h2⟩ := h
          injection h2 with _ h2
          subst h2
          exact cutI_sign f _ _ h1
      · simp only [Option.map_eq_some_iff] at h
        obtain ⟨⟨a, b⟩, h1, h2⟩ := h
        injection h2 with _ h2
        subst h2
        exact cutI_sign f _ _ h1

section
variable [XX]

theorem v60 (n : Nat) (name : Str) : CP (F (n + 2)) 60 [.str name] (.tup [.int .i64 (takesL name).1, .int .i64 (takesL name).2]) := by
  have h := cp17 n name
  simp only [CP] at h
  refine F_cp (rs := [.int .i64 (takesL name).1, .int .i64 (takesL name).2]) (S := []) rfl rfl ?_
  rw [F_fn rfl rfl rfl Tryz.func60 rfl]
  unfold takesL
  by_cases h1 : name = [105, 102]
  · subst h1
    simp [runFn, Tryz.f60]
  · by_cases h2 : name = [102, 111, 114, 101, 97, 99, 104]
    · subst h2
      simp [runFn, Tryz.f60]
    · by_cases h3 : name = [99, 97, 108, 108]
      · subst h3
        simp [runFn, Tryz.f60]
      · have e1 : (name == [105, 102]) = false := by simpa using h1
        have e2 : (name == [102, 111, 114, 101, 97, 99, 104]) = false := by simpa using h2
        have e3 : (name == [99, 97, 108, 108]) = false := by simpa using h3
        simp [runFn, Tryz.f60, h1, h2, h3, e1, e2, e3, h]

set_option maxHeartbeats 4000000 in
theorem v62 (n : Nat) (s : Str) (hs : s.length ≤ 1000000000) (hn : s.length + 2 < n) : CP (F (n + 1)) 62 [.str s] (.str (s.dropWhile isBl)) := by
  refine F_cp (rs := [.str (s.dropWhile isBl)]) (S := []) rfl rfl ?_
  rw [F_fn rfl rfl rfl Tryz.func62 rfl]
  simp [runFn, Tryz.f62]
  generalize hI : iter _ _ _ = r
  obtain ⟨x, pf', rfl, rfl, p0⟩ := iter_gen (fun t : Str => t.length) (fun t pf => pf 0 = .str t ∧ t.dropWhile isBl = s.dropWhile isBl ∧ t.length ≤ s.length) (fun x pf => x = .ex 0 ∧ pf 0 = .str (s.dropWhile isBl))
    (fun t pf h => by
      obtain ⟨p0, ht, hl⟩ := h
      cases t with
      | nil =>
        right
        refine ⟨.ex 0, _, by simp, by simp [p0]; rfl, rfl, ?_⟩
        rw [← ht]; simp [p0]
      | cons c r =>
        simp only [List.length_cons] at hl
        have h1 : (1 : Int) ≤ (r.length : Int) + 1 := by omega
        have hb32 := byte_eq c 32 (by decide)
        have hb9 := byte_eq c 9 (by decide)
        simp only [show ((32 : Nat) : Int) = 32 from rfl, show UInt8.ofNat 32 = 32 from rfl, show ((9 : Nat) : Int) = 9 from rfl, show UInt8.ofNat 9 = 9 from rfl] at hb32 hb9
        by_cases hc : isBl c = true
        · left
          have hdw : r.dropWhile isBl = s.dropWhile isBl := by rw [← ht]; simp [hc]
          by_cases h32 : c = 32
          · have e : ((c.toNat : Int) == 32) = true := by rw [hb32]; simpa using h32
            exact ⟨r, _, by simp [p0, e, h1]; rfl, by simp, by simp, hdw, by omega⟩
          · have h9 : c = 9 := by
              simp only [isBl, Bool.or_eq_true, beq_iff_eq] at hc
              exact hc.resolve_left h32
            have e : ((c.toNat : Int) == 32) = false := by rw [hb32]; simpa using h32
            have e2 : ((c.toNat : Int) == 9) = true := by rw [hb9]; simpa using h9
            exact ⟨r, _, by simp [p0, e, e2, h1]; rfl, by simp, by simp, hdw, by omega⟩
        · right
          have hn : ¬ c = 32 ∧ ¬ c = 9 := by
            simp only [isBl, Bool.or_eq_true, beq_iff_eq, not_or] at hc
            exact hc
          have e : ((c.toNat : Int) == 32) = false := by rw [hb32]; simpa using hn.1
          have e2 : ((c.toNat : Int) == 9) = false := by rw [hb9]; simpa using hn.2
          refine ⟨.ex 0, _, by simp, by simp [p0, e, e2]; rfl, rfl, ?_⟩
          rw [← ht]; simp [p0, hc])
    n s _ r hI (by simp) (by omega)
  simp [p0]

set_option maxHeartbeats 4000000 in
theorem v61 (n : Nat) (s : Str) (most : Nat) (h0 : 1 ≤ most) (hm : most ≤ 20) (hs : s.length ≤ 1000000000) (hn : s.length + 3000 < n) :
    CP (F (n + 1)) 61 [.str s, .int .i64 most] (.sl 1 ((argsL s most).map .str)) := by
  refine F_cp (rs := [.sl 1 ((argsL s most).map .str)]) (S := []) (by simp [noBoxL, noBox]) (by simp [noBoxL, noBox]) ?_
  rw [F_fn rfl rfl rfl Tryz.func61 rfl]
  have wm : IntKind.wrap .i64 ((most : Int) - 1) = (most : Int) - 1 := wrap64 (by omega) (by omega)
  simp [runFn, Tryz.f61]
  generalize hI : iter _ _ _ = r
  obtain ⟨x, pf', rfl, hx⟩ := iter_gen (fun x : Nat × List Str × Str => x.1)
    (fun x pf => pf 0 = .str x.2.2 ∧ pf 1 = .int .i64 most ∧ pf 5 = .sl 1 (x.2.1.map .str) ∧ x.2.1.length + x.1 = most - 1 ∧ x.2.2.length ≤ s.length ∧ x.2.1 ++ argsGo x.1 x.2.2 = argsL s most)
    (fun x pf => (x = .ex 0 ∧ ∃ l t, pf 0 = .str t ∧ pf 5 = .sl 1 (l.map .str) ∧ l ++ [t] = argsL s most ∧ l.length ≤ 1000) ∨ (x = .ret ∧ pf 4 = .sl 1 ((argsL s most).map .str)))
    (fun x pf h => by
      obtain ⟨k, l, t⟩ := x
      obtain ⟨p0, p1, p5, hk, ht, hinv⟩ := h
      simp only at p0 p1 p5 hk ht hinv
      have hb1 : (l.length + 1) * 16 ≤ 140737488355328 := by omega
      cases k with
      | zero =>
        right
        have d1 : decide ((l.length : Int) < (most : Int) - 1) = false := by simp; omega
        refine ⟨.ex 0, _, by simp, by simp [p0, p1, p5, wm, d1]; rfl, .inl ⟨rfl, l, t, by simp [p0], by simp [p5], hinv, by omega⟩⟩
      | succ k =>
        have d1 : decide ((l.length : Int) < (most : Int) - 1) = true := by simp; omega
        have h64 : callP (F n) (.f 64) [.str t, .sl 1 [.str [44]]] = some (.tup [.str (cutS t [[44]]).1, .str (cutS t [[44]]).2.1, .str (cutS t [[44]]).2.2]) := by
          obtain ⟨m, rfl⟩ : ∃ m, n = m + 1 := ⟨n - 1, by omega⟩
          exact v64 m t [[44]] (by omega) (by simp) (by simp) (by simp; omega)
        have hl := cutS_len t [[44]]
        rw [argsGo] at hinv
        by_cases hc : (cutS t [[44]]).2.1 = []
        · right
          rw [if_pos hc] at hinv
          have hfst : (cutS t [[44]]).1 = t := by
            unfold cutS at hc ⊢
            split at hc
            · rename_i i g hcg
              exfalso
              simp only at hc
              subst hc
              exact cutI_sign _ _ _ hcg rfl
            · rfl
          rw [hfst] at h64
          refine ⟨.ret, _, by simp, by simp [p0, p1, p5, wm, d1, h64, hc, hb1]; rfl, .inr ⟨rfl, ?_⟩⟩
          rw [← hinv]; simp
        · left
          rw [if_neg hc] at hinv
          have hc' : ((cutS t [[44]]).2.1 == []) = false := by simpa using hc
          refine ⟨(k, l ++ [(cutS t [[44]]).1], (cutS t [[44]]).2.2), _, by simp [p0, p1, p5, wm, d1, h64, hc', hb1]; rfl, by simp, ?_⟩
          refine ⟨by simp, by simp [p1], by simp, by simp only [List.length_append, List.length_cons, List.length_nil]; omega, by simp only; omega, by simpa using hinv⟩)
    n (most - 1, [], s) _ r hI (by simp [argsL]) (by simp only; omega)
  rcases hx with ⟨rfl, l, t, h1, h2, h3, h4⟩ | ⟨rfl, h1⟩
  · have hb1 : (l.length + 1) * 16 ≤ 140737488355328 := by omega
    simp [h1, h2, hb1, ← h3]
  · simp [h1]

theorem v58 (n : Nat) (d id m : Nat) (S : Obs) (h : S[id]? = some (.cells [.int .i64 m])) (hm : m ≤ 100000) (hd : d ≤ 1000) :
    F (n + 1) (.f 58) [.box id 0, .int .i64 d] S = some ([.int .i64 (inS d m).1], SetN S id (inS d m).2) := by
  have hlt : id < S.length := (List.getElem?_eq_some_iff.1 h).1
  have w1 : IntKind.wrap .i64 ((m : Int) + 1) = (m : Int) + 1 := wrap64 (by omega) (by omega)
  have hf : S.set id (.cells [.int .i64 ((m : Int) + 1)]) = SetN S id (m + 1) := by simp [SetN]
  have ha : (SetN S id (m + 1))[id]? = some (.cells [.int .i64 ((m : Int) + 1)]) := SetN_at (m := m + 1) hlt
  rw [F_fn rfl rfl rfl Tryz.func58 rfl]
  unfold inS
  by_cases h1 : 20 ≤ d
  · have d1 : decide ((20 : Int) ≤ (d : Int)) = true := by simp; omega
    simp [runFn, Tryz.f58, d1, h1, SetN_same h]
  · have d1 : decide ((20 : Int) ≤ (d : Int)) = false := by simp; omega
    by_cases hb : 2000 < m + 1
    · have d2 : decide ((2000 : Int) < (m : Int) + 1) = true := by simp; omega
      simp [runFn, Tryz.f58, d1, h1, h, w1, hf, ha, d2, hb]
    · have d2 : decide ((2000 : Int) < (m : Int) + 1) = false := by simp; omega
      simp [runFn, Tryz.f58, d1, h1, h, w1, hf, ha, d2, hb]

end
end Go.Proofs.YtmcfnnpihlediaaGreatDoor.Ex

/- The document's own words: trimmed; numbers. -/
namespace Go.Proofs.YtmcfnnpihlediaaGreatDoor.Ex
open Go
attribute [-simp] rgn rgnD exec_seq exec_cond exec_block

theorem trimR_snoc (m : Str) (c : UInt8) : trimR (m ++ [c]) = if isBl c then trimR m else m ++ [c] := by
  simp only [trimR, List.reverse_append, List.reverse_cons, List.reverse_nil, List.nil_append, List.singleton_append, List.dropWhile_cons]
  split <;> simp

set_option maxHeartbeats 4000000 in
theorem cp96 [XX] (n : Nat) (s : Str) (hs : s.length ≤ 2000000) (hn : s.length + 1 < n) : CP (F (n + 1)) 93 [.str s] (.str (trimB s)) := by
  refine F_cp (rs := [.str (trimB s)]) (S := []) rfl rfl ?_
  rw [F_fn rfl rfl rfl Tryz.func93 rfl]
  simp [runFn, Tryz.f93]
  have h91 : ∀ c : UInt8, callP (F n) (.f 91) [.int .u8 c.toNat] = some (.bool (isBl c)) := by
    intro c
    obtain ⟨m, rfl⟩ : ∃ m, n = m + 1 := ⟨n - 1, by omega⟩
    exact cp91 m c
  generalize hI : iter _ _ _ = r
  obtain ⟨x, pf', rfl, hx, p0⟩ := iter_gen (fun t : Str => t.length) (fun t pf => pf 0 = .str t ∧ t.dropWhile isBl = s.dropWhile isBl ∧ t.length ≤ s.length)
    (fun x pf => x = .ex 0 ∧ pf 0 = .str (s.dropWhile isBl))
    (fun t pf h => by
      obtain ⟨p0, hd, hl⟩ := h
      cases t with
      | nil =>
        right
        refine ⟨.ex 0, ?_⟩
        simp [p0]
        exact hd.symm
      | cons c r =>
        have hc := h91 c
        have hl1 : (1 : Int) ≤ (r.length : Int) + 1 := by omega
        have hlr : r.length ≤ s.length := by simp at hl; omega
        cases hb : isBl c with
        | true =>
          left
          rw [hb] at hc
          have hd2 : r.dropWhile isBl = s.dropWhile isBl := by rw [← hd]; simp [List.dropWhile_cons, hb]
          refine ⟨r, ?_⟩
          simp [p0, hc, hl1, hlr, hd2]
        | false =>
          right
          rw [hb] at hc
          have hd2 : c :: r = s.dropWhile isBl := by rw [← hd]; simp [List.dropWhile_cons, hb]
          refine ⟨.ex 0, ?_⟩
          rw [← hd2]
          simp [p0, hc, hl1, hlr]) n s _ r hI ⟨by simp, rfl, Nat.le_refl _⟩ (by omega)
  subst hx
  simp [p0]
  have hdl := dropWhile_len s
  have htb : trimB s = trimR (s.dropWhile isBl) := rfl
  rw [htb]
  generalize s.dropWhile isBl = s1 at *
  generalize hI : iter _ _ _ = r
  obtain ⟨x, pf', rfl, hx, p0⟩ := iter_gen (fun t : Str => t.length) (fun t pf => pf 0 = .str t ∧ trimR t = trimR s1 ∧ t.length ≤ s1.length)
    (fun x pf => x = .ex 2 ∧ pf 0 = .str (trimR s1))
    (fun t pf h => by
      obtain ⟨p0, hd, hl⟩ := h
      rcases List.eq_nil_or_concat t with rfl | ⟨m, c, rfl⟩
      · right
        refine ⟨.ex 2, ?_⟩
        simp [p0]
        exact hd.symm
      · rw [List.concat_eq_append] at *
        have hc := h91 c
        rw [trimR_snoc] at hd
        have hne : ((m ++ [c]) == []) = false := by simp
        have hlen : (m ++ [c]).length = m.length + 1 := by simp
        have hg : (m ++ [c])[m.length]? = some c := by simp
        have htk : (m ++ [c]).take m.length = m := by simp
        generalize m ++ [c] = t at *
        obtain ⟨q, hq⟩ : ∃ q : Int, (t.length : Int) - 1 = q := ⟨_, rfl⟩
        have wq : IntKind.wrap .i64 q = q := wrap64 (by omega) (by omega)
        have hqn : q.toNat = m.length := by omega
        have hq0 : (0 : Int) ≤ q := by omega
        have hq1 : q ≤ (t.length : Int) := by omega
        have hml : m.length ≤ s1.length := by omega
        have hmt : m.length < t.length := by omega
        have hg' : t[m.length]'hmt = c := (List.getElem?_eq_some_iff.1 hg).2
        cases hb : isBl c with
        | true =>
          left
          rw [hb] at hc
          rw [hb, if_pos rfl] at hd
          refine ⟨m, ?_⟩
          simp [p0, hne, hq, wq, hqn, hq0, hq1, hg, hg', hmt, hc, htk, hd, hml, hmt]
        | false =>
          right
          rw [hb] at hc
          rw [hb, if_neg (by simp)] at hd
          refine ⟨.ex 2, ?_⟩
          rw [← hd]
          simp [p0, hne, hq, wq, hqn, hq0, hq1, hg, hg', hmt, hc]) n s1 _ r hI ⟨by simp [p0], rfl, Nat.le_refl _⟩ (by omega)
  subst hx
  simp [p0]

theorem byte_le (c : UInt8) (k : Nat) (hk : k < 256) : decide ((k : Int) ≤ (c.toNat : Int)) = decide (UInt8.ofNat k ≤ c) := by
  have e : (UInt8.ofNat k).toNat = k := by simp [UInt8.toNat_ofNat']; omega
  have : (k : Int) ≤ (c.toNat : Int) ↔ UInt8.ofNat k ≤ c := by rw [UInt8.le_iff_toNat_le, e]; omega
  simp only [this]
theorem byte_ge (c : UInt8) (k : Nat) (hk : k < 256) : decide ((c.toNat : Int) ≤ (k : Int)) = decide (c ≤ UInt8.ofNat k) := by
  have e : (UInt8.ofNat k).toNat = k := by simp [UInt8.toNat_ofNat']; omega
  have : (c.toNat : Int) ≤ (k : Int) ↔ c ≤ UInt8.ofNat k := by rw [UInt8.le_iff_toNat_le, e]; omega
  simp only [this]

theorem cp137 [XX] (n : Nat) (c : UInt8) : CP (F (n + 1)) 211 [.int .u8 c.toNat] (.bool (isDig c)) := by
  refine F_cp (rs := [.bool (isDig c)]) (S := []) rfl rfl ?_
  rw [F_fn rfl rfl rfl Tryz.func211 rfl]
  have h1 := byte_le c 48 (by decide)
  have h2 := byte_ge c 57 (by decide)
  rw [show ((48 : Nat) : Int) = 48 from rfl, show UInt8.ofNat 48 = 48 from rfl] at h1
  rw [show ((57 : Nat) : Int) = 57 from rfl, show UInt8.ofNat 57 = 57 from rfl] at h2
  unfold isDig
  rw [← h1, ← h2]
  by_cases g1 : (48 : Int) ≤ (c.toNat : Int) <;> by_cases g2 : (c.toNat : Int) ≤ 57 <;> simp [runFn, Tryz.f211, g1, g2]

end Go.Proofs.YtmcfnnpihlediaaGreatDoor.Ex

/- The document's own numbers. -/
namespace Go.Proofs.YtmcfnnpihlediaaGreatDoor.Ex
open Go
attribute [-simp] rgn rgnD exec_seq exec_cond exec_block

theorem numP_false {s : Str} (h : ¬ (s.length ≤ 9 ∧ canon s = true)) : numP s = (0, false) := by
  simp [numP, num_canon, h]
theorem numP_true {s : Str} (h1 : s.length ≤ 9) (h2 : canon s = true) : numP s = (valGo 0 s, true) := by
  simp [numP, num_canon, h1, h2]

theorem all_take_succ (s : Str) (i : Nat) (h : i < s.length) : (s.take (i + 1)).all isDig = ((s.take i).all isDig && isDig s[i]) := by
  rw [List.take_succ_eq_append_getElem h]; simp only [List.all_append, List.all_cons, List.all_nil, Bool.and_true]
theorem val_take_succ (s : Str) (i : Nat) (h : i < s.length) : valGo 0 (s.take (i + 1)) = 10 * valGo 0 (s.take i) + (s[i].toNat - 48) := by
  rw [List.take_succ_eq_append_getElem h, valGo_app]

set_option maxHeartbeats 4000000 in
theorem cp95 [XX] (n : Nat) (s : Str) (hn : 20 < n) : CP (F (n + 1)) 186 [.str s] (.tup [.int .i64 (numP s).1, .bool (numP s).2]) := by
  refine F_cp (rs := [.int .i64 (numP s).1, .bool (numP s).2]) (S := []) rfl rfl ?_
  rw [F_fn rfl rfl rfl Tryz.func186 rfl]
  by_cases h0 : s = []
  · subst h0
    rw [numP_false (by simp [canon])]
    simp [runFn, Tryz.f186]
  have hpos : 0 < s.length := List.length_pos_iff.2 h0
  have d1 : decide ((s.length : Int) < 1) = false := by simp; omega
  have d1' : ¬ (s.length : Int) < 1 := by omega
  by_cases h9 : 9 < s.length
  · rw [numP_false (by omega)]
    have d2 : decide ((9 : Int) < (s.length : Int)) = true := by simpa using (by omega : (9 : Int) < (s.length : Int))
    simp [runFn, Tryz.f186, d1', h0, d2]
  have d2 : decide ((9 : Int) < (s.length : Int)) = false := by simpa using (by omega : ¬ (9 : Int) < (s.length : Int))
  obtain ⟨c0, s', hs⟩ := List.exists_cons_of_ne_nil h0
  have hg0 : s[0]'hpos = c0 := by simp [hs]
  have hb0 := byte_eq c0 48 (by decide)
  rw [show ((48 : Nat) : Int) = 48 from rfl, show UInt8.ofNat 48 = 48 from rfl] at hb0
  by_cases hz : 1 < s.length ∧ c0 = 48
  · obtain ⟨hz1, hz2⟩ := hz
    rw [numP_false (by
      rintro ⟨_, hc⟩
      rw [hs, hz2] at hc
      have hl : s'.length ≠ 0 := by rw [hs] at hz1; simp at hz1; omega
      simp [canon, hl] at hc)]
    have d3 : decide ((1 : Int) < (s.length : Int)) = true := by simpa using (by omega : (1 : Int) < (s.length : Int))
    have hb1 : ((c0.toNat : Int) == 48) = true := by rw [hb0]; simp [hz2]
    simp [runFn, Tryz.f186, d1', h0, d2, d3, hpos, hg0, hb1]
  have hcan : canon s = s.all isDig := by
    cases hd : s.all isDig with
    | false => simp only [canon, hd, Bool.and_false, Bool.false_and]
    | true =>
      have : (s.length == 1 || s.head? != some 48) = true := by
        by_cases h1 : 1 < s.length
        · have : c0 ≠ 48 := fun e => hz ⟨h1, e⟩
          simp [hs, this]
        · have : s.length = 1 := by omega
          simp [this]
      simp only [canon, hd, this, Bool.and_true]
      simpa using h0
  have hend : numP s = if s.all isDig = true then (valGo 0 s, true) else (0, false) := by
    split
    · rename_i h; exact numP_true (by omega) (by rw [hcan]; exact h)
    · rename_i h; exact numP_false (by rw [hcan]; exact fun e => h e.2)
  have h137 : ∀ c : UInt8, callP (F n) (.f 211) [.int .u8 c.toNat] = some (.bool (isDig c)) := by
    intro c
    obtain ⟨m, rfl⟩ : ∃ m, n = m + 1 := ⟨n - 1, by omega⟩
    exact cp137 m c
  have hd3 : decide ((1 : Int) < (s.length : Int)) = false ∨ ((1 : Int) < (s.length : Int) ∧ ((c0.toNat : Int) == 48) = false) := by
    by_cases h1 : 1 < s.length
    · right
      refine ⟨by omega, ?_⟩
      rw [hb0]; simpa using fun e => hz ⟨h1, e⟩
    · left; simpa using (by omega : ¬ (1 : Int) < (s.length : Int))
  rcases hd3 with d3 | ⟨d3, hb1⟩
  · simp [runFn, Tryz.f186, d1', h0, d2, d3]
    generalize hI : iter _ _ _ = r
    obtain ⟨x, pf', rfl, hx⟩ := iter_gen (fun i : Nat => s.length - i) (fun i pf => pf 0 = .str s ∧ pf 4 = .int .i64 (valGo 0 (s.take i)) ∧ pf 5 = .int .i64 i ∧ i ≤ s.length ∧ (s.take i).all isDig = true)
      (fun x pf => (x = .ret ∧ s.all isDig = false ∧ pf 2 = .int .i64 0 ∧ pf 3 = .bool false) ∨ (x = .ex 0 ∧ s.all isDig = true ∧ pf 4 = .int .i64 (valGo 0 s)))
      (fun i pf h => by
        obtain ⟨p0, p4, p5, hi, ha⟩ := h
        by_cases hlt : i < s.length
        · have h1 := all_take_succ s i hlt
          have h2 := val_take_succ s i hlt
          have hdc := h137 s[i]
          have hv := valGo_lt (s.take i) 0 ha
          have hpw : 10 ^ (s.take i).length ≤ 10 ^ 9 := Nat.pow_le_pow_right (by decide) (by rw [List.length_take]; omega)
          have hv9 : valGo 0 (s.take i) < 1000000000 := by
            have : (10 : Nat) ^ 9 = 1000000000 := by decide
            omega
          cases hdg : isDig s[i] with
          | false =>
            right
            have hall : s.all isDig = false := by
              cases hb : s.all isDig with
              | false => rfl
              | true =>
                have := List.all_eq_true.1 hb s[i] (List.getElem_mem hlt)
                rw [hdg] at this; cases this
            rw [hdg] at hdc
            refine ⟨.ret, ?_⟩
            simp [p0, p4, p5, hlt, hdc, hall]
          | true =>
            left
            rw [hdg] at hdc
            rw [ha, hdg] at h1
            obtain ⟨b1, b2⟩ := isDig_toNat hdg
            obtain ⟨V, hV⟩ : ∃ V, valGo 0 (s.take i) = V := ⟨_, rfl⟩
            rw [hV] at p4 hv9 h2
            have hwi := w64 (i := i) (by omega)
            have m1 : IntKind.wrap .i64 (10 * (V : Int)) = 10 * (V : Int) := wrap64 (by omega) (by omega)
            obtain ⟨A, hA⟩ : ∃ A : Int, 10 * (V : Int) = A := ⟨_, rfl⟩
            obtain ⟨B, hB⟩ : ∃ B : Int, (s[i].toNat : Int) - 48 = B := ⟨_, rfl⟩
            rw [hA] at m1
            have m2 : IntKind.wrap .u8 B = B := by simp [IntKind.wrap, IntKind.bits, IntKind.signed]; omega
            have m3 : IntKind.wrap .i64 B = B := wrap64 (by omega) (by omega)
            have m4 : IntKind.wrap .i64 (A + B) = ((valGo 0 (s.take (i + 1)) : Nat) : Int) := by rw [wrap64 (by omega) (by omega), h2]; omega
            have hmeas : s.length - (i + 1) < s.length - i := by omega
            have hi1 : i + 1 ≤ s.length := hlt
            refine ⟨i + 1, ?_⟩
            simp only [Bool.and_true] at h1
            generalize valGo 0 (s.take (i + 1)) = V2 at *
            generalize (s.take (i + 1)).all isDig = b2 at *
            simp [p0, p4, p5, hlt, hdc, hwi, hA, hB, m1, m2, m3, m4, hmeas, hi1, h1]
        · right
          have hie : i = s.length := by omega
          subst hie
          rw [List.take_length] at p4 ha
          refine ⟨.ex 0, ?_⟩
          simp [p0, p4, p5, ha]) n 0 _ r hI ⟨by simp, rfl, by simp, by omega, by simp⟩ (by omega)
    rw [hend]
    rcases hx with ⟨rfl, ha, p2, p3⟩ | ⟨rfl, ha, p4⟩
    · simp [p2, p3, ha]
    · simp [p4, ha]
  · have d3' : decide ((1 : Int) < (s.length : Int)) = true := by simpa using d3
    simp [runFn, Tryz.f186, d1', h0, d2, d3', hpos, hg0, hb1]
    generalize hI : iter _ _ _ = r
    obtain ⟨x, pf', rfl, hx⟩ := iter_gen (fun i : Nat => s.length - i) (fun i pf => pf 0 = .str s ∧ pf 4 = .int .i64 (valGo 0 (s.take i)) ∧ pf 5 = .int .i64 i ∧ i ≤ s.length ∧ (s.take i).all isDig = true)
      (fun x pf => (x = .ret ∧ s.all isDig = false ∧ pf 2 = .int .i64 0 ∧ pf 3 = .bool false) ∨ (x = .ex 0 ∧ s.all isDig = true ∧ pf 4 = .int .i64 (valGo 0 s)))
      (fun i pf h => by
        obtain ⟨p0, p4, p5, hi, ha⟩ := h
        by_cases hlt : i < s.length
        · have h1 := all_take_succ s i hlt
          have h2 := val_take_succ s i hlt
          have hdc := h137 s[i]
          have hv := valGo_lt (s.take i) 0 ha
          have hpw : 10 ^ (s.take i).length ≤ 10 ^ 9 := Nat.pow_le_pow_right (by decide) (by rw [List.length_take]; omega)
          have hv9 : valGo 0 (s.take i) < 1000000000 := by
            have : (10 : Nat) ^ 9 = 1000000000 := by decide
            omega
          cases hdg : isDig s[i] with
          | false =>
            right
            have hall : s.all isDig = false := by
              cases hb : s.all isDig with
              | false => rfl
              | true =>
                have := List.all_eq_true.1 hb s[i] (List.getElem_mem hlt)
                rw [hdg] at this; cases this
            rw [hdg] at hdc
            refine ⟨.ret, ?_⟩
            simp [p0, p4, p5, hlt, hdc, hall]
          | true =>
            left
            rw [hdg] at hdc
            rw [ha, hdg] at h1
            obtain ⟨b1, b2⟩ := isDig_toNat hdg
            obtain ⟨V, hV⟩ : ∃ V, valGo 0 (s.take i) = V := ⟨_, rfl⟩
            rw [hV] at p4 hv9 h2
            have hwi := w64 (i := i) (by omega)
            have m1 : IntKind.wrap .i64 (10 * (V : Int)) = 10 * (V : Int) := wrap64 (by omega) (by omega)
            obtain ⟨A, hA⟩ : ∃ A : Int, 10 * (V : Int) = A := ⟨_, rfl⟩
            obtain ⟨B, hB⟩ : ∃ B : Int, (s[i].toNat : Int) - 48 = B := ⟨_, rfl⟩
            rw [hA] at m1
            have m2 : IntKind.wrap .u8 B = B := by simp [IntKind.wrap, IntKind.bits, IntKind.signed]; omega
            have m3 : IntKind.wrap .i64 B = B := wrap64 (by omega) (by omega)
            have m4 : IntKind.wrap .i64 (A + B) = ((valGo 0 (s.take (i + 1)) : Nat) : Int) := by rw [wrap64 (by omega) (by omega), h2]; omega
            have hmeas : s.length - (i + 1) < s.length - i := by omega
            have hi1 : i + 1 ≤ s.length := hlt
            refine ⟨i + 1, ?_⟩
            simp only [Bool.and_true] at h1
            generalize valGo 0 (s.take (i + 1)) = V2 at *
            generalize (s.take (i + 1)).all isDig = b2 at *
            simp [p0, p4, p5, hlt, hdc, hwi, hA, hB, m1, m2, m3, m4, hmeas, hi1, h1]
        · right
          have hie : i = s.length := by omega
          subst hie
          rw [List.take_length] at p4 ha
          refine ⟨.ex 0, ?_⟩
          simp [p0, p4, p5, ha]) n 0 _ r hI ⟨by simp, rfl, by simp, by omega, by simp⟩ (by omega)
    rw [hend]
    rcases hx with ⟨rfl, ha, p2, p3⟩ | ⟨rfl, ha, p4⟩
    · simp [p2, p3, ha]
    · simp [p4, ha]

theorem cp58 [XX] (n : Nat) (s : Str) (least : Int) (hs : s.length ≤ 2000000) (hn : s.length + 30 < n) : CP (F (n + 1)) 160 [.str s, .int .i64 least] (.tup [.int .i64 (numberL s least).1, .bool (numberL s least).2]) := by
  refine F_cp (rs := [.int .i64 (numberL s least).1, .bool (numberL s least).2]) (S := []) rfl rfl ?_
  rw [F_fn rfl rfl rfl Tryz.func160 rfl]
  obtain ⟨m, rfl⟩ : ∃ m, n = m + 1 := ⟨n - 1, by omega⟩
  have h1 := cp96 m s hs (by omega)
  have h2 := cp95 m (trimB s) (by omega)
  simp only [CP] at h1 h2
  unfold numberL
  generalize numP (trimB s) = p at *
  obtain ⟨k, b⟩ := p
  generalize trimB s = t at *
  simp only at h2 ⊢
  generalize m + 1 = n at *
  cases b with
  | false => simp [runFn, Tryz.f160, h1, h2]
  | true =>
    by_cases hk : least ≤ (k : Int)
    · simp [runFn, Tryz.f160, h1, h2, hk]
    · simp [runFn, Tryz.f160, h1, h2, hk]

set_option maxHeartbeats 1000000 in
theorem cp60 [XX] (n k : Nat) (hk : k < 1000000000) (hn : k + 1 < n) : CP (F (n + 1)) 162 [.int .i64 k] (.str (decL k)) := by
  refine F_cp (rs := [.str (decL k)]) (S := []) rfl rfl ?_
  rw [F_fn rfl rfl rfl Tryz.func162 rfl]
  simp [runFn, Tryz.f162]
  generalize hI : iter _ _ _ = r
  obtain ⟨x, pf', rfl, h⟩ := iter_gen (fun x : Nat × Str => if x.1 = 0 ∧ x.2 ≠ [] then 0 else x.1 + 1) (fun x pf => pf 0 = .int .i64 x.1 ∧ pf 3 = .str x.2 ∧ decI k x ∧ x.1 ≤ k)
    (fun x pf => x = .ex 0 ∧ pf 3 = .str (decL k))
    (fun x pf h => by
      obtain ⟨m, s⟩ := x
      obtain ⟨h0, h3, hd, hmk⟩ := h
      simp only at h0 h3 hmk
      have hsl := decI_len hd hk
      have hd10 : m % 10 < 10 := Nat.mod_lt _ (by decide)
      have e1 := tmod10 m
      have e2 := tdiv10 m
      have e3 := w64 (i := m % 10) (by omega)
      have e4 : IntKind.wrap .i64 ((m / 10 : Nat) : Int) = ((m / 10 : Nat) : Int) := wrap64 (by omega) (by omega)
      have e5 := dig_slice' (m % 10) hd10
      have e6 : ((m % 10 + 1 : Nat) : Int) ≤ 10 := by omega
      have e7 : ((m % 10 : Nat) : Int) ≤ ((m % 10 + 1 : Nat) : Int) := by omega
      have e8 : (0 : Int) ≤ ((m % 10 + 1 : Nat) : Int) := by omega
      have e9 : (0 : Int) ≤ ((m % 10 : Nat) : Int) := by omega
      have e10 : min 1 (10 - m % 10) + s.length ≤ 9223372036854775807 := by omega
      have e13 : 1 + s.length ≤ 9223372036854775807 := by omega
      have e12 : min 1 (10 - m % 10) ≤ 9223372036854775807 := by omega
      generalize hq : ((m % 10 + 1 : Nat) : Int) = q at *
      generalize hp : ((m % 10 : Nat) : Int) = p at *
      generalize hv : ((m / 10 : Nat) : Int) = v at *
      have hqn : q.toNat = m % 10 + 1 := by omega
      have hpn : p.toNat = m % 10 := by omega
      have e11 : p ≤ (m : Int) % 10 + 1 := by omega
      have hlt : (if m / 10 = 0 ∧ digB (m % 10) :: s ≠ [] then 0 else m / 10 + 1) < (if m = 0 ∧ s ≠ [] then 0 else m + 1) ∨ (m = 0 ∧ s ≠ []) := by
        by_cases h1 : m = 0 ∧ s ≠ []
        · exact .inr h1
        · left
          rw [if_neg h1]
          split
          · omega
          · rename_i h2
            have : m / 10 ≠ 0 := fun e => h2 ⟨e, by simp⟩
            omega
      by_cases hgo : m = 0 ∧ s ≠ []
      · right
        obtain ⟨hm, hs⟩ := hgo
        have hs' : decide ((0 : Int) < (m : Int)) = false := by simp; omega
        have hs2 : (s == []) = false := by simpa using hs
        have hfin : s = decL k := by
          rcases hd with ⟨g1, _⟩ | ⟨_, _, g3⟩ | ⟨_, g2, _⟩
          · exact absurd g1 hs
          · exact g3
          · exact absurd hm g2
        refine ⟨.ex 0, ?_⟩
        simp [h0, h3, hs', hs2, hm, hs, ← hfin]
      · left
        have hmeas := hlt.resolve_right hgo
        have hst := decI_step hd (by by_cases e : m = 0; exact .inr (Classical.byContradiction fun e2 => hgo ⟨e, e2⟩); exact .inl e)
        refine ⟨(m / 10, digB (m % 10) :: s), ?_⟩
        have hle : m / 10 ≤ k := by omega
        by_cases hm : m = 0
        · have hs : s = [] := Classical.byContradiction fun e2 => hgo ⟨hm, e2⟩
          have hs' : ¬ 0 < m := by omega
          subst hs
          simp only [List.cons_ne_nil, ne_eq, not_false_eq_true, and_true] at hmeas
          simp [h0, h3, hs', e1, e2, e3, e4, e5, e6, e7, e8, e9, e11, e12, hqn, hpn, hst, hle, hmeas, hv]
          split <;> omega
        · have hs' : 0 < m := by omega
          simp [h0, h3, hs', e1, e2, e3, e4, e5, e6, e7, e8, e9, e11, e12, e13, hqn, hpn, e10, e5, hst, hle, hmeas, hv, hm]
          split <;> omega) n (k, []) _ r hI ⟨by simp, by simp, .inl ⟨rfl, rfl⟩, Nat.le_refl _⟩ (by simp; omega)
  obtain ⟨rfl, h3⟩ := h
  simp [h3]

def someG (a b : Nat) : Nat → List Str → List Str
  | _, [] => []
  | i, x :: r => if a ≤ i + 1 ∧ i + 1 ≤ b then x :: someG a b (i + 1) r else someG a b (i + 1) r
theorem someG_app (a b : Nat) : ∀ (l : List Str) (i : Nat) (x : Str), someG a b i (l ++ [x]) = someG a b i l ++ (if a ≤ i + l.length + 1 ∧ i + l.length + 1 ≤ b then [x] else [])
  | [], i, x => by simp [someG]
  | y :: l, i, x => by
    have ih := someG_app a b l (i + 1) x
    rw [show i + 1 + l.length + 1 = i + (y :: l).length + 1 by simp; omega] at ih
    rw [List.cons_append, someG, someG, ih]
    split <;> simp
theorem someG_behind (a b : Nat) : ∀ (l : List Str) (i : Nat), a ≤ i + 1 → someG a b i l = l.take (b - i)
  | [], i, _ => by simp [someG]
  | x :: r, i, h => by
    have ih := someG_behind a b r (i + 1) (by omega)
    rw [someG, ih]
    by_cases hb : i + 1 ≤ b
    · rw [if_pos ⟨h, hb⟩, show b - i = (b - (i + 1)) + 1 by omega, List.take_succ_cons]
    · rw [if_neg (by omega), show b - i = 0 by omega, show b - (i + 1) = 0 by omega]; simp
theorem someG_eq (a b : Nat) : ∀ (l : List Str) (i : Nat), i + 1 ≤ a → someG a b i l = (l.drop (a - 1 - i)).take (b - (a - 1))
  | [], i, _ => by simp [someG]
  | x :: r, i, h => by
    by_cases he : i + 1 = a
    · rw [someG_behind a b _ _ (by omega), show a - 1 - i = 0 by omega, show b - (a - 1) = b - i by omega]; rfl
    · have ih := someG_eq a b r (i + 1) (by omega)
      rw [someG, if_neg (by omega), ih, show a - 1 - i = (a - 1 - (i + 1)) + 1 by omega, List.drop_succ_cons]
theorem some_span (w : List Str) (a b : Nat) (ha : 1 ≤ a ∨ w = []) : joinL [32] (someG a b 0 w) = spanL w a b := by
  by_cases hw : w = []
  · subst hw; simp [someG, spanL, joinL]
  have ha : 1 ≤ a := ha.resolve_right hw
  rw [someG_eq a b w 0 (by omega), Nat.sub_zero]
  have e1 : ((a : Int) - 1).toNat = a - 1 := by omega
  simp only [spanL, e1]
  by_cases hb : w.length < b
  · have hb' : (w.length : Int) < (b : Int) := by omega
    simp only [hb', if_true]
    by_cases hc : w.length < a
    · rw [if_pos (by omega), List.drop_of_length_le (by omega)]; simp [joinL]
    · rw [if_neg (by omega), List.take_of_length_le (by simp; omega), List.take_of_length_le (by simp)]
  · have hb' : ¬ (w.length : Int) < (b : Int) := by omega
    simp only [hb', if_false]
    by_cases hc : b < a
    · rw [if_pos (by omega), show b - (a - 1) = 0 by omega]; simp [joinL]
    · rw [if_neg (by omega)]
      have e2 : (b : Int).toNat = b := by omega
      rw [e2]
theorem someG_len (a b : Nat) : ∀ (l : List Str) (i : Nat), (someG a b i l).length ≤ l.length
  | [], i => by simp [someG]
  | x :: r, i => by
    have ih := someG_len a b r (i + 1)
    rw [someG]; split <;> simp <;> omega

set_option maxHeartbeats 4000000 in
theorem cp59 [XX] (n : Nat) (a b : Nat) (t : Str) (ht : t.length ≤ 2000000) (hn : t.length + 30 < n) : CP (F (n + 1)) 161 [.int .i64 a, .int .i64 b, .str t] (.sl 1 ((someG a b 0 (wordsL t)).map .str)) := by
  refine F_cp (rs := [.sl 1 ((someG a b 0 (wordsL t)).map .str)]) (S := []) rfl (by simp [noBoxL, noBox]) ?_
  rw [F_fn rfl rfl rfl Tryz.func161 rfl]
  have h53 : callP (F n) (.f 59) [.str t] = some (.sl 1 ((wordsL t).map .str)) := by
    obtain ⟨m, rfl⟩ : ∃ m, n = m + 1 := ⟨n - 1, by omega⟩
    exact cp53 m t ht (by omega)
  have hwl := wordsL_len t
  generalize wordsL t = w at *
  simp [runFn, Tryz.f161, h53]
  generalize hI : iter _ _ _ = r
  obtain ⟨pf', rfl, h⟩ := iter_count 0 (fun i pf => pf 0 = .int .i64 a ∧ pf 1 = .int .i64 b ∧ pf 7 = .sl 1 (w.map .str) ∧ pf 8 = .sl 1 ((someG a b 0 (w.take i)).map .str) ∧ pf 9 = .int .i64 i) w.length
    (fun i pf hi h => by
      obtain ⟨p0, p1, p7, p8, p9⟩ := h
      have hw := w64 (i := i) (by omega)
      have hst := someG_app a b (w.take i) 0 w[i]
      rw [← List.take_succ_eq_append_getElem hi] at hst
      have hlt : 0 + (w.take i).length + 1 = i + 1 := by rw [List.length_take]; omega
      rw [hlt] at hst
      rw [hst]
      have hgl := someG_len a b (w.take i) 0
      rw [List.length_take] at hgl
      generalize someG a b 0 (w.take i) = o at *
      have hb : (o.length + 1) * 16 ≤ 140737488355328 := by omega
      by_cases h1 : a ≤ i + 1
      · have h1' : (a : Int) ≤ (i : Int) + 1 := by omega
        by_cases h2 : i + 1 ≤ b
        · have h2' : (i : Int) + 1 ≤ (b : Int) := by omega
          simp [p0, p1, p7, p8, p9, hi, hw, h1', h2', h1, h2, hb]
        · have h2' : ¬ (i : Int) + 1 ≤ (b : Int) := by omega
          simp [p0, p1, p7, p8, p9, hi, hw, h1', h2', h1, h2, hb]
      · have h1' : ¬ (a : Int) ≤ (i : Int) + 1 := by omega
        simp [p0, p1, p7, p8, p9, hi, hw, h1', h1, hb])
    (fun pf h => by
      obtain ⟨p0, p1, p7, p8, p9⟩ := h
      simp [p0, p1, p7, p8, p9]) w.length 0 n _ r (by omega) hI (by simp [someG]) (by omega)
  obtain ⟨p0, p1, p7, p8, p9⟩ := h
  rw [List.take_length] at p8
  simp [p8]

end Go.Proofs.YtmcfnnpihlediaaGreatDoor.Ex

/- The document's own parts, sorted words, joined words. -/
namespace Go.Proofs.YtmcfnnpihlediaaGreatDoor.Ex
open Go
attribute [-simp] rgn rgnD exec_seq exec_cond exec_block

theorem rep_le (a b t : Str) (ha : a ≠ []) (hb : b.length ≤ 5000) (ht : t.length ≤ 5000) : (repL a b t).length ≤ 30000000 := by
  have h := rep_len a b ha t.length t (Nat.le_refl _)
  have h1 := cnt_le a ha t.length t (Nat.le_refl _)
  have h2 : cntS a t * b.length ≤ 5000 * 5000 := Nat.mul_le_mul (by omega) (by omega)
  omega
theorem isPre_long {a t : Str} (h : t.length < a.length) : isPre a t = false := by
  cases hp : isPre a t with
  | false => rfl
  | true => have := ((isPre_iff a t).1 hp).2; omega

set_option maxHeartbeats 4000000 in
theorem cp54 [XX] (n : Nat) (a b t : Str) (ha1 : a.length ≤ 5000) (hb : b.length ≤ 5000) (ht : t.length ≤ 5000) (hn : 10000 < n) :
    CP (F (n + 1)) 156 [.str a, .str b, .str t] (.str (if a = [] then t else repL a b t)) := by
  refine F_cp (rs := [.str (if a = [] then t else repL a b t)]) (S := []) rfl rfl ?_
  rw [F_fn rfl rfl rfl Tryz.func156 rfl]
  by_cases ha : a = []
  · subst ha
    simp [runFn, Tryz.f156]
  rw [if_neg ha]
  have ha' : (a == []) = false := by simpa using ha
  have hap : 0 < a.length := List.length_pos_iff.2 ha
  have hL := rep_le a b t ha hb ht
  simp [runFn, Tryz.f156, ha']
  generalize hI : iter _ _ _ = r
  obtain ⟨x, pf', rfl, hx, p7⟩ := iter_gen (fun x : Nat × Str => t.length - x.1) (fun x pf => pf 0 = .str a ∧ pf 1 = .str b ∧ pf 2 = .str t ∧ pf 7 = .str x.2 ∧ pf 8 = .int .i64 x.1 ∧ x.1 ≤ t.length ∧ x.2 ++ repL a b (t.drop x.1) = repL a b t)
    (fun x pf => x = .ex 0 ∧ pf 7 = .str (repL a b t))
    (fun x pf h => by
      obtain ⟨i, o⟩ := x
      obtain ⟨p0, p1, p2, p7, p8, hi, hinv⟩ := h
      simp only at p7 p8 hi hinv
      by_cases hlt : i < t.length
      · left
        have hne : t.drop i ≠ [] := by
          intro e
          have := congrArg List.length e
          simp at this; omega
        obtain ⟨c, r', hcr⟩ := List.exists_cons_of_ne_nil hne
        have hr' : r' = t.drop (i + 1) := by
          have := congrArg (List.drop 1) hcr
          rw [List.drop_drop] at this
          simpa using this.symm
        have hol : o.length ≤ 30000000 := by have := congrArg List.length hinv; simp at this; omega
        have hob : o.length + b.length ≤ 9223372036854775807 := by omega
        have ho1 : o.length + 1 ≤ 9223372036854775807 := by omega
        have homin : o.length + min 1 (t.length - i) ≤ 9223372036854775807 := by omega
        obtain ⟨q, hq⟩ : ∃ q : Int, (i : Int) + (a.length : Int) = q := ⟨_, rfl⟩
        have wq : IntKind.wrap .i64 q = q := wrap64 (by omega) (by omega)
        have hqn : q.toNat = i + a.length := by omega
        have hq0 : (0 : Int) ≤ q := by omega
        have hqi : (i : Int) ≤ q := by omega
        obtain ⟨q', hq'⟩ : ∃ q' : Int, (i : Int) + 1 = q' := ⟨_, rfl⟩
        have wq' : IntKind.wrap .i64 q' = q' := wrap64 (by omega) (by omega)
        have hqn' : q'.toNat = i + 1 := by omega
        have hq1' : q' ≤ (t.length : Int) := by omega
        have hq0' : (0 : Int) ≤ q' := by omega
        have hqi' : (i : Int) ≤ q' := by omega
        have htk1 : (t.drop i).take 1 = [c] := by rw [hcr]; rfl
        cases hp : isPre a (t.drop i) with
        | true =>
          have hle : i + a.length ≤ t.length := by
            have := ((isPre_iff a _).1 hp).2
            rw [List.length_drop] at this; omega
          have hq1 : q ≤ (t.length : Int) := by omega
          have hst := repL_pre a b ha _ hp
          rw [List.drop_drop] at hst
          have htp := take_pre a (t.drop i)
          rw [hp] at htp
          have hmeas : t.length - (i + a.length) < t.length - i := by omega
          have hinv2 : o ++ (b ++ repL a b (t.drop (i + a.length))) = repL a b t := by rw [← hst]; exact hinv
          refine ⟨(i + a.length, o ++ b), ?_⟩
          simp [p0, p1, p2, p7, p8, hlt, hq, wq, hqn, hq1, hq0, hqi, htp, hob, hmeas, hinv2, hle]
        | false =>
          have hst := repL_skip a b ha c r' (by rw [← hcr]; exact hp)
          rw [← hcr, hr'] at hst
          have hmeas : t.length - (i + 1) < t.length - i := by omega
          have hi1 : i + 1 ≤ t.length := hlt
          have hinv2 : o ++ c :: repL a b (t.drop (i + 1)) = repL a b t := by rw [← hst]; exact hinv
          have htp := take_pre a (t.drop i)
          rw [hp] at htp
          refine ⟨(i + 1, o ++ [c]), ?_⟩
          by_cases hle : i + a.length ≤ t.length
          · have hq1 : q ≤ (t.length : Int) := by omega
            simp [p0, p1, p2, p7, p8, hlt, hq, wq, hqn, hq1, hq0, hqi, htp, hmeas, hinv2, hi1, hq', wq', hqn', hq1', hq0', hqi', htk1, ho1, homin]
          · have hq1 : ¬ q ≤ (t.length : Int) := by omega
            simp [p0, p1, p2, p7, p8, hlt, hq, wq, hqn, hq1, hq0, hqi, htp, hmeas, hinv2, hi1, hq', wq', hqn', hq1', hq0', hqi', htk1, ho1, homin]
      · right
        have hz : t.drop i = [] := List.drop_of_length_le (by omega)
        rw [hz, repL_nil, List.append_nil] at hinv
        have hnl : t.length ≤ i := by omega
        refine ⟨.ex 0, ?_⟩
        simp [p0, p1, p2, p7, p8, hlt, hnl, hinv]) n (0, []) _ r hI ⟨by simp, by simp, by simp, by simp, by simp, by simp, by simp⟩ (by simp; omega)
  subst hx
  simp [p7]

theorem hasSub_pre (a t : Str) (h : isPre a t = true) : hasSub a t = true := by
  cases t with
  | nil => have := ((isPre_iff a []).1 h).2; simp at this; simp [hasSub, this]
  | cons c r => simp [hasSub, h]

set_option maxHeartbeats 4000000 in
theorem cp56 [XX] (n : Nat) (a t : Str) (ha1 : a.length ≤ 1000000) (ht : t.length ≤ 1000000) (hn : t.length + 2 < n) : CP (F (n + 1)) 158 [.str a, .str t] (.bool (hasSub a t)) := by
  refine F_cp (rs := [.bool (hasSub a t)]) (S := []) rfl rfl ?_
  rw [F_fn rfl rfl rfl Tryz.func158 rfl]
  simp [runFn, Tryz.f158]
  generalize hI : iter _ _ _ = r
  obtain ⟨x, pf', rfl, hx⟩ := iter_gen (fun i : Nat => t.length + 1 - i) (fun i pf => pf 0 = .str a ∧ pf 1 = .str t ∧ pf 5 = .int .i64 i ∧ i ≤ t.length + 1 ∧ hasSub a (t.drop i) = hasSub a t ∧ (i ≤ t.length ∨ a ≠ []))
    (fun x pf => (x = .ret ∧ pf 4 = .bool true ∧ hasSub a t = true) ∨ (x = .ex 0 ∧ hasSub a t = false))
    (fun i pf h => by
      obtain ⟨p0, p1, p5, hi, hinv, hor⟩ := h
      obtain ⟨q, hq⟩ : ∃ q : Int, (i : Int) + (a.length : Int) = q := ⟨_, rfl⟩
      have wq : IntKind.wrap .i64 q = q := wrap64 (by omega) (by omega)
      have hqn : q.toNat = i + a.length := by omega
      have hq0 : (0 : Int) ≤ q := by omega
      have hqi : (i : Int) ≤ q := by omega
      by_cases hle : i + a.length ≤ t.length
      · have hq1 : q ≤ (t.length : Int) := by omega
        have htp := take_pre a (t.drop i)
        cases hp : isPre a (t.drop i) with
        | true =>
          right
          rw [hp] at htp
          have hs := hasSub_pre a _ hp
          rw [hinv] at hs
          refine ⟨.ret, ?_⟩
          simp [p0, p1, p5, hq, wq, hqn, hq1, hq0, hqi, htp, hs]
        | false =>
          left
          rw [hp] at htp
          have hane : a ≠ [] := by intro e; subst e; simp [isPre] at hp
          have hap : 0 < a.length := List.length_pos_iff.2 hane
          have hlt : i < t.length := by omega
          have hd : t.drop i = t[i] :: t.drop (i + 1) := List.drop_eq_getElem_cons hlt
          have hs : hasSub a (t.drop (i + 1)) = hasSub a t := by
            rw [← hinv, hd]
            rw [hd] at hp
            rw [hasSub, hp, Bool.false_or]
          have hw := w64 (i := i) (by omega)
          have hmeas : t.length - i < t.length + 1 - i := by omega
          have hi1 : i + 1 ≤ t.length + 1 := by omega
          have hi2 : i ≤ t.length := by omega
          have hi3 : i + 1 ≤ t.length := by omega
          refine ⟨i + 1, ?_⟩
          simp [p0, p1, p5, hq, wq, hqn, hq1, hq0, hqi, htp, hs, hw, hmeas, hi1, hi2, hi3]
      · right
        have hq1 : ¬ q ≤ (t.length : Int) := by omega
        have hz : hasSub a (t.drop i) = false := by
          apply hasSub_long
          rw [List.length_drop]
          rcases hor with h | h
          · omega
          · have := List.length_pos_iff.2 h; omega
        rw [hinv] at hz
        refine ⟨.ex 0, ?_⟩
        simp [p0, p1, p5, hq, wq, hqn, hq1, hz]) n 0 _ r hI ⟨by simp, by simp, by simp, by omega, by simp, .inl (by omega)⟩ (by omega)
  rcases hx with ⟨rfl, p4, hs⟩ | ⟨rfl, hs⟩
  · simp [p4, hs]
  · simp [hs]

/-! ### Sorted -/
def insS (x : Str) : List Str → List Str × Bool → List Str × Bool
  | [], s => s
  | y :: r, (nx, d) => insS x r (if (d || y == x) = true then (nx ++ [y], true) else if Op.bytesLess x y = true then (nx ++ [x, y], true) else (nx ++ [y], false))
theorem insS_app (x y : Str) : ∀ (l : List Str) (s : List Str × Bool), insS x (l ++ [y]) s = insS x [y] (insS x l s)
  | [], s => rfl
  | z :: l, (nx, d) => by
    exact insS_app x y l _
theorem insS_done (x : Str) : ∀ (l nx : List Str), insS x l (nx, true) = (nx ++ l, true)
  | [], nx => by simp [insS]
  | y :: r, nx => by simp [insS, insS_done x r]
theorem insS_go (x : Str) : ∀ (l nx : List Str), (if (insS x l (nx, false)).2 = true then (insS x l (nx, false)).1 else (insS x l (nx, false)).1 ++ [x]) = nx ++ insL' x l
  | [], nx => by simp [insS, insL']
  | y :: r, nx => by
    by_cases h1 : y = x
    · subst h1
      simp [insS, insS_done, insL']
    · have h1' : ¬ x = y := fun e => h1 e.symm
      have hb : (y == x) = false := by simpa using h1
      by_cases h2 : Op.bytesLess x y = true
      · simp [insS, insS_done, insL', hb, h1, h1', h2]
      · have ih := insS_go x r (nx ++ [y])
        simp only [insS, insL', Bool.false_or, hb, Bool.false_eq_true, if_false, h1', h2]
        rw [ih]; simp
theorem insS_len (x : Str) : ∀ (l : List Str) (s : List Str × Bool), (insS x l s).1.length ≤ s.1.length + 2 * l.length
  | [], s => by simp [insS]
  | y :: r, (nx, d) => by
    have h := insS_len x r (if (d || y == x) = true then (nx ++ [y], true) else if Op.bytesLess x y = true then (nx ++ [x, y], true) else (nx ++ [y], false))
    rw [insS]
    refine Nat.le_trans h ?_
    simp only [List.length_cons]
    split
    · simp; omega
    · split <;> simp <;> omega
theorem foldl_take (w : List Str) (i : Nat) (h : i < w.length) : (w.take (i + 1)).foldl (fun acc x => insL' x acc) [] = insL' w[i] ((w.take i).foldl (fun acc x => insL' x acc) []) := by
  rw [List.take_succ_eq_append_getElem h, List.foldl_append]; rfl
theorem insL_len' (x : Str) : ∀ l : List Str, (insL' x l).length ≤ l.length + 1
  | [] => by simp [insL']
  | y :: r => by
    have := insL_len' x r
    simp only [insL']; split
    · simp
    · split <;> simp <;> omega
theorem fold_len : ∀ (l acc : List Str), (l.foldl (fun acc x => insL' x acc) acc).length ≤ acc.length + l.length
  | [], acc => by simp
  | x :: l, acc => by
    have h1 := fold_len l (insL' x acc)
    have h2 := insL_len' x acc
    simp only [List.foldl_cons, List.length_cons]; omega

set_option maxHeartbeats 8000000 in
theorem cp57 [XX] (n : Nat) (w : List Str) (hw : w.length ≤ 1000000) (hn : w.length + 2 < n) : CP (F (n + 1)) 159 [.sl 1 (w.map .str)] (.sl 1 ((sortU w).map .str)) := by
  refine F_cp (rs := [.sl 1 ((sortU w).map .str)]) (S := []) (by simp [noBoxL, noBox]) (by simp [noBoxL, noBox]) ?_
  rw [F_fn rfl rfl rfl Tryz.func159 rfl]
  simp [runFn, Tryz.f159]
  generalize hI : iter _ _ _ = r
  obtain ⟨pf', rfl, h⟩ := iter_count 0 (fun i pf => pf 0 = .sl 1 (w.map .str) ∧ pf 3 = .sl 1 (((w.take i).foldl (fun acc x => insL' x acc) []).map .str) ∧ pf 4 = .int .i64 i) w.length
    (fun i pf hi h => by
      obtain ⟨p0, p3, p4⟩ := h
      have hwi := w64 (i := i) (by omega)
      rw [foldl_take w i hi]
      have hol := fold_len (w.take i) []
      rw [List.length_take] at hol
      generalize (w.take i).foldl (fun acc x => insL' x acc) [] = o at *
      have hol2 : o.length ≤ w.length := by simp at hol; omega
      simp [p0, p3, p4, hi]
      generalize hJ : iter _ _ _ = r2
      obtain ⟨pf2, rfl, hq⟩ := iter_count 2 (fun k pf => pf 0 = .sl 1 (w.map .str) ∧ pf 3 = .sl 1 (o.map .str) ∧ pf 4 = .int .i64 i ∧ pf 7 = .int .i64 k ∧ pf 5 = .sl 1 ((insS w[i] (o.take k) ([], false)).1.map .str) ∧ pf 6 = .bool (insS w[i] (o.take k) ([], false)).2) o.length
        (fun k pf hk h => by
          obtain ⟨q0, q3, q4, q7, q5, q6⟩ := h
          have hw2 := w64 (i := k) (by omega)
          have hst := insS_app w[i] o[k] (o.take k) ([], false)
          rw [← List.take_succ_eq_append_getElem hk] at hst
          rw [hst]
          have hil := insS_len w[i] (o.take k) ([], false)
          have htk : (o.take k).length = k := by rw [List.length_take]; omega
          rw [htk] at hil
          simp only [List.length_nil, Nat.zero_add] at hil
          generalize insS w[i] (o.take k) ([], false) = st at *
          obtain ⟨nx, d⟩ := st
          simp only at q5 q6 hil
          have hb1 : (nx.length + 1) * 16 ≤ 140737488355328 := by omega
          have hb2 : (nx.length + 1 + 1) * 16 ≤ 140737488355328 := by omega
          simp only [insS]
          cases d with
          | true => 
            cases he : (o[k] == w[i]) <;> simp [q0, q3, q4, q7, q5, q6, hk, hw2, hi, he, hb1]
          | false =>
            cases he : (o[k] == w[i]) with
            | true => simp [q0, q3, q4, q7, q5, q6, hk, hw2, hi, he, hb1]
            | false =>
              cases hl : Op.bytesLess w[i] o[k] with
              | true => simp [q0, q3, q4, q7, q5, q6, hk, hw2, hi, he, hb1, hb2, hl]
              | false => simp [q0, q3, q4, q7, q5, q6, hk, hw2, hi, he, hb1, hb2, hl])
        (fun pf h => by
          obtain ⟨q0, q3, q4, q7, q5, q6⟩ := h
          simp [q0, q3, q4, q7, q5, q6]) o.length 0 n _ r2 (by omega) hJ (by simp [p0, p3, p4, insS]) (by omega)
      obtain ⟨q0, q3, q4, q7, q5, q6⟩ := hq
      rw [List.take_length] at q5 q6
      have hgo := insS_go w[i] o []
      have hil := insS_len w[i] o ([], false)
      simp only [List.length_nil, Nat.zero_add] at hil
      rw [List.nil_append] at hgo
      rw [← hgo]
      generalize insS w[i] o ([], false) = st at *
      obtain ⟨nx, d⟩ := st
      simp only at q5 q6 hil ⊢
      have hb1 : (nx.length + 1) * 16 ≤ 140737488355328 := by omega
      cases d with
      | true => simp [q0, q3, q4, q7, q5, q6, hwi]
      | false => simp [q0, q3, q4, q7, q5, q6, hwi, hi, hb1])
    (fun pf h => by
      obtain ⟨p0, p3, p4⟩ := h
      simp [p0, p3, p4]) w.length 0 n _ r (by omega) hI (by simp) (by omega)
  obtain ⟨p0, p3, p4⟩ := h
  rw [List.take_length] at p3
  simp [p3, sortU]

/-! ### Joined -/
theorem zip_lenM : ∀ a b : List Str, (zipAdd a b).length = max a.length b.length
  | [], [] => by simp [zipAdd]
  | x :: a, [] => by simp [zipAdd]
  | [], y :: b => by simp [zipAdd]
  | x :: a, y :: b => by simp only [zipAdd, List.length_cons, zip_lenM a b]; omega
theorem zip_getM : ∀ (a b : List Str) (i : Nat) (h : i < (zipAdd a b).length), (zipAdd a b)[i] = (a[i]?.getD []) ++ (b[i]?.getD [])
  | [], [], i, h => by simp [zipAdd] at h
  | x :: a, [], i, h => by simp only [zipAdd] at h ⊢; simp [List.getElem?_eq_getElem h]
  | [], y :: b, i, h => by simp only [zipAdd] at h ⊢; simp [List.getElem?_eq_getElem h]
  | x :: a, y :: b, 0, h => by simp [zipAdd]
  | x :: a, y :: b, i + 1, h => by
    have := zip_getM a b i (by simp only [zipAdd, List.length_cons] at h; omega)
    simpa [zipAdd] using this

set_option maxHeartbeats 8000000 in
theorem cp61 [XX] (n : Nat) (s t : Str) (hs : s.length ≤ 2000000) (ht : t.length ≤ 2000000) (hn : s.length + t.length + 30 < n) : CP (F (n + 1)) 163 [.str s, .str t] (.sl 1 ((zipAdd (wordsL s) (wordsL t)).map .str)) := by
  refine F_cp (rs := [.sl 1 ((zipAdd (wordsL s) (wordsL t)).map .str)]) (S := []) rfl (by simp [noBoxL, noBox]) ?_
  rw [F_fn rfl rfl rfl Tryz.func163 rfl]
  obtain ⟨m, rfl⟩ : ∃ m, n = m + 1 := ⟨n - 1, by omega⟩
  have h1 := cp53 m s hs (by omega)
  have h2 := cp53 m t ht (by omega)
  simp only [CP] at h1 h2
  generalize m + 1 = n at *
  have l1 := wordsL_len s
  have l2 := wordsL_len t
  have m1 := wordsL_mem s
  have m2 := wordsL_mem t
  generalize wordsL s = a at *
  generalize wordsL t = b at *
  have hzl := zip_lenM a b
  have hzg := zip_getM a b
  simp [runFn, Tryz.f163, h1, h2]
  generalize zipAdd a b = z at *
  generalize hI : iter _ _ _ = r
  obtain ⟨pf', rfl, h⟩ := iter_count 0 (fun i pf => pf 5 = .sl 1 (a.map .str) ∧ pf 6 = .sl 1 (b.map .str) ∧ pf 7 = .sl 1 ((z.take i).map .str) ∧ pf 8 = .int .i64 i) z.length
    (fun i pf hi h => by
      obtain ⟨p5, p6, p7, p8⟩ := h
      have hw := w64 (i := i) (by omega)
      have hst := List.take_succ_eq_append_getElem hi
      have hg := hzg i hi
      rw [hst, hg]
      have htl : (z.take i).length ≤ i := by rw [List.length_take]; omega
      generalize z.take i = o at *
      have hb1 : (o.length + 1) * 16 ≤ 140737488355328 := by omega
      by_cases ha : i < a.length
      · have ga : a[i]? = some a[i] := List.getElem?_eq_getElem ha
        have la := m1 a[i] (List.getElem_mem ha)
        by_cases hb : i < b.length
        · have gb : b[i]? = some b[i] := List.getElem?_eq_getElem hb
          have lb := m2 b[i] (List.getElem_mem hb)
          have hsum : a[i].length + b[i].length ≤ 9223372036854775807 := by omega
          simp [p5, p6, p7, p8, hw, ha, hb, hb1, hsum, ga, gb]
        · have gb : b[i]? = none := List.getElem?_eq_none (by omega)
          simp [p5, p6, p7, p8, hw, ha, hb, hb1, ga, gb]
      · have ga : a[i]? = none := List.getElem?_eq_none (by omega)
        have hb : i < b.length := by omega
        have gb : b[i]? = some b[i] := List.getElem?_eq_getElem hb
        have lb := m2 b[i] (List.getElem_mem hb)
        have hsum : b[i].length ≤ 9223372036854775807 := by omega
        simp [p5, p6, p7, p8, hw, ha, hb, hb1, hsum, ga, gb])
    (fun pf h => by
      obtain ⟨p5, p6, p7, p8⟩ := h
      have ha : ¬ z.length < a.length := by omega
      have hb : ¬ z.length < b.length := by omega
      simp [p5, p6, p7, p8, ha, hb]) z.length 0 n _ r (by omega) hI (by simp) (by omega)
  obtain ⟨p5, p6, p7, p8⟩ := h
  rw [List.take_length] at p7
  simp [p7]

end Go.Proofs.YtmcfnnpihlediaaGreatDoor.Ex

/- The document's own patterns. -/
namespace Go.Proofs.YtmcfnnpihlediaaGreatDoor.Ex
open Go
attribute [-simp] rgn rgnD exec_seq exec_cond exec_block

theorem lastOf_snocM (c : UInt8) : ∀ (s : Str) (d : UInt8), lastOf c (s ++ [d]) = if d == c then some s.length else lastOf c s
  | [], d => by simp only [List.nil_append, lastOf, List.length_nil]
  | x :: s, d => by
    have ih := lastOf_snocM c s d
    rw [List.cons_append, lastOf, ih]
    by_cases h : d == c
    · simp [h]
    · simp [h, lastOf]
theorem cntL_snoc (s : Str) (d : UInt8) : cntL (s ++ [d]) = cntL s + if d == 37 then 1 else 0 := by
  simp [cntL, List.countP_append, List.countP_cons]

set_option maxHeartbeats 4000000 in
theorem cp166 [XX] (n : Nat) (p : Str) (hp : p.length ≤ 1000000) (hn : p.length + 1 < n) : CP (F (n + 1)) 121 [.str p] (.tup [.int .i64 (cntL p), .int .i64 (intOf (lastOf 37 p))]) := by
  refine F_cp (rs := [.int .i64 (cntL p), .int .i64 (intOf (lastOf 37 p))]) (S := []) rfl rfl ?_
  rw [F_fn rfl rfl rfl Tryz.func121 rfl]
  simp [runFn, Tryz.f121]
  generalize hI : iter _ _ _ = r
  obtain ⟨pf', rfl, h⟩ := iter_count 0 (fun i pf => pf 0 = .str p ∧ pf 4 = .int .i64 (cntL (p.take i)) ∧ pf 5 = .int .i64 (intOf (lastOf 37 (p.take i))) ∧ pf 6 = .int .i64 i) p.length
    (fun i pf hi h => by
      obtain ⟨p0, p4, p5, p6⟩ := h
      have hw := w64 (i := i) (by omega)
      have h1 := cntL_snoc (p.take i) p[i]
      have h2 := lastOf_snocM 37 (p.take i) p[i]
      rw [← List.take_succ_eq_append_getElem hi] at h1 h2
      rw [h1, h2]
      have hc : cntL (p.take i) ≤ i := by
        have := List.countP_le_length (p := fun x : UInt8 => x == 37) (l := p.take i)
        rw [List.length_take] at this
        unfold cntL; omega
      have hw2 := w64 (i := cntL (p.take i)) (by omega)
      have htl : (p.take i).length = i := by rw [List.length_take]; omega
      rw [htl]
      have hb := byte_eq p[i] 37 (by decide)
      rw [show ((37 : Nat) : Int) = 37 from rfl, show UInt8.ofNat 37 = 37 from rfl] at hb
      generalize cntL (p.take i) = a at *
      generalize lastOf 37 (p.take i) = b at *
      cases hd : (p[i] == 37) with
      | true => rw [hd] at hb; simp [p0, p4, p5, p6, hi, hw, hw2, hb]
      | false => rw [hd] at hb; simp [p0, p4, p5, p6, hi, hw, hw2, hb])
    (fun pf h => by
      obtain ⟨p0, p4, p5, p6⟩ := h
      simp [p0, p4, p5, p6]) p.length 0 n _ r (by omega) hI (by simp [cntL, lastOf]) (by omega)
  obtain ⟨p0, p4, p5, p6⟩ := h
  rw [List.take_length] at p4 p5
  simp [p4, p5]

theorem idx_none : ∀ p : Str, cntL p = 0 → idxOf 37 p = none
  | [], _ => rfl
  | c :: r, h => by
    have h' : (c == 37) = false ∧ cntL r = 0 := by
      unfold cntL at h ⊢
      rw [List.countP_cons] at h
      cases hc : (c == 37) with
      | true => rw [hc] at h; simp at h
      | false => rw [hc] at h; exact ⟨rfl, by simpa using h⟩
    simp only [idxOf, h'.1, idx_none r h'.2]
    rfl
theorem last_none : ∀ p : Str, cntL p = 0 → lastOf 37 p = none
  | [], _ => rfl
  | c :: r, h => by
    have h' : (c == 37) = false ∧ cntL r = 0 := by
      unfold cntL at h ⊢
      rw [List.countP_cons] at h
      cases hc : (c == 37) with
      | true => rw [hc] at h; simp at h
      | false => rw [hc] at h; exact ⟨rfl, by simpa using h⟩
    simp only [lastOf, h'.1, last_none r h'.2]
    rfl
theorem idx_one : ∀ p : Str, cntL p = 1 → ∃ i, idxOf 37 p = some i ∧ lastOf 37 p = some i ∧ i < p.length
  | [], h => by simp [cntL] at h
  | c :: r, h => by
    unfold cntL at h
    rw [List.countP_cons] at h
    cases hc : (c == 37) with
    | true =>
      rw [hc] at h
      have h0 : cntL r = 0 := by unfold cntL; simpa using h
      refine ⟨0, by simp [idxOf, hc], ?_, by simp⟩
      simp only [lastOf, last_none r h0, hc]; rfl
    | false =>
      rw [hc] at h
      have h1 : cntL r = 1 := by unfold cntL; simpa using h
      obtain ⟨i, g1, g2, g3⟩ := idx_one r h1
      refine ⟨i + 1, ?_, ?_, by simpa using g3⟩
      · simp [idxOf, hc, g1]
      · simp only [lastOf, g2]

theorem isPre_ex {a t : Str} : isPre a t = true ↔ ∃ m, t = a ++ m := by
  rw [isPre_iff]
  constructor
  · rintro ⟨h1, h2⟩
    exact ⟨t.drop a.length, by conv => lhs; rw [← List.take_append_drop a.length t, h1]⟩
  · rintro ⟨m, rfl⟩
    simp
theorem isSuf_ex {a t : Str} : isPre a.reverse t.reverse = true ↔ ∃ m, t = m ++ a := by
  rw [isPre_ex]
  constructor
  · rintro ⟨m, h⟩
    refine ⟨m.reverse, ?_⟩
    have := congrArg List.reverse h
    simpa using this
  · rintro ⟨m, rfl⟩
    exact ⟨m.reverse, by simp⟩

theorem match_some {p s x : Str} {i : Nat} (hr : cntL p = 1) (hi : idxOf 37 p = some i) (h : s = p.take i ++ x ++ p.drop (i + 1)) : matchL p s = (x, true) := by
  have hp : p ≠ [] := by intro e; subst e; simp [cntL] at hr
  have hright : rightL p = true := by simp [rightL, hp, hr]
  have hc : cutL p = (p.take i, p.drop (i + 1), true) := by simp [cutL, hi]
  have h1 : isPre (p.take i) s = true := isPre_ex.2 ⟨x ++ p.drop (i + 1), by rw [h]; simp⟩
  have h2 : s.drop (p.take i).length = x ++ p.drop (i + 1) := by rw [h, List.append_assoc, List.drop_left]
  have h3 : isPre (p.drop (i + 1)).reverse (x ++ p.drop (i + 1)).reverse = true := isSuf_ex.2 ⟨x, rfl⟩
  have h4 : (x ++ p.drop (i + 1)).take ((x ++ p.drop (i + 1)).length - (p.drop (i + 1)).length) = x := by
    rw [List.length_append, Nat.add_sub_cancel, List.take_left]
  unfold matchL
  rw [if_pos hright, hc]
  simp only [cutPre, h1, if_true, h2, cutSuf, h3, h4, Bool.and_true]
theorem match_ex {p s : Str} {i : Nat} (hr : cntL p = 1) (hi : idxOf 37 p = some i) (h : (matchL p s).2 = true) : ∃ x, s = p.take i ++ x ++ p.drop (i + 1) := by
  have hp : p ≠ [] := by intro e; subst e; simp [cntL] at hr
  have hright : rightL p = true := by simp [rightL, hp, hr]
  have hc : cutL p = (p.take i, p.drop (i + 1), true) := by simp [cutL, hi]
  unfold matchL at h
  rw [if_pos hright, hc] at h
  simp only [cutPre, if_true] at h
  cases h1 : isPre (p.take i) s with
  | false => simp [h1] at h
  | true =>
    simp only [h1, if_true, Bool.true_and, cutSuf] at h
    cases h2 : isPre (p.drop (i + 1)).reverse (s.drop (p.take i).length).reverse with
    | false => simp only [h2, Bool.false_eq_true, if_false] at h
    | true =>
      obtain ⟨m, hm⟩ := isPre_ex.1 h1
      obtain ⟨x, hx⟩ := isSuf_ex.1 h2
      refine ⟨x, ?_⟩
      rw [hm, List.drop_left] at hx
      rw [hm, hx, List.append_assoc]

end Go.Proofs.YtmcfnnpihlediaaGreatDoor.Ex

/- The document's own matches. -/
namespace Go.Proofs.YtmcfnnpihlediaaGreatDoor.Ex
open Go
attribute [-simp] rgn rgnD exec_seq exec_cond exec_block

theorem match_none {p s : Str} (h0 : cntL p = 1) (h : (matchL p s).2 = false) : (matchL p s).1 = [] := by
  have hp : p ≠ [] := by intro e; subst e; simp [cntL] at h0
  have hright : rightL p = true := by simp [rightL, hp, h0]
  obtain ⟨i, hi, _, _⟩ := idx_one p h0
  have hc : cutL p = (p.take i, p.drop (i + 1), true) := by simp [cutL, hi]
  unfold matchL at h ⊢
  rw [if_pos hright, hc] at h ⊢
  simp only [if_true] at h ⊢
  split
  · rename_i g; rw [if_pos g] at h; cases h
  · rfl

set_option maxHeartbeats 8000000 in
theorem cp134 [XX] (n : Nat) (p s : Str) (hp : p.length ≤ 1000000) (hs : s.length ≤ 1000000) (hn : p.length + s.length + 10 < n) :
    CP (F (n + 1)) 122 [.str p, .str s] (.tup [.str (matchL p s).1, .bool (matchL p s).2]) := by
  refine F_cp (rs := [.str (matchL p s).1, .bool (matchL p s).2]) (S := []) rfl rfl ?_
  rw [F_fn rfl rfl rfl Tryz.func122 rfl]
  have h166 : callP (F n) (.f 121) [.str p] = some (.tup [.int .i64 (cntL p), .int .i64 (intOf (lastOf 37 p))]) := by
    obtain ⟨m, rfl⟩ : ∃ m, n = m + 1 := ⟨n - 1, by omega⟩
    exact cp166 m p hp (by omega)
  by_cases hpe : p = []
  · subst hpe
    have hm : matchL [] s = ([], false) := by simp [matchL, rightL]
    rw [hm]
    simp [runFn, Tryz.f122, h166]
  have hpe' : (p == []) = false := by simpa using hpe
  by_cases hc2 : 1 < cntL p
  · have hm : matchL p s = ([], false) := by
      have : rightL p = false := by simp [rightL, hpe]; omega
      simp [matchL, this]
    rw [hm]
    have e : decide ((1 : Int) < (cntL p : Int)) = true := by simpa using (by omega : (1 : Int) < (cntL p : Int))
    simp [runFn, Tryz.f122, h166, hpe', e]
  have e2 : decide ((1 : Int) < (cntL p : Int)) = false := by simpa using (by omega : ¬ (1 : Int) < (cntL p : Int))
  by_cases hc0 : cntL p = 0
  · have hm : matchL p s = ([], p == s) := by
      have hr : rightL p = true := by simp [rightL, hpe, hc0]
      simp [matchL, hr, cutL, idx_none p hc0]
    rw [hm]
    have e0 : ((cntL p : Int) == 0) = true := by simp [hc0]
    simp [runFn, Tryz.f122, h166, hpe', e2, e0]
  have hc1 : cntL p = 1 := by omega
  have e0 : ((cntL p : Int) == 0) = false := by simp [hc1]
  obtain ⟨at0, hi1, hi2, hi3⟩ := idx_one p hc1
  rw [hi2] at h166
  simp only [intOf] at h166
  have hms := fun x => match_some (s := s) (x := x) hc1 hi1
  have hmx := match_ex (s := s) hc1 hi1
  have hwat := w64 (i := at0) (by omega)
  obtain ⟨u, hu⟩ : ∃ u : Int, (at0 : Int) + 1 = u := ⟨_, rfl⟩
  have wu : IntKind.wrap .i64 u = u := wrap64 (by omega) (by omega)
  have hun : u.toNat = at0 + 1 := by omega
  have hu1 : u ≤ (p.length : Int) := by omega
  have hu0 : (0 : Int) ≤ u := by omega
  have hat1 : at0 ≤ p.length := by omega
  have hptl : (p.take at0).length = at0 := by rw [List.length_take]; omega
  have hpdl : (p.drop (at0 + 1)).length ≤ p.length := by rw [List.length_drop]; omega
  have hptk : (p.drop (at0 + 1)).take (p.length - (at0 + 1)) = p.drop (at0 + 1) := List.take_of_length_le (by rw [List.length_drop]; omega)
  simp [runFn, Tryz.f122, h166, hpe', e2, e0]
  generalize hI : iter _ _ _ = r
  obtain ⟨x, pf', rfl, hx⟩ := iter_gen (fun i : Nat => s.length + 1 - i) (fun i pf => pf 0 = .str p ∧ pf 1 = .str s ∧ pf 7 = .int .i64 at0 ∧ pf 8 = .int .i64 i ∧ i ≤ s.length + 1 ∧ ((matchL p s).2 = true → i ≤ at0))
    (fun x pf => (x = .ret ∧ (matchL p s).2 = true ∧ pf 4 = .str (matchL p s).1 ∧ pf 5 = .bool true) ∨ (x = .ex 0 ∧ (matchL p s).2 = false))
    (fun i pf h => by
      obtain ⟨p0, p1, p7, p8, hi, hg⟩ := h
      by_cases hle : i ≤ s.length
      · have hw := w64 (i := i) (by omega)
        by_cases hgood : (matchL p s).2 = true ∧ i = at0
        · right
          obtain ⟨hb, rfl⟩ := hgood
          obtain ⟨x, hx⟩ := hmx hb
          have hmv := hms x hx
          have hxl := congrArg List.length hx
          simp only [List.length_append, hptl] at hxl
          have hslx : (s.drop i).take x.length = x := by
            have h1 : s.drop i = (p.take i ++ (x ++ p.drop (i + 1))).drop i := by rw [← List.append_assoc, ← hx]
            rw [h1, List.drop_left' hptl, List.take_left]
          rw [hmv]
          refine ⟨.ret, ?_⟩
          simp [p0, p1, p7, p8, hle]
          generalize hJ : iter _ _ _ = r2
          obtain ⟨y, pf2, rfl, hy, q4, q5⟩ := iter_gen (fun k : Nat => s.length + 1 - k) (fun k pf => pf 0 = .str p ∧ pf 1 = .str s ∧ pf 7 = .int .i64 i ∧ pf 8 = .int .i64 i ∧ pf 9 = .int .i64 k ∧ i ≤ k ∧ k ≤ i + x.length)
            (fun y pf => y = .ret ∧ pf 4 = .str x ∧ pf 5 = .bool true)
            (fun k pf h => by
              obtain ⟨q0, q1, q7, q8, q9, hk1, hk2⟩ := h
              have hkle : k ≤ s.length := by omega
              have wk := w64 (i := k) (by omega)
              have hik : (i : Int) ≤ (k : Int) := by omega
              have L1 : i + min (k - i) (s.length - i) ≤ 9223372036854775807 := by omega
              have L2 : i + min (k - i) (s.length - i) + (p.length - (i + 1)) ≤ 9223372036854775807 := by omega
              have L3 : i + (min (k - i) (s.length - i) + (p.length - (i + 1))) ≤ 9223372036854775807 := by omega
              by_cases hk : k = i + x.length
              · right
                subst hk
                have N1 : i + x.length ≤ 9223372036854775807 := by omega
                have N2 : i + x.length + (p.length - (i + 1)) ≤ 9223372036854775807 := by omega
                have N3 : i + (x.length + (p.length - (i + 1))) ≤ 9223372036854775807 := by omega
                have hM2 : (p.take i ++ (x ++ p.drop (i + 1)) == s) = true := by rw [← List.append_assoc, ← hx]; simp
                have hM1 : (p.take i ++ ((s.drop i).take x.length ++ p.drop (i + 1)) == s) = true := by
                  rw [hslx, ← List.append_assoc, ← hx]; simp
                obtain ⟨v, hv⟩ : ∃ v : Int, (i : Int) + (x.length : Int) = v := ⟨_, rfl⟩
                have hvn : v.toNat = i + x.length := by omega
                have hv1 : v ≤ (s.length : Int) := by omega
                have hv0 : (0 : Int) ≤ v := by omega
                have hvi : (i : Int) ≤ v := by omega
                refine ⟨.ret, ?_⟩
                simp [q0, q1, q7, q8, q9, hv, hvn, hv1, hv0, hvi, hkle, hik, N1, N2, N3, hM2, hu, wu, hun, hu1, hu0, hat1, hslx]
              · left
                have hM1 : (p.take i ++ ((s.drop i).take (k - i) ++ p.drop (i + 1)) == s) = false := by
                  cases hbb : (p.take i ++ ((s.drop i).take (k - i) ++ p.drop (i + 1)) == s) with
                  | false => rfl
                  | true =>
                    have e : p.take i ++ ((s.drop i).take (k - i) ++ p.drop (i + 1)) = s := by simpa using hbb
                    have e2 := hms _ (by rw [List.append_assoc]; exact e.symm)
                    rw [hmv] at e2
                    have e3 := congrArg (fun z : Str × Bool => z.1.length) e2
                    simp only [List.length_take, List.length_drop] at e3
                    omega
                have hmeas : s.length + 1 - (k + 1) < s.length + 1 - k := by omega
                have hmeas2 : s.length - k < s.length + 1 - k := by omega
                have hk3 : i ≤ k + 1 := by omega
                have hk4 : k + 1 ≤ i + x.length := by omega
                refine ⟨k + 1, ?_⟩
                simp [q0, q1, q7, q8, q9, wk, hkle, hk1, hik, L1, L2, L3, hM1, hu, wu, hun, hu1, hu0, hat1, hmeas, hmeas2, hk3, hk4]) n i _ r2 hJ (by simp [p0, p1, p7, p8]) (by omega)
          subst hy
          simp [q4, q5]
        · left
          have hg2 : (matchL p s).2 = true → i + 1 ≤ at0 := by
            intro hb
            have h1 := hg hb
            have h2 : i ≠ at0 := fun e => hgood ⟨hb, e⟩
            omega
          have hmeas0 : s.length - i < s.length + 1 - i := by omega
          refine ⟨i + 1, ?_⟩
          simp [p0, p1, p7, p8, hle]
          generalize hJ : iter _ _ _ = r2
          obtain ⟨y, pf2, rfl, hy, q0, q1, q7, q8⟩ := iter_gen (fun k : Nat => s.length + 1 - k) (fun k pf => pf 0 = .str p ∧ pf 1 = .str s ∧ pf 7 = .int .i64 at0 ∧ pf 8 = .int .i64 i ∧ pf 9 = .int .i64 k ∧ i ≤ k ∧ k ≤ s.length + 1)
            (fun y pf => y = .ex 2 ∧ pf 0 = .str p ∧ pf 1 = .str s ∧ pf 7 = .int .i64 at0 ∧ pf 8 = .int .i64 i)
            (fun k pf h => by
              obtain ⟨q0, q1, q7, q8, q9, hk1, hk2⟩ := h
              by_cases hkle : k ≤ s.length
              · left
                have wk := w64 (i := k) (by omega)
                have hik : (i : Int) ≤ (k : Int) := by omega
                have L1 : at0 + min (k - i) (s.length - i) ≤ 9223372036854775807 := by omega
                have L2 : at0 + min (k - i) (s.length - i) + (p.length - (at0 + 1)) ≤ 9223372036854775807 := by omega
                have L3 : at0 + (min (k - i) (s.length - i) + (p.length - (at0 + 1))) ≤ 9223372036854775807 := by omega
                have hmeas : s.length + 1 - (k + 1) < s.length + 1 - k := by omega
                have hmeas2 : s.length - k < s.length + 1 - k := by omega
                have hk3 : i ≤ k + 1 := by omega
                refine ⟨k + 1, ?_⟩
                by_cases hia : i = at0
                · subst hia
                  have hM1 : (p.take i ++ ((s.drop i).take (k - i) ++ p.drop (i + 1)) == s) = false := by
                    cases hbb : (p.take i ++ ((s.drop i).take (k - i) ++ p.drop (i + 1)) == s) with
                    | false => rfl
                    | true =>
                      have e : p.take i ++ ((s.drop i).take (k - i) ++ p.drop (i + 1)) = s := by simpa using hbb
                      have e2 := hms _ (by rw [List.append_assoc]; exact e.symm)
                      exact absurd ⟨by rw [e2], rfl⟩ hgood
                  simp [q0, q1, q7, q8, q9, wk, hkle, hk1, hik, L1, L2, L3, hM1, hu, wu, hun, hu1, hu0, hat1, hmeas, hmeas2, hk3]
                · have hne : ((i : Int) == (at0 : Int)) = false := by simpa using (by omega : ¬ (i : Int) = (at0 : Int))
                  cases hM1 : (p.take at0 ++ ((s.drop i).take (k - i) ++ p.drop (at0 + 1)) == s) <;>
                    simp [q0, q1, q7, q8, q9, wk, hkle, hk1, hik, L1, L2, L3, hM1, hu, wu, hun, hu1, hu0, hat1, hmeas, hmeas2, hk3, hne, hia]
              · right
                refine ⟨.ex 2, ?_⟩
                simp [q0, q1, q7, q8, q9, hkle]) n i _ r2 hJ (by simp [p0, p1, p7, p8]; omega) (by omega)
          subst hy
          simp [q0, q1, q7, q8, hw, hmeas0, hle]
          exact hg2
      · right
        have hz : (matchL p s).2 = false := by
          cases hb : (matchL p s).2 with
          | false => rfl
          | true =>
            obtain ⟨x, hx⟩ := hmx hb
            have h1 := hg hb
            have h2 := congrArg List.length hx
            simp only [List.length_append, hptl] at h2
            omega
        refine ⟨.ex 0, ?_⟩
        simp [p0, p1, p7, p8, hle, hz]) n 0 _ r hI ⟨by simp, by simp, by simp, by simp, by omega, fun _ => by omega⟩ (by omega)
  rcases hx with ⟨rfl, hb, p4, p5⟩ | ⟨rfl, hb⟩
  · simp [p4, p5, hb]
  · have hm1 : (matchL p s).1 = [] := match_none hc1 hb
    simp [hb, hm1]

end Go.Proofs.YtmcfnnpihlediaaGreatDoor.Ex

/- The document's own patterns put to use; a path's parts. -/
namespace Go.Proofs.YtmcfnnpihlediaaGreatDoor.Ex
open Go
attribute [-simp] rgn rgnD exec_seq exec_cond exec_block

set_option maxHeartbeats 4000000 in
theorem cp135 [XX] (n : Nat) (p stem : Str) (hp : p.length ≤ 1000000) (hs : stem.length ≤ 1000000) (hn : p.length + 10 < n) : CP (F (n + 1)) 123 [.str p, .str stem] (.str (fillL p stem)) := by
  refine F_cp (rs := [.str (fillL p stem)]) (S := []) rfl rfl ?_
  rw [F_fn rfl rfl rfl Tryz.func123 rfl]
  have h166 : callP (F n) (.f 121) [.str p] = some (.tup [.int .i64 (cntL p), .int .i64 (intOf (lastOf 37 p))]) := by
    obtain ⟨m, rfl⟩ : ∃ m, n = m + 1 := ⟨n - 1, by omega⟩
    exact cp166 m p hp (by omega)
  by_cases hc : cntL p = 1
  · obtain ⟨i, hi1, hi2, hi3⟩ := idx_one p hc
    rw [hi2] at h166
    simp only [intOf] at h166
    have hf : fillL p stem = p.take i ++ (stem ++ p.drop (i + 1)) := by simp [fillL, openL, hc, cutL, hi1]
    rw [hf]
    have e : ((cntL p : Int) != 1) = false := by simp [hc]
    obtain ⟨u, hu⟩ : ∃ u : Int, (i : Int) + 1 = u := ⟨_, rfl⟩
    have wu : IntKind.wrap .i64 u = u := wrap64 (by omega) (by omega)
    have hun : u.toNat = i + 1 := by omega
    have hu1 : u ≤ (p.length : Int) := by omega
    have hu0 : (0 : Int) ≤ u := by omega
    have hat1 : i ≤ p.length := by omega
    have L0 : min i p.length = i := by omega
    have L1 : i + stem.length ≤ 9223372036854775807 := by omega
    have L2 : i + stem.length + (p.length - (i + 1)) ≤ 9223372036854775807 := by omega
    have L3 : i + (stem.length + (p.length - (i + 1))) ≤ 9223372036854775807 := by omega
    simp [runFn, Tryz.f123, h166, e, hu, wu, hun, hu1, hu0, hat1, L0, L1, L2, L3]
  · have hf : fillL p stem = p := by simp [fillL, openL, hc]
    rw [hf]
    have e : ((cntL p : Int) != 1) = true := by simpa using (by omega : ¬ (cntL p : Int) = 1)
    simp [runFn, Tryz.f123, h166, e]

theorem cp92 [XX] (n : Nat) (p q s : Str) (hp : p.length ≤ 1000000) (hq : q.length ≤ 1000000) (hs : s.length ≤ 1000000) (hn : p.length + q.length + s.length + 30 < n) : CP (F (n + 1)) 98 [.str p, .str q, .str s] (.str (substL p q s)) := by
  refine F_cp (rs := [.str (substL p q s)]) (S := []) rfl rfl ?_
  rw [F_fn rfl rfl rfl Tryz.func98 rfl]
  have hml := matchL_len p s
  obtain ⟨m, rfl⟩ : ∃ m, n = m + 1 := ⟨n - 1, by omega⟩
  have h1 := cp134 m p s hp hs (by omega)
  have h2 := cp135 m q (matchL p s).1 hq (by omega) (by omega)
  simp only [CP] at h1 h2
  unfold substL
  generalize matchL p s = ms at *
  obtain ⟨x, b⟩ := ms
  simp only at h1 h2 ⊢
  generalize m + 1 = n at *
  cases b with
  | true => simp [runFn, Tryz.f98, h1, h2]
  | false => simp [runFn, Tryz.f98, h1]

set_option maxHeartbeats 4000000 in
theorem cp93 [XX] (n : Nat) (l : List Str) (s : Str) (hl : l.length ≤ 1000000) (hp : ∀ p ∈ l, p.length ≤ 1000000) (hs : s.length ≤ 1000000) (hn : 2100000 < n) : CP (F (n + 1)) 184 [.sl 1 (l.map .str), .str s] (.bool (anyL l s)) := by
  refine F_cp (rs := [.bool (anyL l s)]) (S := []) (by simp [noBoxL, noBox]) rfl ?_
  rw [F_fn rfl rfl rfl Tryz.func184 rfl]
  have h134 : ∀ p ∈ l, callP (F n) (.f 122) [.str p, .str s] = some (.tup [.str (matchL p s).1, .bool (matchL p s).2]) := by
    intro p hpl
    obtain ⟨m, rfl⟩ : ∃ m, n = m + 1 := ⟨n - 1, by omega⟩
    exact cp134 m p s (hp p hpl) hs (by have := hp p hpl; omega)
  simp [runFn, Tryz.f184]
  generalize hI : iter _ _ _ = r
  obtain ⟨x, pf', rfl, hx⟩ := iter_gen (fun i : Nat => l.length - i) (fun i pf => pf 0 = .sl 1 (l.map .str) ∧ pf 1 = .str s ∧ pf 5 = .int .i64 i ∧ i ≤ l.length ∧ (l.drop i).any (fun p => (matchL p s).2) = anyL l s)
    (fun x pf => (x = .ret ∧ pf 4 = .bool true ∧ anyL l s = true) ∨ (x = .ex 0 ∧ anyL l s = false))
    (fun i pf h => by
      obtain ⟨p0, p1, p5, hi, hinv⟩ := h
      by_cases hlt : i < l.length
      · have hd : l.drop i = l[i] :: l.drop (i + 1) := List.drop_eq_getElem_cons hlt
        rw [hd, List.any_cons] at hinv
        have hc := h134 l[i] (List.getElem_mem hlt)
        have hw := w64 (i := i) (by omega)
        cases hm : (matchL l[i] s).2 with
        | true =>
          right
          rw [hm] at hc hinv
          rw [Bool.true_or] at hinv
          refine ⟨.ret, ?_⟩
          simp [p0, p1, p5, hlt, hc, ← hinv]
        | false =>
          left
          rw [hm] at hc hinv
          rw [Bool.false_or] at hinv
          have hmeas : l.length - (i + 1) < l.length - i := by omega
          have hi1 : i + 1 ≤ l.length := hlt
          refine ⟨i + 1, ?_⟩
          generalize (l.drop (i + 1)).any (fun p => (matchL p s).2) = b at *
          simp [p0, p1, p5, hlt, hc, hw, hmeas, hi1, hinv]
      · right
        have hz : l.drop i = [] := List.drop_of_length_le (by omega)
        rw [hz, List.any_nil] at hinv
        have hnl : l.length ≤ i := by omega
        refine ⟨.ex 0, ?_⟩
        simp [p0, p1, p5, hlt, ← hinv]) n 0 _ r hI ⟨by simp, by simp, by simp, by omega, rfl⟩ (by omega)
  rcases hx with ⟨rfl, p4, hb⟩ | ⟨rfl, hb⟩
  · simp [p4, hb]
  · simp [hb]

/-! ### A path's parts -/
def lastFrom (c : UInt8) (s : Str) (k : Nat) : Int := intOf ((lastOf c (s.drop k)).map (· + k))

set_option maxHeartbeats 4000000 in
theorem cp136 [XX] (n : Nat) (s : Str) (c : UInt8) (k : Nat) (hk : k ≤ s.length) (hs : s.length ≤ 1000000) (hn : s.length + 10 < n) : CP (F (n + 1)) 210 [.str s, .int .u8 c.toNat, .int .i64 k] (.int .i64 (lastFrom c s k)) := by
  refine F_cp (rs := [.int .i64 (lastFrom c s k)]) (S := []) rfl rfl ?_
  rw [F_fn rfl rfl rfl Tryz.func210 rfl]
  simp [runFn, Tryz.f210]
  generalize hI : iter _ _ _ = r
  obtain ⟨pf', rfl, h⟩ := iter_count 0 (fun j pf => pf 0 = .str s ∧ pf 1 = .int .u8 c.toNat ∧ pf 7 = .int .i64 (intOf ((lastOf c ((s.drop k).take j)).map (· + k))) ∧ pf 8 = .int .i64 ((k + j : Nat) : Int)) (s.length - k)
    (fun j pf hj h => by
      obtain ⟨p0, p1, p7, p8⟩ := h
      have hjd : j < (s.drop k).length := by rw [List.length_drop]; exact hj
      have h2 := lastOf_snocM c ((s.drop k).take j) (s.drop k)[j]
      rw [← List.take_succ_eq_append_getElem hjd, List.getElem_drop] at h2
      rw [h2]
      have htl : ((s.drop k).take j).length = j := by rw [List.length_take]; omega
      rw [htl]
      have hlt : k + j < s.length := by omega
      have hlti : (k : Int) + (j : Int) < (s.length : Int) := by omega
      have hw : IntKind.wrap .i64 ((k : Int) + (j : Int) + 1) = (k : Int) + ((j : Int) + 1) := by rw [wrap64 (by omega) (by omega)]; omega
      have hb : ((s[k + j].toNat : Int) == (c.toNat : Int)) = (s[k + j] == c) := by
        have := byte_eq s[k + j] c.toNat c.toNat_lt
        rwa [UInt8.ofNat_toNat] at this
      have hq0 : (0 : Int) ≤ (k : Int) + (j : Int) := by omega
      have hqn : ((k : Int) + (j : Int)).toNat = k + j := by omega
      generalize lastOf c ((s.drop k).take j) = b at *
      obtain ⟨q, hq⟩ : ∃ q : Int, ((k + j : Nat) : Int) = q := ⟨_, rfl⟩
      cases hd : (s[k + j] == c) with
      | true =>
        rw [hd] at hb
        simp [p0, p1, p7, p8, hlt, hlti, hw, hb, hq0, hqn]
        omega
      | false =>
        rw [hd] at hb
        simp [p0, p1, p7, p8, hlt, hlti, hw, hb, hq0, hqn])
    (fun pf h => by
      obtain ⟨p0, p1, p7, p8⟩ := h
      have hlti : ¬ (k : Int) + ((s.length - k : Nat) : Int) < (s.length : Int) := by omega
      have hke : k + (s.length - k) = s.length := by omega
      rw [hke] at p8 ⊢
      simp [p0, p1, p7, p8]) (s.length - k) 0 n _ r (by omega) hI (by simp [lastOf]) (by omega)
  obtain ⟨p0, p1, p7, p8⟩ := h
  rw [List.take_of_length_le (by rw [List.length_drop]; omega)] at p7
  simp [p7, lastFrom]

set_option maxHeartbeats 4000000 in
theorem cp94 [XX] (n : Nat) (name w : Str) (hs : w.length ≤ 1000000) (hn : w.length + 30 < n) : CP (F (n + 1)) 185 [.str name, .str w] (.str (partL name w)) := by
  refine F_cp (rs := [.str (partL name w)]) (S := []) rfl rfl ?_
  rw [F_fn rfl rfl rfl Tryz.func185 rfl]
  have hle := atL_le w
  have h1 : callP (F n) (.f 210) [.str w, .int .u8 47, .int .i64 0] = some (.int .i64 (lastFrom 47 w 0)) := by
    obtain ⟨m, rfl⟩ : ∃ m, n = m + 1 := ⟨n - 1, by omega⟩
    exact cp136 m w 47 0 (by omega) hs (by omega)
  have h2 : callP (F n) (.f 210) [.str w, .int .u8 46, .int .i64 (atL w)] = some (.int .i64 (lastFrom 46 w (atL w))) := by
    obtain ⟨m, rfl⟩ : ∃ m, n = m + 1 := ⟨n - 1, by omega⟩
    exact cp136 m w 46 (atL w) hle hs (by omega)
  have e1 : lastFrom 47 w 0 = (atL w : Int) - 1 := by
    simp only [lastFrom, atL, List.drop_zero]
    cases lastOf 47 w with
    | none => rfl
    | some i => simp [intOf]
  rw [e1] at h1
  have hdl : ∀ d, lastOf 46 (w.drop (atL w)) = some d → d + atL w < w.length := by
    intro d hd
    have := lastOf_lt _ _ _ hd
    rw [List.length_drop] at this; omega
  have e2 : lastFrom 46 w (atL w) = intOf ((lastOf 46 (w.drop (atL w))).map (· + atL w)) := rfl
  rw [e2] at h2
  obtain ⟨q, hq⟩ : ∃ q : Int, (atL w : Int) - 1 = q := ⟨_, rfl⟩
  rw [hq] at h1
  have wq : IntKind.wrap .i64 (q + 1) = (atL w : Int) := by rw [wrap64 (by omega) (by omega)]; omega
  have hA : decide (q < 0) = decide (atL w = 0) := by
    have : q < 0 ↔ atL w = 0 := by omega
    simp only [this]
  have hA0 : ((0 : Int) ≤ (atL w : Int)) := by omega
  have hA1 : ((atL w : Int) ≤ (w.length : Int)) := by omega
  have hb : baseL w = match lastOf 46 (w.drop (atL w)) with
    | none => (w.take (atL w), w.drop (atL w), [])
    | some d => (w.take (atL w), (w.drop (atL w)).take d, (w.drop (atL w)).drop d) := rfl
  generalize atL w = a at *
  by_cases n1 : name = [100, 105, 114]
  · subst n1
    have hp : partL [100, 105, 114] w = if a = 0 then [46, 47] else w.take a := by
      have hb1 : (baseL w).1 = w.take a := by rw [hb]; split <;> rfl
      simp only [partL, if_true, hb1]
      by_cases ha : a = 0
      · subst ha; simp
      · have hlen : (w.take a).length = a := by rw [List.length_take]; omega
        have hne : w.take a ≠ [] := by intro e; rw [e] at hlen; exact ha hlen.symm
        rw [if_neg hne, if_neg ha]
    rw [hp]
    by_cases ha : a = 0
    · have hq0 : q < 0 := by omega
      rw [if_pos ha]
      simp [runFn, Tryz.f185, h1, h2, wq, hq0]
    · have hq0 : ¬ q < 0 := by omega
      rw [if_neg ha]
      simp [runFn, Tryz.f185, h1, h2, wq, hq0, hA0, hA1, hle]
  have n1' : (name == [100, 105, 114]) = false := by simpa using n1
  by_cases n2 : name = [110, 111, 116, 100, 105, 114]
  · subst n2
    have hp : partL [110, 111, 116, 100, 105, 114] w = w.drop a := by
      simp only [partL]
      rw [if_neg (by decide)]
      simp only [if_true]
      rw [hb]
      split
      · simp
      · exact List.take_append_drop _ _
    rw [hp]
    simp [runFn, Tryz.f185, h1, h2, wq, hA0, hA1, hle]
  have n2' : (name == [110, 111, 116, 100, 105, 114]) = false := by simpa using n2
  by_cases n3 : name = [115, 117, 102, 102, 105, 120]
  · subst n3
    have hp : partL [115, 117, 102, 102, 105, 120] w = (baseL w).2.2 := by
      simp only [partL]
      rw [if_neg (by decide), if_neg (by decide)]
      simp only [if_true]
    rw [hp, hb]
    cases hl : lastOf 46 (w.drop a) with
    | none =>
      rw [hl] at h2
      simp [runFn, Tryz.f185, h1, h2, wq, intOf]
    | some d =>
      rw [hl] at h2
      have hd := hdl d hl
      obtain ⟨v, hv⟩ : ∃ v : Int, (d : Int) + (a : Int) = v := ⟨_, rfl⟩
      have hvn : v.toNat = d + a := by omega
      have hv0 : (0 : Int) ≤ v := by omega
      have hv1 : v ≤ (w.length : Int) := by omega
      have hv2 : ¬ v < 0 := by omega
      have h2' : callP (F n) (.f 210) [.str w, .int .u8 46, .int .i64 a] = some (.int .i64 v) := by
        rw [h2, ← hv]; simp [intOf]
      have hdd : (w.drop a).drop d = w.drop (d + a) := by rw [List.drop_drop, Nat.add_comm]
      have hle2 : d + a ≤ w.length := by omega
      simp only [hdd]
      simp [runFn, Tryz.f185, h1, h2', wq, hvn, hv0, hv1, hv2, hle2]
  have n3' : (name == [115, 117, 102, 102, 105, 120]) = false := by simpa using n3
  have hp : partL name w = (baseL w).1 ++ (baseL w).2.1 := by
    simp only [partL]
    rw [if_neg n1, if_neg n2, if_neg n3]
  rw [hp, hb]
  cases hl : lastOf 46 (w.drop a) with
  | none =>
    rw [hl] at h2
    have ht : w.take a ++ w.drop a = w := List.take_append_drop _ _
    simp only [ht]
    simp [runFn, Tryz.f185, h1, h2, wq, intOf, n1', n2', n3']
  | some d =>
    rw [hl] at h2
    have hd := hdl d hl
    obtain ⟨v, hv⟩ : ∃ v : Int, (d : Int) + (a : Int) = v := ⟨_, rfl⟩
    have hvn : v.toNat = d + a := by omega
    have hv0 : (0 : Int) ≤ v := by omega
    have hv1 : v ≤ (w.length : Int) := by omega
    have hv2 : ¬ v < 0 := by omega
    have h2' : callP (F n) (.f 210) [.str w, .int .u8 46, .int .i64 a] = some (.int .i64 v) := by
      rw [h2, ← hv]; simp [intOf]
    have htt : w.take a ++ (w.drop a).take d = w.take (d + a) := by rw [Nat.add_comm, List.take_add]
    have hle2 : d + a ≤ w.length := by omega
    simp only [htt]
    simp [runFn, Tryz.f185, h1, h2', wq, hvn, hv0, hv1, hv2, hle2, n1', n2', n3']

end Go.Proofs.YtmcfnnpihlediaaGreatDoor.Ex

/- The document's own words, one by one. -/
namespace Go.Proofs.YtmcfnnpihlediaaGreatDoor.Ex
open Go
attribute [-simp] rgn rgnD exec_seq exec_cond exec_block

/-- What each word is turned to. -/
def eachX (name a b w : Str) : Str :=
  if name = [115, 116, 114, 105, 112] then w
  else if name = [112, 97, 116, 115, 117, 98, 115, 116] then substL a b w
  else if name = [102, 105, 108, 116, 101, 114] then (if anyL (wordsL a) w = true then w else [])
  else if name = [102, 105, 108, 116, 101, 114, 45, 111, 117, 116] then (if anyL (wordsL a) w = true then [] else w)
  else if name = [97, 100, 100, 115, 117, 102, 102, 105, 120] then w ++ a
  else if name = [97, 100, 100, 112, 114, 101, 102, 105, 120] then a ++ w
  else partL name w
def eachK (name a b w : Str) : List Str := if eachX name a b w != [] || name == [112, 97, 116, 115, 117, 98, 115, 116] then [eachX name a b w] else []
def eachL (name a b : Str) (l : List Str) : List Str := l.flatMap (eachK name a b)

theorem each_take (name a b : Str) (w : List Str) (i : Nat) (h : i < w.length) : eachL name a b (w.take (i + 1)) = eachL name a b (w.take i) ++ eachK name a b w[i] := by
  rw [eachL, List.take_succ_eq_append_getElem h, List.flatMap_append]; simp [eachL]
theorem each_len (name a b : Str) : ∀ l : List Str, (eachL name a b l).length ≤ l.length
  | [] => by simp [eachL]
  | x :: l => by
    have ih := each_len name a b l
    have h1 : (eachK name a b x).length ≤ 1 := by unfold eachK; split <;> simp
    simp only [eachL, List.flatMap_cons, List.length_append, List.length_cons] at ih ⊢
    omega

set_option maxHeartbeats 16000000 in
theorem cp55 [XX] (n : Nat) (name a b t : Str) (ha : a.length ≤ 5000) (hb : b.length ≤ 5000) (ht : t.length ≤ 5000) (hn : 2200000 < n) :
    CP (F (n + 1)) 157 [.str name, .str a, .str b, .str t] (.sl 1 ((eachL name a b (wordsL t)).map .str)) := by
  refine F_cp (rs := [.sl 1 ((eachL name a b (wordsL t)).map .str)]) (S := []) rfl (by simp [noBoxL, noBox]) ?_
  rw [F_fn rfl rfl rfl Tryz.func157 rfl]
  obtain ⟨m, rfl⟩ : ∃ m, n = m + 1 := ⟨n - 1, by omega⟩
  have h53t := cp53 m t (by omega) (by omega)
  have h53a := cp53 m a (by omega) (by omega)
  have wlt := wordsL_len t
  have wla := wordsL_len a
  have wmt := wordsL_mem t
  have wma := wordsL_mem a
  have h92 : ∀ w ∈ wordsL t, callP (F (m + 1)) (.f 98) [.str a, .str b, .str w] = some (.str (substL a b w)) := fun w hw => cp92 m a b w (by omega) (by omega) (by have := wmt w hw; omega) (by have := wmt w hw; omega)
  have h93 : ∀ w ∈ wordsL t, callP (F (m + 1)) (.f 184) [.sl 1 ((wordsL a).map .str), .str w] = some (.bool (anyL (wordsL a) w)) := fun w hw => cp93 m (wordsL a) w (by omega) (fun p hp => by have := wma p hp; omega) (by have := wmt w hw; omega) (by omega)
  have h94 : ∀ w ∈ wordsL t, callP (F (m + 1)) (.f 185) [.str name, .str w] = some (.str (partL name w)) := fun w hw => cp94 m name w (by have := wmt w hw; omega) (by have := wmt w hw; omega)
  simp only [CP] at h53t h53a
  generalize m + 1 = n at *
  generalize wordsL t = w at *
  simp [runFn, Tryz.f157, h53t]
  generalize hI : iter _ _ _ = r
  obtain ⟨pf', rfl, h⟩ := iter_count 0 (fun i pf => pf 0 = .str name ∧ pf 1 = .str a ∧ pf 2 = .str b ∧ pf 9 = .sl 1 (w.map .str) ∧ pf 10 = .sl 1 ((eachL name a b (w.take i)).map .str) ∧ pf 11 = .int .i64 i) w.length
    (fun i pf hi h => by
      obtain ⟨p0, p1, p2, p9, p10, p11⟩ := h
      have hw := w64 (i := i) (by omega)
      rw [each_take name a b w i hi]
      have hel := each_len name a b (w.take i)
      rw [List.length_take] at hel
      generalize eachL name a b (w.take i) = o at *
      have hb1 : (o.length + 1) * 16 ≤ 140737488355328 := by omega
      have c92 := h92 w[i] (List.getElem_mem hi)
      have c93 := h93 w[i] (List.getElem_mem hi)
      have c94 := h94 w[i] (List.getElem_mem hi)
      have hwl := wmt w[i] (List.getElem_mem hi)
      have L1 : w[i].length + a.length ≤ 9223372036854775807 := by omega
      have L2 : a.length + w[i].length ≤ 9223372036854775807 := by omega
      by_cases n1 : name = [115, 116, 114, 105, 112]
      · subst n1
        have hK : eachK [115, 116, 114, 105, 112] a b w[i] = if w[i] != [] then [w[i]] else [] := by simp [eachK, eachX]
        rw [hK]
        cases hz : (w[i] == []) <;> simp [p0, p1, p2, p9, p10, p11, hi, hw, hb1, hz, bne]
      have n1' : (name == [115, 116, 114, 105, 112]) = false := by simpa using n1
      by_cases n2 : name = [112, 97, 116, 115, 117, 98, 115, 116]
      · subst n2
        have hK : eachK [112, 97, 116, 115, 117, 98, 115, 116] a b w[i] = [substL a b w[i]] := by simp [eachK, eachX]
        rw [hK]
        generalize substL a b w[i] = y at *
        cases hz : (y == []) <;> simp [p0, p1, p2, p9, p10, p11, hi, hw, hb1, c92, hz]
      have n2' : (name == [112, 97, 116, 115, 117, 98, 115, 116]) = false := by simpa using n2
      have hK : eachK name a b w[i] = if eachX name a b w[i] != [] then [eachX name a b w[i]] else [] := by simp [eachK, n2']
      rw [hK]
      by_cases n3 : name = [102, 105, 108, 116, 101, 114]
      · subst n3
        have hX : eachX [102, 105, 108, 116, 101, 114] a b w[i] = if anyL (wordsL a) w[i] = true then w[i] else [] := by simp [eachX]
        rw [hX]
        cases hany : anyL (wordsL a) w[i] with
        | true =>
          rw [hany] at c93
          cases hz : (w[i] == []) <;> simp [p0, p1, p2, p9, p10, p11, hi, hw, hb1, h53a, c93, hz, bne]
        | false =>
          rw [hany] at c93
          simp [p0, p1, p2, p9, p10, p11, hi, hw, hb1, h53a, c93]
      have n3' : (name == [102, 105, 108, 116, 101, 114]) = false := by simpa using n3
      by_cases n4 : name = [102, 105, 108, 116, 101, 114, 45, 111, 117, 116]
      · subst n4
        have hX : eachX [102, 105, 108, 116, 101, 114, 45, 111, 117, 116] a b w[i] = if anyL (wordsL a) w[i] = true then [] else w[i] := by simp [eachX]
        rw [hX]
        cases hany : anyL (wordsL a) w[i] with
        | true =>
          rw [hany] at c93
          simp [p0, p1, p2, p9, p10, p11, hi, hw, hb1, h53a, c93]
        | false =>
          rw [hany] at c93
          cases hz : (w[i] == []) <;> simp [p0, p1, p2, p9, p10, p11, hi, hw, hb1, h53a, c93, hz, bne]
      have n4' : (name == [102, 105, 108, 116, 101, 114, 45, 111, 117, 116]) = false := by simpa using n4
      by_cases n5 : name = [97, 100, 100, 115, 117, 102, 102, 105, 120]
      · subst n5
        have hX : eachX [97, 100, 100, 115, 117, 102, 102, 105, 120] a b w[i] = w[i] ++ a := by simp [eachX]
        rw [hX]
        cases hz : (w[i] ++ a == []) <;> simp [p0, p1, p2, p9, p10, p11, hi, hw, hb1, L1, hz, bne]
      have n5' : (name == [97, 100, 100, 115, 117, 102, 102, 105, 120]) = false := by simpa using n5
      by_cases n6 : name = [97, 100, 100, 112, 114, 101, 102, 105, 120]
      · subst n6
        have hX : eachX [97, 100, 100, 112, 114, 101, 102, 105, 120] a b w[i] = a ++ w[i] := by simp [eachX]
        rw [hX]
        cases hz : (a ++ w[i] == []) <;> simp [p0, p1, p2, p9, p10, p11, hi, hw, hb1, L2, hz, bne]
      have n6' : (name == [97, 100, 100, 112, 114, 101, 102, 105, 120]) = false := by simpa using n6
      have hX : eachX name a b w[i] = partL name w[i] := by simp [eachX, n1, n2, n3, n4, n5, n6]
      rw [hX]
      generalize partL name w[i] = y at *
      cases hz : (y == []) <;> simp [p0, p1, p2, p9, p10, p11, hi, hw, hb1, c94, n1', n2', n3', n4', n5', n6', hz, bne])
    (fun pf h => by
      obtain ⟨p0, p1, p2, p9, p10, p11⟩ := h
      simp [p0, p1, p2, p9, p10, p11]) w.length 0 n _ r (by omega) hI (by simp [eachL]) (by omega)
  obtain ⟨p0, p1, p2, p9, p10, p11⟩ := h
  rw [List.take_length] at p10
  simp [p10]

end Go.Proofs.YtmcfnnpihlediaaGreatDoor.Ex

/- The document's answers are those of the program. -/
namespace Go.Proofs.YtmcfnnpihlediaaGreatDoor.Ex
open Go
attribute [-simp] rgn rgnD exec_seq exec_cond exec_block

theorem eachK_strip {a b w : Str} (h : w ≠ []) : eachK [115, 116, 114, 105, 112] a b w = [w] := by simp [eachK, eachX, h]
theorem each_strip {a b : Str} : ∀ {l : List Str}, (∀ w ∈ l, w ≠ []) → eachL [115, 116, 114, 105, 112] a b l = l
  | [], _ => rfl
  | x :: l, h => by
    have ih := each_strip (a := a) (b := b) (l := l) (fun w hw => h w (by simp [hw]))
    simp only [eachL, List.flatMap_cons] at ih ⊢
    rw [ih, eachK_strip (h x (by simp))]; rfl
theorem each_keep {name a b : Str} {g : Str → Str × Bool} : ∀ {l : List Str}, (∀ w ∈ l, eachK name a b w = keepL g w) → eachL name a b l = l.flatMap (keepL g)
  | [], _ => rfl
  | x :: l, h => by
    have ih := each_keep (l := l) (fun w hw => h w (by simp [hw]))
    simp only [eachL, List.flatMap_cons] at ih ⊢
    rw [ih, h x (by simp)]
theorem someG_sub (a b : Nat) : ∀ (l : List Str) (i : Nat), List.Sublist (someG a b i l) l
  | [], _ => by simp [someG]
  | x :: r, i => by
    have ih := someG_sub a b r (i + 1)
    rw [someG]; split
    · exact ih.cons_cons x
    · exact ih.cons x

theorem bnd_keep {g : Str → Str × Bool} {t : Str} (ht : t.length ≤ 4000) (h : ∀ w ∈ wordsL t, (g w).1.length ≤ w.length + 4010) : sumLen ((wordsL t).flatMap (keepL g)) + ((wordsL t).flatMap (keepL g)).length ≤ 40000000 := by
  have h1 := keep_sum g 4010 (wordsL t) h
  have h2 := wordsL_sum t
  have h3 := wordsL_len t
  have h4 : 4010 * (wordsL t).length ≤ 4010 * 4001 := Nat.mul_le_mul (by omega) (by omega)
  omega
theorem bnd_sub {l : List Str} {t : Str} (ht : t.length ≤ 4000) (h : List.Sublist l (wordsL t)) : sumLen l + l.length ≤ 40000000 := by
  have h1 := sumLen_sub h
  have h2 := wordsL_sum t
  omega

section
variable [XX] {n : Nat}
theorem r25 (hn : 43000000 < n) (l : List Str) (hb : sumLen l + l.length ≤ 40000000) : callP (F n) (.f 99) [.sl 1 (l.map .str)] = some (.str (joinL [32] l)) := by
  obtain ⟨m, rfl⟩ : ∃ m, n = m + 1 := ⟨n - 1, by omega⟩
  exact cp25 m l hb (by omega)
theorem r53 (hn : 43000000 < n) (t : Str) (h : t.length ≤ 5000) : callP (F n) (.f 59) [.str t] = some (.sl 1 ((wordsL t).map .str)) := by
  obtain ⟨m, rfl⟩ : ∃ m, n = m + 1 := ⟨n - 1, by omega⟩
  exact cp53 m t (by omega) (by omega)
theorem r54 (hn : 43000000 < n) (a b t : Str) (h1 : a.length ≤ 5000) (h2 : b.length ≤ 5000) (h3 : t.length ≤ 5000) : callP (F n) (.f 156) [.str a, .str b, .str t] = some (.str (if a = [] then t else repL a b t)) := by
  obtain ⟨m, rfl⟩ : ∃ m, n = m + 1 := ⟨n - 1, by omega⟩
  exact cp54 m a b t h1 h2 h3 (by omega)
theorem r55 (hn : 43000000 < n) (name a b t : Str) (h1 : a.length ≤ 5000) (h2 : b.length ≤ 5000) (h3 : t.length ≤ 5000) : callP (F n) (.f 157) [.str name, .str a, .str b, .str t] = some (.sl 1 ((eachL name a b (wordsL t)).map .str)) := by
  obtain ⟨m, rfl⟩ : ∃ m, n = m + 1 := ⟨n - 1, by omega⟩
  exact cp55 m name a b t h1 h2 h3 (by omega)
theorem r56 (hn : 43000000 < n) (a t : Str) (h1 : a.length ≤ 5000) (h3 : t.length ≤ 5000) : callP (F n) (.f 158) [.str a, .str t] = some (.bool (hasSub a t)) := by
  obtain ⟨m, rfl⟩ : ∃ m, n = m + 1 := ⟨n - 1, by omega⟩
  exact cp56 m a t (by omega) (by omega) (by omega)
theorem r57 (hn : 43000000 < n) (w : List Str) (h : w.length ≤ 10000) : callP (F n) (.f 159) [.sl 1 (w.map .str)] = some (.sl 1 ((sortU w).map .str)) := by
  obtain ⟨m, rfl⟩ : ∃ m, n = m + 1 := ⟨n - 1, by omega⟩
  exact cp57 m w (by omega) (by omega)
theorem r58 (hn : 43000000 < n) (s : Str) (least : Int) (h : s.length ≤ 5000) : callP (F n) (.f 160) [.str s, .int .i64 least] = some (.tup [.int .i64 (numberL s least).1, .bool (numberL s least).2]) := by
  obtain ⟨m, rfl⟩ : ∃ m, n = m + 1 := ⟨n - 1, by omega⟩
  exact cp58 m s least (by omega) (by omega)
theorem r59 (hn : 43000000 < n) (a b : Nat) (t : Str) (h : t.length ≤ 5000) : callP (F n) (.f 161) [.int .i64 a, .int .i64 b, .str t] = some (.sl 1 ((someG a b 0 (wordsL t)).map .str)) := by
  obtain ⟨m, rfl⟩ : ∃ m, n = m + 1 := ⟨n - 1, by omega⟩
  exact cp59 m a b t (by omega) (by omega)
theorem r60 (hn : 43000000 < n) (k : Nat) (h : k ≤ 10000) : callP (F n) (.f 162) [.int .i64 k] = some (.str (decL k)) := by
  obtain ⟨m, rfl⟩ : ∃ m, n = m + 1 := ⟨n - 1, by omega⟩
  exact cp60 m k (by omega) (by omega)
theorem r61 (hn : 43000000 < n) (s t : Str) (h1 : s.length ≤ 5000) (h2 : t.length ≤ 5000) : callP (F n) (.f 163) [.str s, .str t] = some (.sl 1 ((zipAdd (wordsL s) (wordsL t)).map .str)) := by
  obtain ⟨m, rfl⟩ : ∃ m, n = m + 1 := ⟨n - 1, by omega⟩
  exact cp61 m s t (by omega) (by omega) (by omega)

end

theorem wr0 : IntKind.wrap .i64 0 = 0 := wrap64 (by omega) (by omega)
theorem wr1 : IntKind.wrap .i64 1 = 1 := wrap64 (by omega) (by omega)
theorem wr2 : IntKind.wrap .i64 2 = 2 := wrap64 (by omega) (by omega)

theorem num_ok {s : Str} {least : Int} (h : (numberL s least).2 = true) : least ≤ ((numberL s least).1 : Int) := by
  simp only [numberL, Bool.and_eq_true, decide_eq_true_eq] at h ⊢
  exact h.2

set_option maxHeartbeats 4000000 in
theorem ans_strip [XX] (n : Nat) (hn : 43000000 < n) (t : Str) (ht : t.length ≤ 4000) : ∃ y, CP (F (n + 1)) 120 [.str [115, 116, 114, 105, 112], .sl 1 [.str t]] (.tup [.str y, .bool (ansL [115, 116, 114, 105, 112] [t]).2]) ∧ ((ansL [115, 116, 114, 105, 112] [t]).2 = true → y = (ansL [115, 116, 114, 105, 112] [t]).1) := by
  have h53 := r53 hn t (by omega)
  have hne : ∀ w ∈ wordsL t, w ≠ [] := fun w hw => (okW_iff.1 (wordsL_okW t w hw)).1
  have h55 := r55 hn [115, 116, 114, 105, 112] t [] t (by omega) (by simp) (by omega)
  rw [each_strip hne] at h55
  have h25 := r25 hn (wordsL t) (bnd_sub ht (List.Sublist.refl _))
  have hans : ansL [115, 116, 114, 105, 112] [t] = (joinL [32] (wordsL t), true) := by simp [ansL, oneL]
  rw [hans]
  refine ⟨joinL [32] (wordsL t), F_cp (rs := [.str (joinL [32] (wordsL t)), .bool true]) (S := []) rfl rfl ?_, fun _ => rfl⟩
  rw [F_fn rfl rfl rfl Tryz.func120 rfl]
  simp [runFn, Tryz.f120, wr0, wr1, wr2, h53, h55, h25]

set_option maxHeartbeats 4000000 in
theorem ans_sort [XX] (n : Nat) (hn : 43000000 < n) (t : Str) (ht : t.length ≤ 4000) : ∃ y, CP (F (n + 1)) 120 [.str [115, 111, 114, 116], .sl 1 [.str t]] (.tup [.str y, .bool (ansL [115, 111, 114, 116] [t]).2]) ∧ ((ansL [115, 111, 114, 116] [t]).2 = true → y = (ansL [115, 111, 114, 116] [t]).1) := by
  have h53 := r53 hn t (by omega)
  have hl := wordsL_len t
  have h57 := r57 hn (wordsL t) (by omega)
  have h25 := r25 hn (sortU (wordsL t)) (by have := sortU_sum (wordsL t); have := wordsL_sum t; omega)
  have hans : ansL [115, 111, 114, 116] [t] = (joinL [32] (sortU (wordsL t)), true) := by simp [ansL, oneL]
  rw [hans]
  refine ⟨joinL [32] (sortU (wordsL t)), F_cp (rs := [.str (joinL [32] (sortU (wordsL t))), .bool true]) (S := []) rfl rfl ?_, fun _ => rfl⟩
  rw [F_fn rfl rfl rfl Tryz.func120 rfl]
  simp [runFn, Tryz.f120, wr0, wr1, wr2, h53, h57, h25]

set_option maxHeartbeats 4000000 in
theorem ans_words [XX] (n : Nat) (hn : 43000000 < n) (t : Str) (ht : t.length ≤ 4000) : ∃ y, CP (F (n + 1)) 120 [.str [119, 111, 114, 100, 115], .sl 1 [.str t]] (.tup [.str y, .bool (ansL [119, 111, 114, 100, 115] [t]).2]) ∧ ((ansL [119, 111, 114, 100, 115] [t]).2 = true → y = (ansL [119, 111, 114, 100, 115] [t]).1) := by
  have h53 := r53 hn t (by omega)
  have hl := wordsL_len t
  have h60 := r60 hn (wordsL t).length (by omega)
  have hans : ansL [119, 111, 114, 100, 115] [t] = (decL (wordsL t).length, true) := by simp [ansL, oneL]
  rw [hans]
  refine ⟨decL (wordsL t).length, F_cp (rs := [.str (decL (wordsL t).length), .bool true]) (S := []) rfl rfl ?_, fun _ => rfl⟩
  rw [F_fn rfl rfl rfl Tryz.func120 rfl]
  simp [runFn, Tryz.f120, wr0, wr1, wr2, h53, h60]

set_option maxHeartbeats 4000000 in
theorem ans_firstword [XX] (n : Nat) (hn : 43000000 < n) (t : Str) (ht : t.length ≤ 4000) : ∃ y, CP (F (n + 1)) 120 [.str [102, 105, 114, 115, 116, 119, 111, 114, 100], .sl 1 [.str t]] (.tup [.str y, .bool (ansL [102, 105, 114, 115, 116, 119, 111, 114, 100] [t]).2]) ∧ ((ansL [102, 105, 114, 115, 116, 119, 111, 114, 100] [t]).2 = true → y = (ansL [102, 105, 114, 115, 116, 119, 111, 114, 100] [t]).1) := by
  have h53 := r53 hn t (by omega)
  have h59 := r59 hn 1 1 t (by omega)
  have h59 : callP (F n) (.f 161) [.int .i64 1, .int .i64 1, .str t] = _ := h59
  have h25 := r25 hn (someG 1 1 0 (wordsL t)) (bnd_sub ht (someG_sub _ _ _ _))
  rw [some_span (wordsL t) 1 1 (.inl (Nat.le_refl _))] at h25
  have hans : ansL [102, 105, 114, 115, 116, 119, 111, 114, 100] [t] = (spanL (wordsL t) ((1 : Nat) : Int) ((1 : Nat) : Int), true) := by simp [ansL, oneL]
  rw [hans]
  refine ⟨spanL (wordsL t) ((1 : Nat) : Int) ((1 : Nat) : Int), F_cp (rs := [.str (spanL (wordsL t) ((1 : Nat) : Int) ((1 : Nat) : Int)), .bool true]) (S := []) rfl rfl ?_, fun _ => rfl⟩
  rw [F_fn rfl rfl rfl Tryz.func120 rfl]
  simp [runFn, Tryz.f120, wr0, wr1, wr2, h53, h59, h25]

set_option maxHeartbeats 4000000 in
theorem ans_lastword [XX] (n : Nat) (hn : 43000000 < n) (t : Str) (ht : t.length ≤ 4000) : ∃ y, CP (F (n + 1)) 120 [.str [108, 97, 115, 116, 119, 111, 114, 100], .sl 1 [.str t]] (.tup [.str y, .bool (ansL [108, 97, 115, 116, 119, 111, 114, 100] [t]).2]) ∧ ((ansL [108, 97, 115, 116, 119, 111, 114, 100] [t]).2 = true → y = (ansL [108, 97, 115, 116, 119, 111, 114, 100] [t]).1) := by
  have h53 := r53 hn t (by omega)
  have h59 := r59 hn (wordsL t).length (wordsL t).length t (by omega)
  have h25 := r25 hn (someG (wordsL t).length (wordsL t).length 0 (wordsL t)) (bnd_sub ht (someG_sub _ _ _ _))
  rw [some_span (wordsL t) (wordsL t).length (wordsL t).length (by by_cases h : wordsL t = []; exact .inr h; exact .inl (List.length_pos_iff.2 h))] at h25
  have hans : ansL [108, 97, 115, 116, 119, 111, 114, 100] [t] = (spanL (wordsL t) (((wordsL t).length : Nat) : Int) (((wordsL t).length : Nat) : Int), true) := by simp [ansL, oneL]
  rw [hans]
  refine ⟨spanL (wordsL t) (((wordsL t).length : Nat) : Int) (((wordsL t).length : Nat) : Int), F_cp (rs := [.str (spanL (wordsL t) (((wordsL t).length : Nat) : Int) (((wordsL t).length : Nat) : Int)), .bool true]) (S := []) rfl rfl ?_, fun _ => rfl⟩
  rw [F_fn rfl rfl rfl Tryz.func120 rfl]
  simp [runFn, Tryz.f120, wr0, wr1, wr2, h53, h59, h25]

set_option maxHeartbeats 4000000 in
theorem ans_dir [XX] (n : Nat) (hn : 43000000 < n) (t : Str) (ht : t.length ≤ 4000) : ∃ y, CP (F (n + 1)) 120 [.str [100, 105, 114], .sl 1 [.str t]] (.tup [.str y, .bool (ansL [100, 105, 114] [t]).2]) ∧ ((ansL [100, 105, 114] [t]).2 = true → y = (ansL [100, 105, 114] [t]).1) := by
  have h53 := r53 hn t (by omega)
  have hne : ∀ w ∈ wordsL t, w ≠ [] := fun w hw => (okW_iff.1 (wordsL_okW t w hw)).1
  have h55 := r55 hn [100, 105, 114] t [] t (by omega) (by simp) (by omega)
  rw [each_keep (g := gPart [100, 105, 114]) (fun w hw => by simp [eachK, eachX, keepL, gPart])] at h55
  have h25 := r25 hn ((wordsL t).flatMap (keepL (gPart [100, 105, 114]))) (bnd_keep ht fun w hw => by have h1 := partL_len [100, 105, 114] w; have h2 := wordsL_mem t w hw; show (partL [100, 105, 114] w).length ≤ _; omega)
  have hans : ansL [100, 105, 114] [t] = (joinL [32] ((wordsL t).flatMap (keepL (gPart [100, 105, 114]))), true) := by simp [ansL, oneL, told_eq]
  rw [hans]
  refine ⟨joinL [32] ((wordsL t).flatMap (keepL (gPart [100, 105, 114]))), F_cp (rs := [.str (joinL [32] ((wordsL t).flatMap (keepL (gPart [100, 105, 114])))), .bool true]) (S := []) rfl rfl ?_, fun _ => rfl⟩
  rw [F_fn rfl rfl rfl Tryz.func120 rfl]
  simp [runFn, Tryz.f120, wr0, wr1, wr2, h53, h55, h25]

set_option maxHeartbeats 4000000 in
theorem ans_notdir [XX] (n : Nat) (hn : 43000000 < n) (t : Str) (ht : t.length ≤ 4000) : ∃ y, CP (F (n + 1)) 120 [.str [110, 111, 116, 100, 105, 114], .sl 1 [.str t]] (.tup [.str y, .bool (ansL [110, 111, 116, 100, 105, 114] [t]).2]) ∧ ((ansL [110, 111, 116, 100, 105, 114] [t]).2 = true → y = (ansL [110, 111, 116, 100, 105, 114] [t]).1) := by
  have h53 := r53 hn t (by omega)
  have hne : ∀ w ∈ wordsL t, w ≠ [] := fun w hw => (okW_iff.1 (wordsL_okW t w hw)).1
  have h55 := r55 hn [110, 111, 116, 100, 105, 114] t [] t (by omega) (by simp) (by omega)
  rw [each_keep (g := gPart [110, 111, 116, 100, 105, 114]) (fun w hw => by simp [eachK, eachX, keepL, gPart])] at h55
  have h25 := r25 hn ((wordsL t).flatMap (keepL (gPart [110, 111, 116, 100, 105, 114]))) (bnd_keep ht fun w hw => by have h1 := partL_len [110, 111, 116, 100, 105, 114] w; have h2 := wordsL_mem t w hw; show (partL [110, 111, 116, 100, 105, 114] w).length ≤ _; omega)
  have hans : ansL [110, 111, 116, 100, 105, 114] [t] = (joinL [32] ((wordsL t).flatMap (keepL (gPart [110, 111, 116, 100, 105, 114]))), true) := by simp [ansL, oneL, told_eq]
  rw [hans]
  refine ⟨joinL [32] ((wordsL t).flatMap (keepL (gPart [110, 111, 116, 100, 105, 114]))), F_cp (rs := [.str (joinL [32] ((wordsL t).flatMap (keepL (gPart [110, 111, 116, 100, 105, 114])))), .bool true]) (S := []) rfl rfl ?_, fun _ => rfl⟩
  rw [F_fn rfl rfl rfl Tryz.func120 rfl]
  simp [runFn, Tryz.f120, wr0, wr1, wr2, h53, h55, h25]

set_option maxHeartbeats 4000000 in
theorem ans_suffix [XX] (n : Nat) (hn : 43000000 < n) (t : Str) (ht : t.length ≤ 4000) : ∃ y, CP (F (n + 1)) 120 [.str [115, 117, 102, 102, 105, 120], .sl 1 [.str t]] (.tup [.str y, .bool (ansL [115, 117, 102, 102, 105, 120] [t]).2]) ∧ ((ansL [115, 117, 102, 102, 105, 120] [t]).2 = true → y = (ansL [115, 117, 102, 102, 105, 120] [t]).1) := by
  have h53 := r53 hn t (by omega)
  have hne : ∀ w ∈ wordsL t, w ≠ [] := fun w hw => (okW_iff.1 (wordsL_okW t w hw)).1
  have h55 := r55 hn [115, 117, 102, 102, 105, 120] t [] t (by omega) (by simp) (by omega)
  rw [each_keep (g := gPart [115, 117, 102, 102, 105, 120]) (fun w hw => by simp [eachK, eachX, keepL, gPart])] at h55
  have h25 := r25 hn ((wordsL t).flatMap (keepL (gPart [115, 117, 102, 102, 105, 120]))) (bnd_keep ht fun w hw => by have h1 := partL_len [115, 117, 102, 102, 105, 120] w; have h2 := wordsL_mem t w hw; show (partL [115, 117, 102, 102, 105, 120] w).length ≤ _; omega)
  have hans : ansL [115, 117, 102, 102, 105, 120] [t] = (joinL [32] ((wordsL t).flatMap (keepL (gPart [115, 117, 102, 102, 105, 120]))), true) := by simp [ansL, oneL, told_eq]
  rw [hans]
  refine ⟨joinL [32] ((wordsL t).flatMap (keepL (gPart [115, 117, 102, 102, 105, 120]))), F_cp (rs := [.str (joinL [32] ((wordsL t).flatMap (keepL (gPart [115, 117, 102, 102, 105, 120])))), .bool true]) (S := []) rfl rfl ?_, fun _ => rfl⟩
  rw [F_fn rfl rfl rfl Tryz.func120 rfl]
  simp [runFn, Tryz.f120, wr0, wr1, wr2, h53, h55, h25]

set_option maxHeartbeats 4000000 in
theorem ans_basename [XX] (n : Nat) (hn : 43000000 < n) (t : Str) (ht : t.length ≤ 4000) : ∃ y, CP (F (n + 1)) 120 [.str [98, 97, 115, 101, 110, 97, 109, 101], .sl 1 [.str t]] (.tup [.str y, .bool (ansL [98, 97, 115, 101, 110, 97, 109, 101] [t]).2]) ∧ ((ansL [98, 97, 115, 101, 110, 97, 109, 101] [t]).2 = true → y = (ansL [98, 97, 115, 101, 110, 97, 109, 101] [t]).1) := by
  have h53 := r53 hn t (by omega)
  have hne : ∀ w ∈ wordsL t, w ≠ [] := fun w hw => (okW_iff.1 (wordsL_okW t w hw)).1
  have h55 := r55 hn [98, 97, 115, 101, 110, 97, 109, 101] t [] t (by omega) (by simp) (by omega)
  rw [each_keep (g := gPart [98, 97, 115, 101, 110, 97, 109, 101]) (fun w hw => by simp [eachK, eachX, keepL, gPart])] at h55
  have h25 := r25 hn ((wordsL t).flatMap (keepL (gPart [98, 97, 115, 101, 110, 97, 109, 101]))) (bnd_keep ht fun w hw => by have h1 := partL_len [98, 97, 115, 101, 110, 97, 109, 101] w; have h2 := wordsL_mem t w hw; show (partL [98, 97, 115, 101, 110, 97, 109, 101] w).length ≤ _; omega)
  have hans : ansL [98, 97, 115, 101, 110, 97, 109, 101] [t] = (joinL [32] ((wordsL t).flatMap (keepL (gPart [98, 97, 115, 101, 110, 97, 109, 101]))), true) := by simp [ansL, oneL, told_eq]
  rw [hans]
  refine ⟨joinL [32] ((wordsL t).flatMap (keepL (gPart [98, 97, 115, 101, 110, 97, 109, 101]))), F_cp (rs := [.str (joinL [32] ((wordsL t).flatMap (keepL (gPart [98, 97, 115, 101, 110, 97, 109, 101])))), .bool true]) (S := []) rfl rfl ?_, fun _ => rfl⟩
  rw [F_fn rfl rfl rfl Tryz.func120 rfl]
  simp [runFn, Tryz.f120, wr0, wr1, wr2, h53, h55, h25]

set_option maxHeartbeats 4000000 in
theorem ans_findstring [XX] (n : Nat) (hn : 43000000 < n) (a t : Str) (ha : a.length ≤ 4000) (ht : t.length ≤ 4000) : ∃ y, CP (F (n + 1)) 120 [.str [102, 105, 110, 100, 115, 116, 114, 105, 110, 103], .sl 1 [.str a, .str t]] (.tup [.str y, .bool (ansL [102, 105, 110, 100, 115, 116, 114, 105, 110, 103] [a, t]).2]) ∧ ((ansL [102, 105, 110, 100, 115, 116, 114, 105, 110, 103] [a, t]).2 = true → y = (ansL [102, 105, 110, 100, 115, 116, 114, 105, 110, 103] [a, t]).1) := by
  have h53 := r53 hn t (by omega)
  have h56 := r56 hn a t (by omega) (by omega)
  have hans : ansL [102, 105, 110, 100, 115, 116, 114, 105, 110, 103] [a, t] = (if hasSub a t = true then a else [], true) := by simp only [ansL, twoL, if_true]; split <;> rfl
  rw [hans]
  refine ⟨if hasSub a t = true then a else [], F_cp (rs := [.str (if hasSub a t = true then a else []), .bool true]) (S := []) rfl rfl ?_, fun _ => rfl⟩
  rw [F_fn rfl rfl rfl Tryz.func120 rfl]
  cases hb : hasSub a t with
  | true => rw [hb] at h56; simp [runFn, Tryz.f120, wr0, wr1, wr2, h53, h56]
  | false =>
  rw [hb] at h56
  simp [runFn, Tryz.f120, wr0, wr1, wr2, h53, h56]

set_option maxHeartbeats 4000000 in
theorem ans_filter [XX] (n : Nat) (hn : 43000000 < n) (a t : Str) (ha : a.length ≤ 4000) (ht : t.length ≤ 4000) : ∃ y, CP (F (n + 1)) 120 [.str [102, 105, 108, 116, 101, 114], .sl 1 [.str a, .str t]] (.tup [.str y, .bool (ansL [102, 105, 108, 116, 101, 114] [a, t]).2]) ∧ ((ansL [102, 105, 108, 116, 101, 114] [a, t]).2 = true → y = (ansL [102, 105, 108, 116, 101, 114] [a, t]).1) := by
  have h53 := r53 hn t (by omega)
  have hne : ∀ w ∈ wordsL t, w ≠ [] := fun w hw => (okW_iff.1 (wordsL_okW t w hw)).1
  have h55 := r55 hn [102, 105, 108, 116, 101, 114] a [] t (by omega) (by simp) (by omega)
  rw [each_keep (g := gFil (wordsL a) true) (fun w hw => by cases h : anyL (wordsL a) w <;> simp [eachK, eachX, keepL, gFil, h, hne w hw])] at h55
  have h25 := r25 hn ((wordsL t).flatMap (keepL (gFil (wordsL a) true))) (bnd_keep ht fun w hw => by simp [gFil, gSuf, gPre] <;> omega)
  have hans : ansL [102, 105, 108, 116, 101, 114] [a, t] = (joinL [32] ((wordsL t).flatMap (keepL (gFil (wordsL a) true))), true) := by simp [ansL, twoL, told_eq]
  rw [hans]
  refine ⟨joinL [32] ((wordsL t).flatMap (keepL (gFil (wordsL a) true))), F_cp (rs := [.str (joinL [32] ((wordsL t).flatMap (keepL (gFil (wordsL a) true)))), .bool true]) (S := []) rfl rfl ?_, fun _ => rfl⟩
  rw [F_fn rfl rfl rfl Tryz.func120 rfl]
  simp [runFn, Tryz.f120, wr0, wr1, wr2, h53, h55, h25]

set_option maxHeartbeats 4000000 in
theorem ans_filterout [XX] (n : Nat) (hn : 43000000 < n) (a t : Str) (ha : a.length ≤ 4000) (ht : t.length ≤ 4000) : ∃ y, CP (F (n + 1)) 120 [.str [102, 105, 108, 116, 101, 114, 45, 111, 117, 116], .sl 1 [.str a, .str t]] (.tup [.str y, .bool (ansL [102, 105, 108, 116, 101, 114, 45, 111, 117, 116] [a, t]).2]) ∧ ((ansL [102, 105, 108, 116, 101, 114, 45, 111, 117, 116] [a, t]).2 = true → y = (ansL [102, 105, 108, 116, 101, 114, 45, 111, 117, 116] [a, t]).1) := by
  have h53 := r53 hn t (by omega)
  have hne : ∀ w ∈ wordsL t, w ≠ [] := fun w hw => (okW_iff.1 (wordsL_okW t w hw)).1
  have h55 := r55 hn [102, 105, 108, 116, 101, 114, 45, 111, 117, 116] a [] t (by omega) (by simp) (by omega)
  rw [each_keep (g := gFil (wordsL a) false) (fun w hw => by cases h : anyL (wordsL a) w <;> simp [eachK, eachX, keepL, gFil, h, hne w hw])] at h55
  have h25 := r25 hn ((wordsL t).flatMap (keepL (gFil (wordsL a) false))) (bnd_keep ht fun w hw => by simp [gFil, gSuf, gPre] <;> omega)
  have hans : ansL [102, 105, 108, 116, 101, 114, 45, 111, 117, 116] [a, t] = (joinL [32] ((wordsL t).flatMap (keepL (gFil (wordsL a) false))), true) := by simp [ansL, twoL, told_eq]
  rw [hans]
  refine ⟨joinL [32] ((wordsL t).flatMap (keepL (gFil (wordsL a) false))), F_cp (rs := [.str (joinL [32] ((wordsL t).flatMap (keepL (gFil (wordsL a) false)))), .bool true]) (S := []) rfl rfl ?_, fun _ => rfl⟩
  rw [F_fn rfl rfl rfl Tryz.func120 rfl]
  simp [runFn, Tryz.f120, wr0, wr1, wr2, h53, h55, h25]

set_option maxHeartbeats 4000000 in
theorem ans_word [XX] (n : Nat) (hn : 43000000 < n) (a t : Str) (ha : a.length ≤ 4000) (ht : t.length ≤ 4000) : ∃ y, CP (F (n + 1)) 120 [.str [119, 111, 114, 100], .sl 1 [.str a, .str t]] (.tup [.str y, .bool (ansL [119, 111, 114, 100] [a, t]).2]) ∧ ((ansL [119, 111, 114, 100] [a, t]).2 = true → y = (ansL [119, 111, 114, 100] [a, t]).1) := by
  have h53 := r53 hn t (by omega)
  have h58 := r58 hn a 1 (by omega)
  have h59 := r59 hn (numberL a 1).1 (numberL a 1).1 t (by omega)
  have h25 := r25 hn (someG (numberL a 1).1 (numberL a 1).1 0 (wordsL t)) (bnd_sub ht (someG_sub _ _ _ _))
  have hans : ansL [119, 111, 114, 100] [a, t] = (spanL (wordsL t) (numberL a 1).1 (numberL a 1).1, (numberL a 1).2) := by simp [ansL, twoL]
  have hok := num_ok (s := a) (least := 1)
  have hsp := fun h => some_span (wordsL t) (numberL a 1).1 (numberL a 1).1 (.inl h)
  rw [hans]
  generalize numberL a 1 = nb at *
  obtain ⟨k, ok⟩ := nb
  simp only at h58 h59 h25 hok hsp ⊢
  refine ⟨joinL [32] (someG k k 0 (wordsL t)), F_cp (rs := [.str (joinL [32] (someG k k 0 (wordsL t))), .bool ok]) (S := []) rfl rfl ?_, fun h => hsp (by have := hok h; omega)⟩
  rw [F_fn rfl rfl rfl Tryz.func120 rfl]
  simp [runFn, Tryz.f120, wr0, wr1, wr2, h53, h58, h59, h25]

set_option maxHeartbeats 4000000 in
theorem ans_addsuffix [XX] (n : Nat) (hn : 43000000 < n) (a t : Str) (ha : a.length ≤ 4000) (ht : t.length ≤ 4000) : ∃ y, CP (F (n + 1)) 120 [.str [97, 100, 100, 115, 117, 102, 102, 105, 120], .sl 1 [.str a, .str t]] (.tup [.str y, .bool (ansL [97, 100, 100, 115, 117, 102, 102, 105, 120] [a, t]).2]) ∧ ((ansL [97, 100, 100, 115, 117, 102, 102, 105, 120] [a, t]).2 = true → y = (ansL [97, 100, 100, 115, 117, 102, 102, 105, 120] [a, t]).1) := by
  have h53 := r53 hn t (by omega)
  have hne : ∀ w ∈ wordsL t, w ≠ [] := fun w hw => (okW_iff.1 (wordsL_okW t w hw)).1
  have h55 := r55 hn [97, 100, 100, 115, 117, 102, 102, 105, 120] a [] t (by omega) (by simp) (by omega)
  rw [each_keep (g := gSuf a) (fun w hw => by simp [eachK, eachX, keepL, gSuf, hne w hw])] at h55
  have h25 := r25 hn ((wordsL t).flatMap (keepL (gSuf a))) (bnd_keep ht fun w hw => by simp [gFil, gSuf, gPre] <;> omega)
  have hans : ansL [97, 100, 100, 115, 117, 102, 102, 105, 120] [a, t] = (joinL [32] ((wordsL t).flatMap (keepL (gSuf a))), true) := by simp [ansL, twoL, told_eq]
  rw [hans]
  refine ⟨joinL [32] ((wordsL t).flatMap (keepL (gSuf a))), F_cp (rs := [.str (joinL [32] ((wordsL t).flatMap (keepL (gSuf a)))), .bool true]) (S := []) rfl rfl ?_, fun _ => rfl⟩
  rw [F_fn rfl rfl rfl Tryz.func120 rfl]
  simp [runFn, Tryz.f120, wr0, wr1, wr2, h53, h55, h25]

set_option maxHeartbeats 4000000 in
theorem ans_addprefix [XX] (n : Nat) (hn : 43000000 < n) (a t : Str) (ha : a.length ≤ 4000) (ht : t.length ≤ 4000) : ∃ y, CP (F (n + 1)) 120 [.str [97, 100, 100, 112, 114, 101, 102, 105, 120], .sl 1 [.str a, .str t]] (.tup [.str y, .bool (ansL [97, 100, 100, 112, 114, 101, 102, 105, 120] [a, t]).2]) ∧ ((ansL [97, 100, 100, 112, 114, 101, 102, 105, 120] [a, t]).2 = true → y = (ansL [97, 100, 100, 112, 114, 101, 102, 105, 120] [a, t]).1) := by
  have h53 := r53 hn t (by omega)
  have hne : ∀ w ∈ wordsL t, w ≠ [] := fun w hw => (okW_iff.1 (wordsL_okW t w hw)).1
  have h55 := r55 hn [97, 100, 100, 112, 114, 101, 102, 105, 120] a [] t (by omega) (by simp) (by omega)
  rw [each_keep (g := gPre a) (fun w hw => by simp [eachK, eachX, keepL, gPre, hne w hw])] at h55
  have h25 := r25 hn ((wordsL t).flatMap (keepL (gPre a))) (bnd_keep ht fun w hw => by simp [gFil, gSuf, gPre] <;> omega)
  have hans : ansL [97, 100, 100, 112, 114, 101, 102, 105, 120] [a, t] = (joinL [32] ((wordsL t).flatMap (keepL (gPre a))), true) := by simp [ansL, twoL, told_eq]
  rw [hans]
  refine ⟨joinL [32] ((wordsL t).flatMap (keepL (gPre a))), F_cp (rs := [.str (joinL [32] ((wordsL t).flatMap (keepL (gPre a)))), .bool true]) (S := []) rfl rfl ?_, fun _ => rfl⟩
  rw [F_fn rfl rfl rfl Tryz.func120 rfl]
  simp [runFn, Tryz.f120, wr0, wr1, wr2, h53, h55, h25]

set_option maxHeartbeats 4000000 in
theorem ans_join [XX] (n : Nat) (hn : 43000000 < n) (a t : Str) (ha : a.length ≤ 4000) (ht : t.length ≤ 4000) : ∃ y, CP (F (n + 1)) 120 [.str [106, 111, 105, 110], .sl 1 [.str a, .str t]] (.tup [.str y, .bool (ansL [106, 111, 105, 110] [a, t]).2]) ∧ ((ansL [106, 111, 105, 110] [a, t]).2 = true → y = (ansL [106, 111, 105, 110] [a, t]).1) := by
  have h53 := r53 hn t (by omega)
  have h61 := r61 hn a t (by omega) (by omega)
  have h25 := r25 hn (zipAdd (wordsL a) (wordsL t)) (by have h1 := zip_sum (wordsL a) (wordsL t); have := wordsL_sum a; have := wordsL_sum t; omega)
  have hans : ansL [106, 111, 105, 110] [a, t] = (joinL [32] (zipAdd (wordsL a) (wordsL t)), true) := by simp [ansL, twoL]
  rw [hans]
  refine ⟨joinL [32] (zipAdd (wordsL a) (wordsL t)), F_cp (rs := [.str (joinL [32] (zipAdd (wordsL a) (wordsL t))), .bool true]) (S := []) rfl rfl ?_, fun _ => rfl⟩
  rw [F_fn rfl rfl rfl Tryz.func120 rfl]
  simp [runFn, Tryz.f120, wr0, wr1, wr2, h53, h61, h25]

set_option maxHeartbeats 4000000 in
theorem ans_subst [XX] (n : Nat) (hn : 43000000 < n) (a b t : Str) (ha : a.length ≤ 4000) (hb : b.length ≤ 4000) (ht : t.length ≤ 4000) : ∃ y, CP (F (n + 1)) 120 [.str [115, 117, 98, 115, 116], .sl 1 [.str a, .str b, .str t]] (.tup [.str y, .bool (ansL [115, 117, 98, 115, 116] [a, b, t]).2]) ∧ ((ansL [115, 117, 98, 115, 116] [a, b, t]).2 = true → y = (ansL [115, 117, 98, 115, 116] [a, b, t]).1) := by
  have h53 := r53 hn t (by omega)
  have h54 := r54 hn a b t (by omega) (by omega) (by omega)
  have hans : ansL [115, 117, 98, 115, 116] [a, b, t] = (if a = [] then t else repL a b t, true) := by simp only [ansL, threeL, if_true]; split <;> rfl
  rw [hans]
  generalize (if a = [] then t else repL a b t) = y at *
  refine ⟨y, F_cp (rs := [.str (y), .bool true]) (S := []) rfl rfl ?_, fun _ => rfl⟩
  rw [F_fn rfl rfl rfl Tryz.func120 rfl]
  simp [runFn, Tryz.f120, wr0, wr1, wr2, h53, h54]

set_option maxHeartbeats 4000000 in
theorem ans_patsubst [XX] (n : Nat) (hn : 43000000 < n) (a b t : Str) (ha : a.length ≤ 4000) (hb : b.length ≤ 4000) (ht : t.length ≤ 4000) : ∃ y, CP (F (n + 1)) 120 [.str [112, 97, 116, 115, 117, 98, 115, 116], .sl 1 [.str a, .str b, .str t]] (.tup [.str y, .bool (ansL [112, 97, 116, 115, 117, 98, 115, 116] [a, b, t]).2]) ∧ ((ansL [112, 97, 116, 115, 117, 98, 115, 116] [a, b, t]).2 = true → y = (ansL [112, 97, 116, 115, 117, 98, 115, 116] [a, b, t]).1) := by
  have h53 := r53 hn t (by omega)
  have h55 := r55 hn [112, 97, 116, 115, 117, 98, 115, 116] a b t (by omega) (by omega) (by omega)
  rw [each_keep (g := gSub a b) (fun w hw => by simp [eachK, eachX, keepL, gSub])] at h55
  have h25 := r25 hn ((wordsL t).flatMap (keepL (gSub a b))) (bnd_keep ht fun w hw => by have := substL_len2 a b w; show (substL a b w).length ≤ _; omega)
  have hans : ansL [112, 97, 116, 115, 117, 98, 115, 116] [a, b, t] = (joinL [32] ((wordsL t).flatMap (keepL (gSub a b))), true) := by simp [ansL, threeL, told_eq]
  rw [hans]
  refine ⟨joinL [32] ((wordsL t).flatMap (keepL (gSub a b))), F_cp (rs := [.str (joinL [32] ((wordsL t).flatMap (keepL (gSub a b)))), .bool true]) (S := []) rfl rfl ?_, fun _ => rfl⟩
  rw [F_fn rfl rfl rfl Tryz.func120 rfl]
  simp [runFn, Tryz.f120, wr0, wr1, wr2, h53, h55, h25]

set_option maxHeartbeats 4000000 in
theorem ans_wordlist [XX] (n : Nat) (hn : 43000000 < n) (a b t : Str) (ha : a.length ≤ 4000) (hb : b.length ≤ 4000) (ht : t.length ≤ 4000) : ∃ y, CP (F (n + 1)) 120 [.str [119, 111, 114, 100, 108, 105, 115, 116], .sl 1 [.str a, .str b, .str t]] (.tup [.str y, .bool (ansL [119, 111, 114, 100, 108, 105, 115, 116] [a, b, t]).2]) ∧ ((ansL [119, 111, 114, 100, 108, 105, 115, 116] [a, b, t]).2 = true → y = (ansL [119, 111, 114, 100, 108, 105, 115, 116] [a, b, t]).1) := by
  have h53 := r53 hn t (by omega)
  have h58 := r58 hn a 1 (by omega)
  have h58b := r58 hn b 0 (by omega)
  have h59 := r59 hn (numberL a 1).1 (numberL b 0).1 t (by omega)
  have h25 := r25 hn (someG (numberL a 1).1 (numberL b 0).1 0 (wordsL t)) (bnd_sub ht (someG_sub _ _ _ _))
  have hans : ansL [119, 111, 114, 100, 108, 105, 115, 116] [a, b, t] = (spanL (wordsL t) (numberL a 1).1 (numberL b 0).1, (numberL a 1).2 && (numberL b 0).2) := by simp [ansL, threeL]
  have hok := num_ok (s := a) (least := 1)
  have hsp := fun h => some_span (wordsL t) (numberL a 1).1 (numberL b 0).1 (.inl h)
  rw [hans]
  generalize numberL a 1 = nb at *
  generalize numberL b 0 = nb2 at *
  obtain ⟨k, ok⟩ := nb
  obtain ⟨k2, ok2⟩ := nb2
  simp only at h58 h58b h59 h25 hok hsp ⊢
  refine ⟨joinL [32] (someG k k2 0 (wordsL t)), F_cp (rs := [.str (joinL [32] (someG k k2 0 (wordsL t))), .bool (ok && ok2)]) (S := []) rfl rfl ?_, fun h => hsp (by have := hok (by simp at h; exact h.1); omega)⟩
  rw [F_fn rfl rfl rfl Tryz.func120 rfl]
  cases ok <;>
  simp [runFn, Tryz.f120, wr0, wr1, wr2, h53, h58, h58b, h59, h25]

end Go.Proofs.YtmcfnnpihlediaaGreatDoor.Ex

/- How many arguments a function has, its answer, or what is wrong: the document's and the program's are one. -/
namespace Go.Proofs.YtmcfnnpihlediaaGreatDoor.Ex
open Go
attribute [-simp] rgn rgnD exec_seq exec_cond exec_block

theorem finL_ok {r : Str} (h : r.length ≤ 4000) : finL r true = (r, 0) := by
  have : ¬ 4000 < r.length := by omega
  simp [finL, this]

theorem cp29 [XX] (n : Nat) (hn : 43000000 < n) (name : Str) (args : List Str) (h0 : manyL name ≠ 0) (h1 : args.length = manyL name) (ha : ∀ a ∈ args, a.length ≤ 4000) :
    ∃ y, CP (F (n + 1)) 120 [.str name, .sl 1 (args.map .str)] (.tup [.str y, .bool (ansL name args).2]) ∧ ((ansL name args).2 = true → y = (ansL name args).1) := by
  unfold manyL at h0 h1
  split at h1
  · rename_i h
    obtain ⟨t, rfl⟩ := List.length_eq_one_iff.1 h1
    have ht := ha t (by simp)
    have hm : name ∈ ones := by simpa using h
    simp only [ones, List.mem_cons, List.not_mem_nil, or_false] at hm
    rcases hm with rfl | rfl | rfl | rfl | rfl | rfl | rfl | rfl | rfl
    · exact ans_strip n hn t ht
    · exact ans_sort n hn t ht
    · exact ans_words n hn t ht
    · exact ans_firstword n hn t ht
    · exact ans_lastword n hn t ht
    · exact ans_dir n hn t ht
    · exact ans_notdir n hn t ht
    · exact ans_suffix n hn t ht
    · exact ans_basename n hn t ht
  split at h1
  · rename_i h
    obtain ⟨a, t, rfl⟩ : ∃ a t, args = [a, t] := by
      match args, h1 with
      | [a, t], _ => exact ⟨a, t, rfl⟩
    have hta := ha a (by simp)
    have ht := ha t (by simp)
    have hm : name ∈ twos := by simpa using h
    simp only [twos, List.mem_cons, List.not_mem_nil, or_false] at hm
    rcases hm with rfl | rfl | rfl | rfl | rfl | rfl | rfl
    · exact ans_findstring n hn a t hta ht
    · exact ans_filter n hn a t hta ht
    · exact ans_filterout n hn a t hta ht
    · exact ans_word n hn a t hta ht
    · exact ans_addsuffix n hn a t hta ht
    · exact ans_addprefix n hn a t hta ht
    · exact ans_join n hn a t hta ht
  split at h1
  · rename_i h
    obtain ⟨a, b, t, rfl⟩ : ∃ a b t, args = [a, b, t] := by
      match args, h1 with
      | [a, b, t], _ => exact ⟨a, b, t, rfl⟩
    have hta := ha a (by simp)
    have htb := ha b (by simp)
    have ht := ha t (by simp)
    have hm : name ∈ threes := by simpa using h
    simp only [threes, List.mem_cons, List.not_mem_nil, or_false] at hm
    rcases hm with rfl | rfl | rfl
    · exact ans_subst n hn a b t hta htb ht
    · exact ans_patsubst n hn a b t hta htb ht
    · exact ans_wordlist n hn a b t hta htb ht
  · rename_i g1 g2 g3
    rw [if_neg g1, if_neg g2, if_neg g3] at h0
    exact absurd rfl h0

set_option maxHeartbeats 4000000 in
theorem cp15 [XX] (n : Nat) (hn : 44000000 < n) (name : Str) (args : List Str) (ha : ∀ a ∈ args, a.length ≤ 4000) (hl : args.length ≤ 6) :
    CP (F (n + 1)) 95 [.str name, .sl 1 (args.map .str)] (.tup [.str (callL name args).1, .int .i64 (callL name args).2]) := by
  refine F_cp (rs := [.str (callL name args).1, .int .i64 (callL name args).2]) (S := []) (by simp [noBoxL, noBox]) rfl ?_
  rw [F_fn rfl rfl rfl Tryz.func95 rfl]
  obtain ⟨m, rfl⟩ : ∃ m, n = m + 1 := ⟨n - 1, by omega⟩
  have h17 := cp17 m name
  simp only [CP] at h17
  by_cases h0 : manyL name = 0
  · have e : callL name args = ([], 4) := by simp [callL, h0]
    rw [e]
    rw [h0] at h17
    generalize m + 1 = n at *
    simp [runFn, Tryz.f95, h17]
  have z0 : ((manyL name : Int) == 0) = false := by simpa using h0
  by_cases h1 : args.length = manyL name
  rotate_left
  · have e : callL name args = ([], 1) := by simp [callL, h0, h1]
    rw [e]
    have z1 : ((args.length : Int) != (manyL name : Int)) = true := by simpa using (by omega : ¬ (args.length : Int) = (manyL name : Int))
    generalize m + 1 = n at *
    generalize manyL name = k at *
    simp [runFn, Tryz.f95, h17, z0, z1]
  have z1 : ((args.length : Int) != (manyL name : Int)) = false := by simpa using (by omega : (args.length : Int) = (manyL name : Int))
  obtain ⟨y, h29, hy⟩ := cp29 m (by omega) name args h0 h1 ha
  simp only [CP] at h29
  have hfin := callL_fin h0 h1
  rw [hfin]
  generalize ansL name args = an at *
  obtain ⟨r, ok⟩ := an
  simp only at h29 hy ⊢
  generalize m + 1 = n at *
  generalize manyL name = k at *
  cases ok with
  | false =>
    have e : finL r false = ([], 1) := rfl
    rw [e]
    simp [runFn, Tryz.f95, h17, z0, z1, h29]
  | true =>
    have hyr := hy rfl
    subst hyr
    by_cases h4 : 4000 < y.length
    · have e : finL y true = ([], 3) := by simp [finL, h4]
      rw [e]
      have d : decide ((4000 : Int) < (y.length : Int)) = true := by simpa using (by omega : (4000 : Int) < (y.length : Int))
      simp [runFn, Tryz.f95, h17, z0, z1, h29, d]
    · have e : finL y true = (y, 0) := finL_ok (by omega)
      rw [e]
      have d : decide ((4000 : Int) < (y.length : Int)) = false := by simpa using (by omega : ¬ (4000 : Int) < (y.length : Int))
      simp [runFn, Tryz.f95, h17, z0, z1, h29, d]

end Go.Proofs.YtmcfnnpihlediaaGreatDoor.Ex

/- The document's own Get; what a variable is worth. -/
namespace Go.Proofs.YtmcfnnpihlediaaGreatDoor.Ex
open Go
attribute [-simp] rgn rgnD exec_seq exec_cond exec_block keepS

section
variable [XX]

theorem v97 (n : Nat) (p : Str) (hp : p.length ≤ 1000000) (hn : p.length + 3 < n) : CP (F (n + 1)) 97 [.str p] (.bool (openL p)) := by
  obtain ⟨n, rfl⟩ : ∃ q, n = q + 1 := ⟨n - 1, by omega⟩
  have h := cp166 n p hp (by omega)
  simp only [CP] at h
  refine F_cp (rs := [.bool (openL p)]) (S := []) rfl rfl ?_
  rw [F_fn rfl rfl rfl Tryz.func97 rfl]
  unfold openL
  by_cases h0 : p = []
  · subst h0
    simp [runFn, Tryz.f97, h, cntL]
  · have h0' : (p == []) = false := by simpa using h0
    by_cases h1 : cntL p = 1
    · have e : ((cntL p : Int) == 1) = true := by simp [h1]
      simp [runFn, Tryz.f97, h, h0', h1, e]
    · have e : ((cntL p : Int) == 1) = false := by simpa using fun h => h1 (by omega)
      simp [runFn, Tryz.f97, h, h0', h1, e]

def gtI (V : Vs) (name : Str) (i : Nat) (c : Cfg) : Prop :=
  c.D = [] ∧ c.S = [.cells [rowAV V], .cells [.str [], .str [], .bool false]] ∧ c.pf 1 = .str name ∧ c.pf 2 = .box 0 0 ∧ c.pf 4 = .box 1 0 ∧ c.pf 6 = .int .i64 i ∧ i ≤ V.length ∧ getV V name = getV (V.drop i) name
def gtQ (V : Vs) (name : Str) (x : PX) (c : Cfg) : Prop :=
  c.D = [] ∧ c.pf 4 = .box 1 0 ∧ ((x = .ex 0 ∧ c.S = [.cells [rowAV V], .cells [.str [], .str [], .bool false]] ∧ getV V name = none) ∨
    (x = .ret ∧ ∃ v, getV V name = some v ∧ c.pf 5 = .bool true ∧ c.S = [.cells [rowAV V], .cells [.str v.1, .str v.2.1, .bool v.2.2]]))

set_option maxHeartbeats 4000000 in
theorem v16 (n : Nat) (V : Vs) (name : Str) (hv : V.length ≤ 1000000) (hn : V.length + 5 < n) : CP (F (n + 1)) 16 [varsAV V, .str name] (.tup [varAV (gotL V name).1, .bool (gotL V name).2]) := by
  have hrs : ∃ S, runFn Tryz.prog own1 (F n) n Tryz.f16 (Tryz.f16.body.getD .skip) [varsAV V, .str name] [] = some ([varAV (gotL V name).1, .bool (gotL V name).2], S) := by
    simp [runFn, Tryz.f16, varsAV, rowAV, zeroCells]
    generalize hI : iter _ _ _ = r
    obtain ⟨px, c, rfl, hD, p4, hc⟩ := iter_cfg (fun i : Nat => V.length - i) (gtI V name) (gtQ V name)
      (fun i c hcc => by
        obtain ⟨pf, S', D'⟩ := c
        obtain ⟨rfl, rfl, p1, p2, p4, p6, hi, hinv⟩ := hcc
        simp only at p1 p2 p4 p6 hi hinv
        by_cases hlt : i < V.length
        · have hat : V[i]? = some V[i] := List.getElem?_eq_getElem hlt
          have hd : V.drop i = V[i] :: V.drop (i + 1) := List.drop_eq_getElem_cons hlt
          have w1 : IntKind.wrap .i64 ((i : Int) + 1) = (i : Int) + 1 := wrap64 (by omega) (by omega)
          rw [hd] at hinv
          by_cases he : V[i].1 = name
          · right
            have he' : (V[i].1 == name) = true := by simpa using he
            refine ⟨.ret, _, by simp, by simp [p1, p2, p4, p6, hlt, hat, he', varAV, rowAV]; rfl, rfl, by simp [p4], .inr ⟨rfl, V[i], ?_, by simp, by simp [varAV, rowAV]⟩⟩
            rw [hinv, getV, List.find?_cons, he']
          · left
            have he' : (V[i].1 == name) = false := by simpa using he
            refine ⟨i + 1, _, by simp [p1, p2, p4, p6, hlt, hat, he', w1, varAV, rowAV]; rfl, by omega, rfl, by simp [rowAV], by simp [p1], by simp [p2], by simp [p4], by simp, by omega, ?_⟩
            rw [hinv, getV, List.find?_cons, he']; rfl
        · right
          rw [List.drop_of_length_le (by omega)] at hinv
          refine ⟨.ex 0, _, by simp, by simp [p2, p6, hlt, rowAV]; rfl, rfl, by simp [p4], .inl ⟨rfl, by simp [rowAV], by rw [hinv]; rfl⟩⟩)
      n 0 _ r hI (by refine ⟨rfl, by simp [rowAV], by simp, by simp, by simp, by simp, by simp, by simp⟩) (by omega)
    obtain ⟨pf, S', D'⟩ := c
    simp only at hD p4 hc
    subst hD
    unfold gotL
    rcases hc with ⟨rfl, rfl, hg⟩ | ⟨rfl, v, hg, p5, rfl⟩
    · rw [hg]; simp [p4, varAV, zeroCells]
    · rw [hg]; simp [p4, p5, varAV]
  obtain ⟨S, h⟩ := hrs
  refine F_cp (rs := [varAV (gotL V name).1, .bool (gotL V name).2]) (S := S) (by simp only [noBoxL, noBox, varsAV, noBox_row, Bool.and_self]) (by simp only [noBoxL, noBox, noBox_var, Bool.and_self]) ?_
  rw [F_fn rfl rfl rfl Tryz.func16 rfl]
  exact h

def ExpR (n k : Nat) : Prop := ∀ (V : Vs) (t : Str) (id m : Nat) (S : Obs), okV V k → t.length ≤ 200000 → S[id]? = some (.cells [.int .i64 m]) → m ≤ 2000 →
  ∃ T, F n (.f 24) [.box id 0, varsAV V, .str t, .int .i64 (20 - k : Nat)] S = some ([.str (expS (lev k) V m t).1.1, .int .i64 (expS (lev k) V m t).1.2], SetN S id (expS (lev k) V m t).2 ++ T)
def ValR (n k : Nat) : Prop := ∀ (V : Vs) (t : Str) (id m : Nat) (S : Obs), okV V k → S[id]? = some (.cells [.int .i64 m]) → m ≤ 2000 →
  ∃ T, F n (.f 41) [.box id 0, varsAV V, .str t, .int .i64 (20 - k : Nat)] S = some ([.str (valS (lev k) V m t).1.1, .int .i64 (valS (lev k) V m t).1.2], SetN S id (valS (lev k) V m t).2 ++ T)

theorem noBox_b (id : Nat) (l : List AV) : noBoxL (.box id 0 :: l) = false := by simp [noBoxL, noBox]

set_option maxHeartbeats 4000000 in
theorem val_r (n k : Nat) (hk : k ≤ 20) (hn : 1000000 < n) (hE : ∀ j, k = j + 1 → ExpR n j) : ValR (n + 1) k := by
  intro V name id m S hV hS hm
  have hlt : id < S.length := (List.getElem?_eq_some_iff.1 hS).1
  obtain ⟨n, rfl⟩ : ∃ q, n = q + 1 := ⟨n - 1, by omega⟩
  have h16 := v16 n V name (by have := hV.2.1; omega) (by have := hV.2.1; omega)
  have hnb := noBox_b id
  unfold valS
  cases hg : getV V name with
  | none =>
    have e : gotL V name = (([], [], false), false) := by simp [gotL, hg]
    rw [e] at h16
    simp only [CP, varsAV, rowAV, varAV] at h16
    refine ⟨[.cells [rowAV V], .cells [.str [], .str [], .bool false]], ?_⟩
    rw [F_fn rfl rfl rfl Tryz.func41 rfl]
    simp [runFn, Tryz.f41, varsAV, rowAV, zeroCells, h16, SetN_same hS]
  | some x =>
    obtain ⟨xn, xt, xs⟩ := x
    have e : gotL V name = ((xn, xt, xs), true) := by simp [gotL, hg]
    rw [e] at h16
    simp only [CP, varsAV, rowAV, varAV] at h16
    have hmem : (xn, xt, xs) ∈ V := List.mem_of_find?_eq_some hg
    have hxt := hV.2.2 _ hmem
    simp only at hxt
    cases xs with
    | true =>
      simp only []
      refine ⟨[.cells [rowAV V], .cells [.str xn, .str xt, .bool true]], ?_⟩
      rw [F_fn rfl rfl rfl Tryz.func41 rfl]
      simp [runFn, Tryz.f41, varsAV, rowAV, zeroCells, h16, SetN_same hS]
    | false =>
      simp only [Bool.false_eq_true, if_false]
      have hS2 : ∀ l : Obs, (S ++ l)[id]? = some (.cells [.int .i64 m]) := fun l => by rw [List.getElem?_append_left hlt]; exact hS
      have h58 := fun l => v58 n (20 - k) id m (S ++ l) (hS2 l) (by omega) (by omega)
      simp only [SetN_app hlt] at h58
      cases k with
      | zero =>
        simp only [lev]
        have e : inS (20 - 0) m = (15, m) := by simp [inS]
        rw [e] at h58
        refine ⟨[.cells [rowAV V], .cells [.str xn, .str xt, .bool false]], ?_⟩
        rw [F_fn rfl rfl rfl Tryz.func41 rfl]
        simp at h58
        simp [runFn, Tryz.f41, varsAV, rowAV, zeroCells, h16, h58, callP_box (hnb _), -callP_box]
      | succ k =>
        simp only [lev_succ]
        have hd20 : ¬ 20 ≤ 20 - (k + 1) := by omega
        have w1 : IntKind.wrap .i64 (((20 - (k + 1) : Nat) : Int) + 1) = ((20 - k : Nat) : Int) := by rw [wrap64 (by omega) (by omega)]; omega
        by_cases hb : 2000 < m + 1
        · have e : inS (20 - (k + 1)) m = (12, m + 1) := by simp only [inS, if_neg hd20, if_pos hb]
          rw [e] at h58
          rw [if_pos hb]
          refine ⟨[.cells [rowAV V], .cells [.str xn, .str xt, .bool false]], ?_⟩
          rw [F_fn rfl rfl rfl Tryz.func41 rfl]
          generalize 20 - (k + 1) = d at *
          simp at h58
          simp [runFn, Tryz.f41, varsAV, rowAV, zeroCells, h16, h58, callP_box (hnb _), -callP_box]
        · have e : inS (20 - (k + 1)) m = (0, m + 1) := by simp only [inS, if_neg hd20, if_neg hb]
          rw [e] at h58
          rw [if_neg hb]
          obtain ⟨T2, h24⟩ := hE k rfl V xt id (m + 1) (SetN S id (m + 1) ++ [.cells [rowAV V], .cells [.str xn, .str xt, .bool false]]) (okV_le hV (by omega)) hxt (SetN_atA hlt) (by omega)
          rw [SetN_app2 hlt] at h24
          refine ⟨[.cells [rowAV V], .cells [.str xn, .str xt, .bool false]] ++ T2, ?_⟩
          generalize expS (lev k) V (m + 1) xt = z at *
          generalize 20 - (k + 1) = d at *
          generalize 20 - k = d2 at *
          rw [F_fn rfl rfl rfl Tryz.func41 rfl]
          simp only [varsAV, rowAV] at h24
          simp at h58 h24
          simp [runFn, Tryz.f41, varsAV, rowAV, zeroCells, h16, h58, h24, w1, callP_box (hnb _), -callP_box]

end
end Go.Proofs.YtmcfnnpihlediaaGreatDoor.Ex

/- What a text expands to, as the document says. -/
namespace Go.Proofs.YtmcfnnpihlediaaGreatDoor.Ex
open Go
attribute [-simp] rgn rgnD exec_seq exec_cond exec_block keepS

theorem closeI_ge {s : Str} {d : UInt8} (h : opens s = some d) {f i : Nat} (hc : closeI f [] s = some i) : 2 ≤ i ∧ i < s.length := by
  refine ⟨?_, (closeI_app [] f [] s i (by simp) hc).2⟩
  cases f with
  | zero => cases hc
  | succ f =>
    cases s with
    | nil => cases h
    | cons c r =>
      simp only [closeI, h, Option.map_eq_some_iff] at hc
      obtain ⟨j, _, rfl⟩ := hc
      omega

section
variable [XX] {n k : Nat}

def RefR (n k : Nat) : Prop := ∀ (V : Vs) (c : Str) (id m : Nat) (S : Obs), okV V k → c.length ≤ 200000 → S[id]? = some (.cells [.int .i64 m]) → m ≤ 2000 →
  ∃ T, F n (.f 40) [.box id 0, varsAV V, .str c, .int .i64 (20 - k : Nat)] S = some ([.str (refS (lev k) V m c).1.1, .int .i64 (refS (lev k) V m c).1.2], SetN S id (refS (lev k) V m c).2 ++ T)

set_option maxHeartbeats 16000000 in
theorem text_r (hn : 3000100 < n) (hR : RefR n k) (hW : ValR n k) : ExpR (n + 1) k := by
  intro V t id m S hV hcl hS hm
  have hlt : id < S.length := (List.getElem?_eq_some_iff.1 hS).1
  obtain ⟨n, rfl⟩ : ∃ q, n = q + 2 := ⟨n - 2, by omega⟩
  have hRV := fun c m' T h1 h2 => hR V c id m' (SetN S id m' ++ T) hV h1 (SetN_atA hlt) h2
  have hWV := fun c m' T h2 => hW V c id m' (SetN S id m' ++ T) hV (SetN_atA hlt) h2
  have hRg := refS_good (lev_good k) V
  have hWg := valS_good (lev_good k) V
  have hRl := fun n c => refS_len k V n c hV.2.2
  have hWl := fun n c => valS_len2 k V n c hV.2.2
  have hnb := noBox_b id
  unfold expS
  generalize hd : 20 - k = d at *
  simp only [varsAV, rowAV] at hRV hWV ⊢
  generalize hz : exT (refS (lev k) V) (valS (lev k) V) (t.length + 1) [] m t = z
  rw [F_fn rfl rfl rfl Tryz.func24 rfl]
  simp [runFn, Tryz.f24]
  generalize hI : iter _ _ _ = q
  obtain ⟨px, c, rfl, hD, hc⟩ := iter_cfg (fun x : Str × Nat × Nat => t.length - x.2.2)
    (fun x c => c.D = [] ∧ (∃ T, c.S = SetN S id x.2.1 ++ (.cells [.sl 3 (V.map varAV)] :: T)) ∧ c.pf 0 = .box id 0 ∧ c.pf 2 = .str t ∧ c.pf 3 = .int .i64 d ∧ c.pf 5 = .box S.length 0 ∧ c.pf 10 = .str x.1 ∧ c.pf 11 = .int .i64 x.2.2 ∧
      x.2.1 ≤ 2000 ∧ x.2.2 ≤ t.length ∧ x.1.length + 200001 * (t.length - x.2.2) ≤ 200001 * 200000 ∧ z = exT (refS (lev k) V) (valS (lev k) V) ((t.drop x.2.2).length + 1) x.1 x.2.1 (t.drop x.2.2))
    (fun px c => c.D = [] ∧ ((px = .ret ∧ (∃ T, c.S = SetN S id z.2 ++ T) ∧ c.pf 8 = .str z.1.1 ∧ c.pf 9 = .int .i64 z.1.2) ∨
      (px = .ex 0 ∧ ∃ acc, (∃ T, c.S = SetN S id z.2 ++ T) ∧ c.pf 10 = .str acc ∧ z.1 = shortS acc)))
    (fun x c hc => by
      obtain ⟨acc, m', i⟩ := x
      obtain ⟨pf, S', D'⟩ := c
      obtain ⟨rfl, ⟨T, rfl⟩, p0, p2, p3, p5, p10, p11, hm', hi, hacc, hinv⟩ := hc
      simp only at p0 p2 p3 p5 p10 p11 hm' hi hacc hinv
      by_cases hlti : i < t.length
      · have hat : t[i]? = some t[i] := List.getElem?_eq_getElem hlti
        have hdr : t.drop i = t[i] :: t.drop (i + 1) := List.drop_eq_getElem_cons hlti
        have w1 : IntKind.wrap .i64 ((i : Int) + 1) = (i : Int) + 1 := wrap64 (by omega) (by omega)
        have w2 : IntKind.wrap .i64 ((i : Int) + 2) = (i : Int) + 2 := wrap64 (by omega) (by omega)
        have hb36 := byte_eq t[i] 36 (by decide)
        simp only [show ((36 : Nat) : Int) = 36 from rfl, show UInt8.ofNat 36 = 36 from rfl] at hb36
        have t1 : ((i : Int) + 1).toNat = i + 1 := by omega
        have z1 : (0 : Int) ≤ (i : Int) + 1 := by omega
        have z2 : (i : Int) ≤ (i : Int) + 1 := by omega
        have z3 : (i : Int) + 1 ≤ (t.length : Int) := by omega
        have hti : List.take 1 (List.drop i t) = [t[i]] := by rw [hdr]; rfl
        by_cases h36 : t[i] = 36
        · have hb : ((t[i].toNat : Int) != 36) = false := by rw [bne, hb36]; simpa using h36
          rw [hdr, h36] at hinv
          by_cases hend : i + 1 = t.length
          · right
            have he : ((i : Int) + 1 == (t.length : Int)) = true := by simp; omega
            rw [List.drop_of_length_le (by omega)] at hinv
            have hz2 : z = (([], 2), m') := hinv
            refine ⟨.ret, _, by simp, by simp [p0, p2, p3, p5, p10, p11, hlti, hat, hb, w1, he]; rfl, rfl, .inl ⟨rfl, ?_, ?_, ?_⟩⟩
            · exact ⟨_, by rw [hz2]⟩
            · simp [hz2]
            · simp [hz2]
          · have he : ((i : Int) + 1 == (t.length : Int)) = false := by simp; omega
            have hlt2 : i + 1 < t.length := by omega
            have hat2 : t[i + 1]? = some t[i + 1] := List.getElem?_eq_getElem hlt2
            have hdr2 : t.drop (i + 1) = t[i + 1] :: t.drop (i + 2) := List.drop_eq_getElem_cons hlt2
            rw [hdr2] at hinv
            have hstep := exT_step (refS (lev k) V) (valS (lev k) V) acc m' [] t[i + 1] (t.drop (i + 2)) (by simp)
            simp only [List.nil_append, List.append_nil] at hstep
            rw [hstep] at hinv
            have hc36 := byte_eq t[i + 1] 36 (by decide)
            have hc40 := byte_eq t[i + 1] 40 (by decide)
            have hc123 := byte_eq t[i + 1] 123 (by decide)
            simp only [show ((36 : Nat) : Int) = 36 from rfl, show UInt8.ofNat 36 = 36 from rfl, show ((40 : Nat) : Int) = 40 from rfl, show UInt8.ofNat 40 = 40 from rfl, show ((123 : Nat) : Int) = 123 from rfl, show UInt8.ofNat 123 = 123 from rfl] at hc36 hc40 hc123
            by_cases q1 : t[i + 1] = 36
            · left
              rw [if_pos q1] at hinv
              have e1 : ((t[i + 1].toNat : Int) == 40) = false := by rw [hc40]; simp [q1]
              have e2 : ((t[i + 1].toNat : Int) == 123) = false := by rw [hc123]; simp [q1]
              have e3 : ((t[i + 1].toNat : Int) != 36) = false := by rw [bne, hc36]; simp [q1]
              have l1 : acc.length + 1 ≤ 9223372036854775807 := by omega
              exact ⟨(acc ++ [36], m', i + 2), _, by simp [p0, p2, p3, p5, p10, p11, hlti, hat, hb, w1, w2, he, t1, z1, hat2, e1, e2, e3, l1]; rfl, by simp only; omega, rfl, ⟨T, rfl⟩, by simp [p0], by simp [p2], by simp [p3], by simp [p5], by simp, by simp, hm', by simp only; omega, by simp only [List.length_append, List.length_cons, List.length_nil]; omega, hinv⟩
            · rw [if_neg q1] at hinv
              by_cases q2 : t[i + 1] = 40 ∨ t[i + 1] = 123
              · rw [if_pos q2] at hinv
                rw [← hdr2, ← h36, ← hdr] at hinv
                have hop : ∃ dd, opens (t.drop i) = some dd := by
                  rw [hdr, h36, hdr2]
                  rcases q2 with q2 | q2 <;> rw [q2]
                  · exact ⟨41, rfl⟩
                  · exact ⟨125, rfl⟩
                obtain ⟨dd, hop⟩ := hop
                have h39 := v39 (n + 1) (t.drop i) (by simp; omega) (by simp; omega)
                have hdt : List.take (t.length - i) (List.drop i t) = List.drop i t := List.take_of_length_le (by simp)
                simp only [CP] at h39
                have hop2 : ((t[i + 1].toNat : Int) == 40) = true ∨ (((t[i + 1].toNat : Int) == 40) = false ∧ ((t[i + 1].toNat : Int) == 123) = true) := by
                  rcases q2 with q2 | q2
                  · left; rw [hc40]; simpa using q2
                  · right; rw [hc40, hc123, q2]; simp
                cases hcl2 : closeI ((t.drop i).length + 1) [] (t.drop i) with
                | none =>
                  right
                  rw [hcl2] at hinv h39
                  simp only [Option.map_none] at hinv
                  simp only [intOf] at h39
                  refine ⟨.ret, ?_⟩
                  rcases hop2 with o1 | ⟨o1, o2⟩
                  · refine ⟨_, by simp, by simp [p0, p2, p3, p5, p10, p11, hlti, hat, hb, w1, w2, he, t1, z1, hat2, o1, hi, hdt, h39]; rfl, rfl, .inl ⟨rfl, ⟨_, by rw [hinv]⟩, by simp [hinv], by simp [hinv]⟩⟩
                  · refine ⟨_, by simp, by simp [p0, p2, p3, p5, p10, p11, hlti, hat, hb, w1, w2, he, t1, z1, hat2, o1, o2, hi, hdt, h39]; rfl, rfl, .inl ⟨rfl, ⟨_, by rw [hinv]⟩, by simp [hinv], by simp [hinv]⟩⟩
                | some e =>
                  obtain ⟨he2, hel⟩ := closeI_ge hop hcl2
                  rw [List.length_drop] at hel
                  rw [hcl2] at hinv h39
                  simp only [Option.map_some] at hinv
                  simp only [intOf] at h39
                  have hxe : (List.drop (i + 2) t).take (i + e - (i + 2)) = ((t.drop i).take e).drop 2 := by
                    rw [List.drop_take, List.drop_drop, show i + e - (i + 2) = e - 2 by omega]
                  have hre : (t.drop i).drop (e + 1) = t.drop (i + (e + 1)) := by rw [List.drop_drop]
                  rw [hre] at hinv
                  have hxl : (((t.drop i).take e).drop 2).length ≤ 200000 := by simp; omega
                  generalize ((t.drop i).take e).drop 2 = x at *
                  obtain ⟨T2, h40⟩ := hRV x m' (.cells [.sl 3 (V.map varAV)] :: T) hxl hm'
                  rw [SetN_app2 hlt] at h40
                  have hg := hRg m' x hm'
                  have hl := hRl m' x
                  generalize refS (lev k) V m' x = w at *
                  obtain ⟨⟨wt, we⟩, wm⟩ := w
                  simp only at hinv h40 hg hl
                  have f1 : ¬ ((e : Int) < 0) := by omega
                  have w3 : IntKind.wrap .i64 ((i : Int) + (e : Int)) = (i : Int) + (e : Int) := wrap64 (by omega) (by omega)
                  have w4 : IntKind.wrap .i64 ((e : Int) + 1) = (e : Int) + 1 := wrap64 (by omega) (by omega)
                  have w5 : IntKind.wrap .i64 ((i : Int) + ((e : Int) + 1)) = (i : Int) + ((e : Int) + 1) := wrap64 (by omega) (by omega)
                  have y1 : (0 : Int) ≤ (i : Int) + (e : Int) := by omega
                  have y2 : (i : Int) + (e : Int) ≤ (t.length : Int) := by omega
                  have y3 : ((i : Int) + (e : Int)).toNat = i + e := by omega
                  have y4 : (0 : Int) ≤ (i : Int) + 2 := by omega
                  have y5 : (i : Int) + 2 ≤ (i : Int) + (e : Int) := by omega
                  have y6 : ((i : Int) + 2).toNat = i + 2 := by omega
                  by_cases hwe : we = 0
                  · subst hwe
                    left
                    rw [if_pos rfl] at hinv
                    have hg := hg rfl
                    have l1 : acc.length + wt.length ≤ 9223372036854775807 := by omega
                    have hmeas : (acc ++ wt).length + 200001 * (t.length - (i + (e + 1))) ≤ 200001 * 200000 := by simp only [List.length_append]; omega
                    rcases hop2 with o1 | ⟨o1, o2⟩
                    · exact ⟨(acc ++ wt, wm, i + (e + 1)), _, by simp [p0, p2, p3, p5, p10, p11, hlti, hat, hb, w1, w2, he, t1, z1, hat2, o1, hi, hdt, h39, f1, w3, w4, w5, y1, y2, y3, y4, y5, y6, hxe, h40, l1, callP_box (hnb _), -callP_box]; rfl, by simp only; omega, rfl, ⟨T ++ T2, rfl⟩, by simp [p0], by simp [p2], by simp [p3], by simp [p5], by simp, by simp, hg, by simp only; omega, hmeas, hinv⟩
                    · exact ⟨(acc ++ wt, wm, i + (e + 1)), _, by simp [p0, p2, p3, p5, p10, p11, hlti, hat, hb, w1, w2, he, t1, z1, hat2, o1, o2, hi, hdt, h39, f1, w3, w4, w5, y1, y2, y3, y4, y5, y6, hxe, h40, l1, callP_box (hnb _), -callP_box]; rfl, by simp only; omega, rfl, ⟨T ++ T2, rfl⟩, by simp [p0], by simp [p2], by simp [p3], by simp [p5], by simp, by simp, hg, by simp only; omega, hmeas, hinv⟩
                  · right
                    rw [if_neg hwe] at hinv
                    have hwe' : ((we : Int) != 0) = true := by simp; omega
                    refine ⟨.ret, ?_⟩
                    rcases hop2 with o1 | ⟨o1, o2⟩
                    · exact ⟨_, by simp, by simp [p0, p2, p3, p5, p10, p11, hlti, hat, hb, w1, w2, he, t1, z1, hat2, o1, hi, hdt, h39, f1, w3, w4, w5, y1, y2, y3, y4, y5, y6, hxe, h40, hwe', callP_box (hnb _), -callP_box]; rfl, rfl, .inl ⟨rfl, ⟨_, by rw [hinv]⟩, by simp [hinv], by simp [hinv]⟩⟩
                    · exact ⟨_, by simp, by simp [p0, p2, p3, p5, p10, p11, hlti, hat, hb, w1, w2, he, t1, z1, hat2, o1, o2, hi, hdt, h39, f1, w3, w4, w5, y1, y2, y3, y4, y5, y6, hxe, h40, hwe', callP_box (hnb _), -callP_box]; rfl, rfl, .inl ⟨rfl, ⟨_, by rw [hinv]⟩, by simp [hinv], by simp [hinv]⟩⟩
              · rw [if_neg q2] at hinv
                have o1 : ((t[i + 1].toNat : Int) == 40) = false := by rw [hc40]; simpa using fun e => q2 (.inl e)
                have o2 : ((t[i + 1].toNat : Int) == 123) = false := by rw [hc123]; simpa using fun e => q2 (.inr e)
                have o3 : ((t[i + 1].toNat : Int) != 36) = true := by rw [bne, hc36]; simpa using q1
                obtain ⟨T2, h41⟩ := hWV [t[i + 1]] m' (.cells [.sl 3 (V.map varAV)] :: T) hm'
                rw [SetN_app2 hlt] at h41
                have hg := hWg m' [t[i + 1]] hm'
                have hl := hWl m' [t[i + 1]]
                generalize valS (lev k) V m' [t[i + 1]] = w at *
                obtain ⟨⟨wt, we⟩, wm⟩ := w
                simp only at hinv h41 hg hl
                have y1 : (0 : Int) ≤ (i : Int) + 2 := by omega
                have y2 : (i : Int) + 2 ≤ (t.length : Int) := by omega
                have y3 : ((i : Int) + 2).toNat = i + 2 := by omega
                have y5 : (i : Int) + 1 ≤ (i : Int) + 2 := by omega
                have hsl : List.take 1 (List.drop (i + 1) t) = [t[i + 1]] := by
                  rw [hdr2]; rfl
                have hsl2 : i + 2 - (i + 1) = 1 := by omega
                by_cases hwe : we = 0
                · subst hwe
                  left
                  rw [if_pos rfl] at hinv
                  have hg := hg rfl
                  have l1 : acc.length + wt.length ≤ 9223372036854775807 := by omega
                  have hmeas : (acc ++ wt).length + 200001 * (t.length - (i + 2)) ≤ 200001 * 200000 := by simp only [List.length_append]; omega
                  exact ⟨(acc ++ wt, wm, i + 2), _, by simp [p0, p2, p3, p5, p10, p11, hlti, hat, hb, w1, w2, he, t1, z1, hat2, o1, o2, o3, y1, y2, y3, y5, hsl, hsl2, h41, l1, callP_box (hnb _), -callP_box]; rfl, by simp only; omega, rfl, ⟨T ++ T2, rfl⟩, by simp [p0], by simp [p2], by simp [p3], by simp [p5], by simp, by simp, hg, by simp only; omega, hmeas, hinv⟩
                · right
                  rw [if_neg hwe] at hinv
                  have hwe' : ((we : Int) != 0) = true := by simp; omega
                  exact ⟨.ret, _, by simp, by simp [p0, p2, p3, p5, p10, p11, hlti, hat, hb, w1, w2, he, t1, z1, hat2, o1, o2, o3, y1, y2, y3, y5, hsl, hsl2, h41, hwe', callP_box (hnb _), -callP_box]; rfl, rfl, .inl ⟨rfl, ⟨_, by rw [hinv]⟩, by simp [hinv], by simp [hinv]⟩⟩
        · left
          have hb : ((t[i].toNat : Int) != 36) = true := by rw [bne, hb36]; simpa using h36
          have hlit := exT_lit (refS (lev k) V) (valS (lev k) V) [t[i]] ((t.drop (i + 1)).length + 1) acc m' (t.drop (i + 1)) (by simpa using fun e : 36 = t[i] => h36 e.symm)
          rw [hdr] at hinv
          simp only [List.length_cons, List.length_nil, List.cons_append, List.nil_append] at hlit hinv
          rw [hlit] at hinv
          have l1 : acc.length + 1 ≤ 9223372036854775807 := by omega
          have hmn : min 1 (t.length - i) = 1 := by omega
          exact ⟨(acc ++ [t[i]], m', i + 1), _, by simp [p0, p2, p3, p5, p10, p11, hlti, hat, hb, w1, t1, z1, z2, z3, hti, l1, hmn]; rfl, by simp only; omega, rfl, ⟨T, rfl⟩, by simp [p0], by simp [p2], by simp [p3], by simp [p5], by simp, by simp, hm', by simp only; omega, by simp only [List.length_append, List.length_cons, List.length_nil]; omega, hinv⟩
      · right
        rw [List.drop_of_length_le (by omega)] at hinv
        have hz2 : z = (shortS acc, m') := hinv
        refine ⟨.ex 0, _, by simp, by simp [p2, p11, hlti]; rfl, rfl, .inr ⟨rfl, acc, ⟨_, by rw [hz2]⟩, by simp [p10], by rw [hz2]⟩⟩)
    _ ([], m, 0) _ _ hI (by refine ⟨rfl, ⟨[], by simp [SetN_same hS]⟩, by simp, by simp, by simp, by simp, by simp, by simp, hm, by simp, by simp only [List.length_nil]; omega, by simp [hz]⟩) (by simp only; omega)
  obtain ⟨pf, S', D'⟩ := c
  simp only at hD hc
  subst hD
  rcases hc with ⟨rfl, ⟨T, rfl⟩, p8, p9⟩ | ⟨rfl, acc, ⟨T, rfl⟩, p10, hsh⟩
  · exact ⟨T, by simp [p8, p9]⟩
  · refine ⟨T, ?_⟩
    rw [hsh]
    unfold shortS
    by_cases h4 : 4000 < acc.length
    · have h4' : decide (4000 < (acc.length : Int)) = true := by simp; omega
      simp [p10, h4, h4']
    · have h4' : decide (4000 < (acc.length : Int)) = false := by simp; omega
      simp [p10, h4, h4']

end
end Go.Proofs.YtmcfnnpihlediaaGreatDoor.Ex

/- The document's own turned words. -/
namespace Go.Proofs.YtmcfnnpihlediaaGreatDoor.Ex
open Go
attribute [-simp] rgn rgnD exec_seq exec_cond exec_block keepS

set_option maxHeartbeats 1000000 in
theorem cp25w [XX] (n : Nat) (l : List Str) (hb : sumLen l + l.length ≤ 1000000000000) (hn : l.length < n) : CP (F (n + 1)) 99 [.sl 1 (l.map .str)] (.str (joinL [32] l)) := by
  refine F_cp (rs := [.str (joinL [32] l)]) (S := []) (by simp [noBoxL, noBox]) rfl ?_
  rw [F_fn rfl rfl rfl Tryz.func99 rfl]
  simp [runFn, Tryz.f99]
  generalize hI : iter _ _ _ = r
  obtain ⟨pf', rfl, h⟩ := iter_count 0 (fun i pf => pf 0 = .sl 1 (l.map .str) ∧ pf 3 = .str (joinL [32] (l.take i)) ∧ pf 4 = .int .i64 i) l.length
    (fun i pf hi h => by
      obtain ⟨h0, h3, h4⟩ := h
      have hw : IntKind.wrap .i64 ((i : Int) + 1) = (i : Int) + 1 := wrap64 (by omega) (by omega)
      have hj := joinL_take l i hi
      have l1 : (joinL [32] (l.take i)).length ≤ 1000000000000 := by
        have h1 := join_length_le (l.take i)
        have h2 := sumLen_take l i
        have h3 : (l.take i).length ≤ l.length := by rw [List.length_take]; omega
        omega
      have l2 : (joinL [32] (l.take (i + 1))).length ≤ 1000000000000 := by
        have h1 := join_length_le (l.take (i + 1))
        have h2 := sumLen_take l (i + 1)
        have h3 : (l.take (i + 1)).length ≤ l.length := by rw [List.length_take]; omega
        omega
      rw [hj] at l2 ⊢
      by_cases hi0 : i = 0
      · subst hi0
        simp only [↓reduceIte, List.nil_append] at l2
        have h3' : pf 3 = .str [] := h3
        have e1 : l[0].length ≤ 9223372036854775807 := by omega
        have e2 : IntKind.wrap .i64 1 = 1 := wrap64 (by omega) (by omega)
        simp [h0, h3', h4, hi, hw, e1, e2]
      · generalize joinL [32] (l.take i) = x at *
        rw [if_neg hi0] at l2 ⊢
        simp only [List.length_append, List.length_cons, List.length_nil] at l2
        have hi1 : 0 < i := by omega
        have e1 : x.length + 1 ≤ 9223372036854775807 := by omega
        have e2 : x.length + 1 + l[i].length ≤ 9223372036854775807 := by omega
        have e3 : x.length + (1 + l[i].length) ≤ 9223372036854775807 := by omega
        have e4 : x.length + (l[i].length + 1) ≤ 9223372036854775807 := by omega
        simp [h0, h3, h4, hi, hw, hi1, e1, e2, e3, e4])
    (fun pf h => by
      obtain ⟨h0, h3, h4⟩ := h
      simp [h0, h3, h4]) l.length 0 n _ r (by omega) hI (by simp [joinL]) (by omega)
  obtain ⟨h0, h3, h4⟩ := h
  simp [h3]

theorem sumLen_le (B : Nat) : ∀ (l : List Str), (∀ a ∈ l, a.length ≤ B) → sumLen l ≤ l.length * B
  | [], _ => by simp [sumLen]
  | a :: l, h => by
    have h1 := sumLen_le B l (fun x hx => h x (List.mem_cons_of_mem _ hx))
    have h2 := h a (by simp)
    simp only [sumLen, List.length_cons, Nat.add_mul, Nat.one_mul]
    omega

theorem allS_map (g : Str → Str) : ∀ (l : List Str) (n : Nat), allS (fun n w => ((g w, 0), n)) n l = ((l.map g, 0), n)
  | [], _ => rfl
  | a :: l, n => by simp [allS, allS_map g l n]

section
variable [XX]

def TurnR (n k : Nat) : Prop := ∀ (V : Vs) (name p q : Str) (id m : Nat) (S : Obs), okV V k → name.length ≤ 200000 → p.length ≤ 200000 → q.length ≤ 200000 → S[id]? = some (.cells [.int .i64 m]) → m ≤ 2000 →
  ∃ T, F n (.f 65) [.box id 0, varsAV V, .str name, .str p, .str q, .int .i64 (20 - k : Nat)] S = some ([.str (turnedS (expS (lev k)) (valS (lev k)) V m name p q).1.1, .int .i64 (turnedS (expS (lev k)) (valS (lev k)) V m name p q).1.2], SetN S id (turnedS (expS (lev k)) (valS (lev k)) V m name p q).2 ++ T)

set_option maxHeartbeats 8000000 in
theorem turned_r {n k : Nat} (hn : 3000100 < n) (hE : ExpR n k) (hW : ValR n k) : TurnR (n + 1) k := by
  intro V name p q id m S hV hl1 hl2 hl3 hS hm
  have hlt : id < S.length := (List.getElem?_eq_some_iff.1 hS).1
  obtain ⟨n, rfl⟩ : ∃ z, n = z + 2 := ⟨n - 2, by omega⟩
  have hEV := fun t m' T ht hm' => hE V t id m' (SetN S id m' ++ T) hV ht (SetN_atA hlt) hm'
  have hWV := fun t m' T hm' => hW V t id m' (SetN S id m' ++ T) hV (SetN_atA hlt) hm'
  have hEg := fun n t hn' he => expS_good k V n t hn' he
  have hWg := fun n t => valS_good' k V n t
  have hWl := fun n c => valS_len2 k V n c hV.2.2
  have hnb := noBox_b id
  unfold turnedS
  generalize hd : 20 - k = d at *
  generalize expS (lev k) V = E at *
  generalize valS (lev k) V = W at *
  simp only [SetN_app2 hlt] at hEV hWV
  simp only [varsAV, rowAV] at hEV hWV ⊢
  simp only [allS]
  obtain ⟨T1, e1⟩ := hEV name m [.cells [.sl 3 (V.map varAV)]] hl1 hm
  rw [SetN_same hS] at e1
  have g1 := hEg m name hm
  generalize E m name = z1 at *
  obtain ⟨⟨a, x1⟩, m1⟩ := z1
  simp only at e1 g1 ⊢
  by_cases h1 : x1 = 0
  · subst h1
    obtain ⟨hm1, la⟩ := g1 rfl
    simp only [if_true]
    obtain ⟨T2, e2⟩ := hEV p m1 (.cells [.sl 3 (V.map varAV)] :: T1) hl2 hm1
    have g2 := hEg m1 p hm1
    generalize E m1 p = z2 at *
    obtain ⟨⟨p', x2⟩, m2⟩ := z2
    simp only at e2 g2 ⊢
    by_cases h2 : x2 = 0
    · subst h2
      obtain ⟨hm2, lp⟩ := g2 rfl
      simp only [if_true]
      obtain ⟨T3, e3⟩ := hEV q m2 (.cells [.sl 3 (V.map varAV)] :: (T1 ++ T2)) hl3 hm2
      have g3 := hEg m2 q hm2
      generalize E m2 q = z3 at *
      obtain ⟨⟨q', x3⟩, m3⟩ := z3
      simp only at e3 g3 ⊢
      by_cases h3 : x3 = 0
      · subst h3
        obtain ⟨hm3, lq⟩ := g3 rfl
        simp only [if_true]
        obtain ⟨T4, e4⟩ := hWV a m3 (.cells [.sl 3 (V.map varAV)] :: (T1 ++ T2 ++ T3)) hm3
        have g4 := hWg m3 a hm3
        have gl4 := hWl m3 a
        generalize W m3 a = z4 at *
        obtain ⟨⟨v, x4⟩, m4⟩ := z4
        simp only at e4 g4 gl4 ⊢
        by_cases h4 : x4 = 0
        · subst h4
          have hm4 := g4 rfl
          simp only [if_true]
          have h97 := v97 (n + 1) p' (by omega) (by omega)
          have h59 := cp53 (n + 1) v (by omega) (by omega)
          simp only [CP] at h97 h59
          have hws := wordsL_len v
          have hwm := wordsL_mem v
          refine ⟨.cells [.sl 3 (V.map varAV)] :: (T1 ++ T2 ++ T3 ++ T4), ?_⟩
          unfold wordsS
          simp only [allS_map, if_true]
          have hps : (patS p' q').1.length ≤ 4001 ∧ (patS p' q').2.length ≤ 4001 := by unfold patS; split <;> simp <;> omega
          have hsub : ∀ w ∈ wordsL v, callP (F (n + 2)) (.f 98) [.str (patS p' q').1, .str (patS p' q').2, .str w] = some (.str (substL (patS p' q').1 (patS p' q').2 w)) := by
            intro w hw
            have h9 := cp92 (n + 1) (patS p' q').1 (patS p' q').2 w (by omega) (by omega) (by have := hwm w hw; omega) (by have := hwm w hw; omega)
            simpa only [CP] using h9
          have hjn : CP (F (n + 2)) 99 [.sl 1 (((wordsL v).map (substL (patS p' q').1 (patS p' q').2)).map .str)] (.str (joinL [32] ((wordsL v).map (substL (patS p' q').1 (patS p' q').2)))) := by
            refine cp25w (n + 1) _ ?_ (by simp; omega)
            have := sumLen_le 208002 ((wordsL v).map (substL (patS p' q').1 (patS p' q').2)) (by
              intro x hx
              obtain ⟨w, hw, rfl⟩ := List.mem_map.1 hx
              have h1 := substL_len (patS p' q').1 (patS p' q').2 w
              have h2 := hwm w hw
              omega)
            simp only [List.length_map] at this ⊢
            omega
          simp only [CP] at hjn
          generalize hws' : wordsL v = l at *
          have hat : ∀ (i : Nat) (hi : i < l.length), (l[i]? = some l[i]) := fun i hi => List.getElem?_eq_getElem hi
          have hlen : l.length ≤ 200001 := by omega
          rw [F_fn rfl rfl rfl Tryz.func65 rfl]
          simp at e1 e2 e3 e4
          cases ho : openL p' with
          | true =>
            have hpp : patS p' q' = (p', q') := by simp [patS, ho]
            rw [hpp] at hsub hjn ⊢
            rw [ho] at h97
            simp [runFn, Tryz.f65, e1, e2, e3, e4, h97, h59, callP_box (hnb _), -callP_box]
            generalize hI : iter _ _ _ = r
            obtain ⟨pf', rfl, h⟩ := iter_count 0 (fun i pf => pf 16 = .str p' ∧ pf 18 = .str q' ∧ pf 22 = .sl 1 (l.map .str) ∧ pf 23 = .sl 1 ((l.take i).map (fun w => .str (substL p' q' w))) ∧ pf 24 = .int .i64 i) l.length
              (fun i pf hi h => by
                obtain ⟨p16, p18, p22, p23, p24⟩ := h
                have hw := w64 (i := i) (by omega)
                have hal : (i + 1) * 16 ≤ 140737488355328 := by omega
                have hmi : min i l.length = i := by omega
                have hs := hsub l[i] (List.getElem_mem hi)
                have ht : l.take (i + 1) = l.take i ++ [l[i]] := by rw [List.take_add_one, hat i hi]; rfl
                have hlt2 : (l.take i).length = i := by rw [List.length_take]; omega
                rw [ht]
                simp only [] at hs
                generalize l.take i = lt at *
                simp [p16, p18, p22, p23, p24, hi, hw, hal, hlt2, hs])
              (fun pf h => by
                obtain ⟨p16, p18, p22, p23, p24⟩ := h
                simp [p16, p18, p22, p23, p24]) l.length 0 _ _ r (by omega) hI (by simp) (by omega)
            obtain ⟨p16, p18, p22, p23, p24⟩ := h
            unfold shortS
            by_cases h5 : 4000 < (joinL [32] (l.map (substL p' q'))).length
            · have h5' : decide (4000 < ((joinL [32] (l.map (substL p' q'))).length : Int)) = true := by simp; omega
              simp [Function.comp_def] at hjn
              simp [p23, hjn, h5, h5', Function.comp_def]
            · have h5' : decide (4000 < ((joinL [32] (l.map (substL p' q'))).length : Int)) = false := by simp; omega
              simp [Function.comp_def] at hjn
              simp [p23, hjn, h5, h5', Function.comp_def]
          | false =>
            have hpp : patS p' q' = (37 :: p', 37 :: q') := by simp [patS, ho]
            rw [hpp] at hsub hjn ⊢
            rw [ho] at h97
            have hz1 : 1 + p'.length ≤ 9223372036854775807 := by omega
            have hz2 : 1 + q'.length ≤ 9223372036854775807 := by omega
            simp [runFn, Tryz.f65, e1, e2, e3, e4, h97, h59, hz1, hz2, callP_box (hnb _), -callP_box]
            generalize hI : iter _ _ _ = r
            obtain ⟨pf', rfl, h⟩ := iter_count 0 (fun i pf => pf 16 = .str (37 :: p') ∧ pf 18 = .str (37 :: q') ∧ pf 22 = .sl 1 (l.map .str) ∧ pf 23 = .sl 1 ((l.take i).map (fun w => .str (substL (37 :: p') (37 :: q') w))) ∧ pf 24 = .int .i64 i) l.length
              (fun i pf hi h => by
                obtain ⟨p16, p18, p22, p23, p24⟩ := h
                have hw := w64 (i := i) (by omega)
                have hal : (i + 1) * 16 ≤ 140737488355328 := by omega
                have hmi : min i l.length = i := by omega
                have hs := hsub l[i] (List.getElem_mem hi)
                have ht : l.take (i + 1) = l.take i ++ [l[i]] := by rw [List.take_add_one, hat i hi]; rfl
                have hlt2 : (l.take i).length = i := by rw [List.length_take]; omega
                rw [ht]
                simp only [] at hs
                generalize l.take i = lt at *
                simp [p16, p18, p22, p23, p24, hi, hw, hal, hlt2, hs])
              (fun pf h => by
                obtain ⟨p16, p18, p22, p23, p24⟩ := h
                simp [p16, p18, p22, p23, p24]) l.length 0 _ _ r (by omega) hI (by simp) (by omega)
            obtain ⟨p16, p18, p22, p23, p24⟩ := h
            unfold shortS
            by_cases h5 : 4000 < (joinL [32] (l.map (substL (37 :: p') (37 :: q')))).length
            · have h5' : decide (4000 < ((joinL [32] (l.map (substL (37 :: p') (37 :: q')))).length : Int)) = true := by simp; omega
              simp [Function.comp_def] at hjn
              simp [p23, hjn, h5, h5', Function.comp_def]
            · have h5' : decide (4000 < ((joinL [32] (l.map (substL (37 :: p') (37 :: q')))).length : Int)) = false := by simp; omega
              simp [Function.comp_def] at hjn
              simp [p23, hjn, h5, h5', Function.comp_def]
        · have h4' : ((x4 : Int) != 0) = true := by simp; omega
          refine ⟨.cells [.sl 3 (V.map varAV)] :: (T1 ++ T2 ++ T3 ++ T4), ?_⟩
          rw [F_fn rfl rfl rfl Tryz.func65 rfl]
          simp at e1 e2 e3 e4
          simp [runFn, Tryz.f65, e1, e2, e3, e4, h4, h4', callP_box (hnb _), -callP_box]
      · have h3' : ((x3 : Int) != 0) = true := by simp; omega
        refine ⟨.cells [.sl 3 (V.map varAV)] :: (T1 ++ T2 ++ T3), ?_⟩
        rw [F_fn rfl rfl rfl Tryz.func65 rfl]
        simp at e1 e2 e3
        simp [runFn, Tryz.f65, e1, e2, e3, h3, h3', callP_box (hnb _), -callP_box]
    · have h2' : ((x2 : Int) != 0) = true := by simp; omega
      refine ⟨.cells [.sl 3 (V.map varAV)] :: (T1 ++ T2), ?_⟩
      rw [F_fn rfl rfl rfl Tryz.func65 rfl]
      simp at e1 e2
      simp [runFn, Tryz.f65, e1, e2, h2, h2', callP_box (hnb _), -callP_box]
  · have h1' : ((x1 : Int) != 0) = true := by simp; omega
    refine ⟨.cells [.sl 3 (V.map varAV)] :: T1, ?_⟩
    rw [F_fn rfl rfl rfl Tryz.func65 rfl]
    simp at e1
    simp [runFn, Tryz.f65, e1, h1, h1', callP_box (hnb _), -callP_box]

end
end Go.Proofs.YtmcfnnpihlediaaGreatDoor.Ex
