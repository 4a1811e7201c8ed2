/- The law VarsAssign of chapter 11 holds: for every input the call returns true, and each argument reads afterwards as it read before. Conditions: the listed variables of Go's library hold what their initialisers lay (the card ties them to the program's text). -/
import Derived.Test.YtmcfnnpihlediaaGreatDoorAssign1
set_option linter.unusedSimpArgs false
set_option linter.unusedVariables false
set_option linter.unusedSectionVars false

/- The document's own foreach: a text for each word. -/
namespace Go.Proofs.YtmcfnnpihlediaaGreatDoor.Ex
open Go
attribute [-simp] rgn rgnD exec_seq exec_cond exec_block keepS

/-- What foreach tells once its name is known. -/
def eachA (E : Exp) (V : Vs) (own b c : Str) (m : Nat) : Ans :=
  if (E V m b).1.2 = 0 then wordsS (eachS E V own c) (E V m b).2 (E V m b).1.1 else (([], (E V m b).1.2), (E V m b).2)

section
variable [XX]

def EachR (n k : Nat) : Prop := ∀ (V : Vs) (own b c : Str) (id m : Nat) (S : Obs), okV V (k + 1) → own.length ≤ 200000 → b.length ≤ 200000 → c.length ≤ 200000 → S[id]? = some (.cells [.int .i64 m]) → m ≤ 2000 →
  ∃ T, F n (.f 94) [.box id 0, varsAV V, .str own, .str b, .str c, .int .i64 (20 - k : Nat)] S = some ([.str (eachA (expS (lev k)) V own b c m).1.1, .int .i64 (eachA (expS (lev k)) V own b c m).1.2], SetN S id (eachA (expS (lev k)) V own b c m).2 ++ T)

set_option maxHeartbeats 8000000 in
theorem each_r {n k : Nat} (hn : 3000100 < n) (hE : ExpR n k) : EachR (n + 1) k := by
  intro V own b c id m S hV hl1 hl2 hl3 hS hm
  have hlt : id < S.length := (List.getElem?_eq_some_iff.1 hS).1
  obtain ⟨n, rfl⟩ : ∃ z, n = z + 2 := ⟨n - 2, by omega⟩
  have hEV := fun (t : Str) (m' : Nat) (T : Obs) ht hm' => hE V t id m' (SetN S id m' ++ T) (okV_pre hV) ht (SetN_atA hlt) hm'
  have hE2 := fun (w : Str) (m' : Nat) (T : Obs) (hw : w.length ≤ 200000) hm' => hE (setV (own, w, true) V) c id m' (SetN S id m' ++ T) (okV_set (x := (own, w, true)) hV (by simpa using hw)) hl3 (SetN_atA hlt) hm'
  have hEg := fun n t hn' he => expS_good k V n t hn' he
  have hfg := eachS_good (expS_good k) V own c
  have hfl : ∀ n t, n ≤ 2000 → (eachS (expS (lev k)) V own c n t).1.2 = 0 → (eachS (expS (lev k)) V own c n t).1.1.length ≤ 4000 := by
    intro n t hn he
    unfold eachS at he ⊢
    split at he
    · simp at he
    · rename_i h0
      rw [if_neg h0]
      exact expS_len k _ (n + 1) c (by omega) he
  have h22 := fun w => v22 (n + 1) V (own, w, true) hV.1 (by have := hV.2.1; omega) (by have := hV.2.1; omega)
  have hnb := noBox_b id
  unfold eachA
  generalize hd : 20 - k = d at *
  simp only [SetN_app2 hlt] at hEV
  simp only [SetN_app2 hlt] at hE2
  simp only [CP, varsAV, rowAV, varAV] at hEV hE2 h22 ⊢
  obtain ⟨T1, e1⟩ := hEV b m [.cells [.sl 3 (V.map varAV)]] hl2 hm
  rw [SetN_same hS] at e1
  have g1 := hEg m b hm
  generalize expS (lev k) V m b = z1 at *
  obtain ⟨⟨y, x1⟩, m1⟩ := z1
  simp only at e1 g1 ⊢
  by_cases h1 : x1 = 0
  · subst h1
    obtain ⟨hm1, ly⟩ := g1 rfl
    simp only [if_true]
    have h59 := cp53 (n + 1) y (by omega) (by omega)
    simp only [CP] at h59
    have hws := wordsL_len y
    have hwm := wordsL_mem y
    unfold wordsS
    rw [F_fn rfl rfl rfl Tryz.func94 rfl]
    simp at e1
    generalize hl : wordsL y = l at *
    generalize hf : eachS (expS (lev k)) V own c = f at *
    simp [runFn, Tryz.f94, e1, h59, callP_box (hnb _), -callP_box]
    generalize hI : iter _ _ _ = r
    obtain ⟨px, cf, rfl, hD, hq⟩ := iter_cfg (fun x : Nat × Nat × List Str => l.length - x.1)
      (fun x cf => cf.D = [] ∧ (∃ T, cf.S = SetN S id x.2.1 ++ (.cells [.sl 3 (V.map varAV)] :: T)) ∧ cf.pf 0 = .box id 0 ∧ cf.pf 2 = .str own ∧ cf.pf 4 = .str c ∧ cf.pf 5 = .int .i64 d ∧ cf.pf 7 = .box S.length 0 ∧
        cf.pf 16 = .sl 1 (l.map .str) ∧ cf.pf 17 = .sl 1 (x.2.2.map .str) ∧ cf.pf 18 = .int .i64 x.1 ∧ x.1 ≤ l.length ∧ x.2.1 ≤ 2000 ∧ x.2.2.length = x.1 ∧ allS f m1 l = cmb x.2.2 (allS f x.2.1 (l.drop x.1)))
      (fun px cf => cf.D = [] ∧ ((∃ T, cf.S = SetN S id (allS f m1 l).2 ++ T) ∧
        ((px = .ret ∧ cf.pf 12 = .str [] ∧ cf.pf 13 = .int .i64 (allS f m1 l).1.2 ∧ (allS f m1 l).1.2 ≠ 0) ∨
         (px = .ex 0 ∧ cf.pf 17 = .sl 1 ((allS f m1 l).1.1.map .str) ∧ (allS f m1 l).1.2 = 0))))
      (fun x cf hc => by
        obtain ⟨i, m', out⟩ := x
        obtain ⟨pf, S', D'⟩ := cf
        obtain ⟨rfl, ⟨T, rfl⟩, p0, p2, p4, p5, p7, p16, p17, p18, hi, hm', ho, hinv⟩ := hc
        simp only at p0 p2 p4 p5 p7 p16 p17 p18 hi hm' ho hinv
        by_cases hil : i < l.length
        · have hat : l[i]? = some l[i] := List.getElem?_eq_getElem hil
          have hdrop : l.drop i = l[i] :: l.drop (i + 1) := List.drop_eq_getElem_cons hil
          have w1 : IntKind.wrap .i64 ((i : Int) + 1) = (i : Int) + 1 := wrap64 (by omega) (by omega)
          have w2 : IntKind.wrap .i64 ((m' : Int) + 1) = (m' : Int) + 1 := wrap64 (by omega) (by omega)
          have ha0 : ∀ j T, (SetN S id j ++ T)[id]? = some (.cells [.int .i64 j]) := fun j T => SetN_atA hlt
          have ha1 : ∀ T, (SetN S id (m' + 1) ++ T)[id]? = some (.cells [.int .i64 ((m' : Int) + 1)]) := fun T => ha0 (m' + 1) T
          have hst : ∀ T, (SetN S id m' ++ T).set id (.cells [.int .i64 ((m' : Int) + 1)]) = SetN S id (m' + 1) ++ T := fun T => by
            have := set_front (S := SetN S id m') (id := id) (m := m' + 1) (l := T) (by simpa using hlt)
            rw [SetN_set] at this
            exact this
          have hlw : l[i].length ≤ 200000 := by have := hwm l[i] (List.getElem_mem hil); omega
          rw [hdrop, allS_cmb] at hinv
          have hfe : f m' l[i] = if 2000 < m' + 1 then (([], 12), m' + 1) else expS (lev k) (setV (own, l[i], true) V) (m' + 1) c := by rw [← hf]; rfl
          have hgf := hfg m' l[i] hm'
          by_cases hb : 2000 < m' + 1
          · right
            have hb' : decide ((2000 : Int) < (m' : Int) + 1) = true := by simp; omega
            rw [hfe, if_pos hb] at hinv
            simp only [show ¬ (12 : Nat) = 0 by decide, if_false] at hinv
            refine ⟨.ret, _, by simp, by simp [p0, p2, p4, p5, p7, p16, p17, p18, hil, hat, ha0, ha1, hst, w1, w2, hb']; rfl, rfl, ⟨_, by rw [hinv]⟩, .inl ⟨rfl, ?_, ?_, ?_⟩⟩
            all_goals simp [hinv]
          · have hb' : decide ((2000 : Int) < (m' : Int) + 1) = false := by simp; omega
            rw [if_neg hb] at hfe
            obtain ⟨T2, e2⟩ := hE2 l[i] (m' + 1) (.cells [.sl 3 (V.map varAV)] :: T) hlw (by omega)
            rw [← hfe] at e2
            have h22w := h22 l[i]
            generalize f m' l[i] = z2 at *
            obtain ⟨⟨x, e⟩, m2⟩ := z2
            simp only at hinv e2 hgf
            generalize setV (own, l[i], true) V = V' at *
            simp at e2 h22w
            by_cases he : e = 0
            · subst he
              left
              rw [if_pos rfl] at hinv
              have hal : (out.length + 1) * 16 ≤ 140737488355328 := by omega
              exact ⟨(i + 1, m2, out ++ [x]), _, by simp [p0, p2, p4, p5, p7, p16, p17, p18, hil, hat, ha0, ha1, hst, w1, w2, hb', h22w, e2, hal, callP_box (hnb _), -callP_box]; rfl, by simp only; omega, rfl, ⟨T ++ T2, rfl⟩, by simp [p0], by simp [p2], by simp [p4], by simp [p5], by simp [p7], by simp [p16], by simp, by simp, by simp only; omega, hgf rfl, by simp; omega, hinv⟩
            · right
              rw [if_neg he] at hinv
              have he' : ((e : Int) != 0) = true := by simp; omega
              refine ⟨.ret, _, by simp, by simp [p0, p2, p4, p5, p7, p16, p17, p18, hil, hat, ha0, ha1, hst, w1, w2, hb', h22w, e2, he, he', callP_box (hnb _), -callP_box]; rfl, rfl, ⟨_, by rw [hinv]⟩, .inl ⟨rfl, ?_, ?_, ?_⟩⟩
              all_goals simp [hinv, he]
        · right
          rw [List.drop_of_length_le (by omega), show allS f m' [] = (([], 0), m') from rfl, cmb_nil] at hinv
          refine ⟨.ex 0, _, by simp, by simp [p0, p2, p4, p5, p7, p16, p17, p18, hil]; rfl, rfl, ⟨_, by rw [hinv]⟩, .inr ⟨rfl, ?_, ?_⟩⟩
          all_goals simp [hinv, p17])
      _ (0, m1, []) _ _ hI (by
        refine ⟨rfl, ⟨T1, by simp⟩, by simp, by simp, by simp, by simp, by simp, by simp, by simp, by simp, by simp, hm1, rfl, ?_⟩
        rw [List.drop_zero, cmb_start]) (by simp only; omega)
    obtain ⟨pf, S', D'⟩ := cf
    simp only at hD hq
    subst hD
    obtain ⟨⟨T, rfl⟩, hq⟩ := hq
    refine ⟨T, ?_⟩
    rcases hq with ⟨rfl, p12, p13, hne⟩ | ⟨rfl, p17, h0⟩
    · rw [if_neg hne]
      simp [p12, p13]
    · rw [if_pos h0]
      have hln := allS_lens hfg hfl l m1 hm1 h0
      have hlo := (allS_good hfg l m1 hm1 h0).2
      generalize allS f m1 l = z at *
      obtain ⟨⟨zl, ze⟩, zn⟩ := z
      simp only at p17 h0 hln hlo ⊢
      have hs := sumLen_le 4000 zl hln
      have h99 := cp25w (n + 1) zl (by omega) (by omega)
      simp only [CP] at h99
      unfold shortS
      by_cases h5 : 4000 < (joinL [32] zl).length
      · have h5' : decide (4000 < ((joinL [32] zl).length : Int)) = true := by simp; omega
        simp [p17, h99, h5, h5']
      · have h5' : decide (4000 < ((joinL [32] zl).length : Int)) = false := by simp; omega
        simp [p17, h99, h5, h5']
  · have h1' : ((x1 : Int) != 0) = true := by simp; omega
    refine ⟨.cells [.sl 3 (V.map varAV)] :: T1, ?_⟩
    rw [F_fn rfl rfl rfl Tryz.func94 rfl]
    simp at e1
    simp [runFn, Tryz.f94, e1, h1, h1', callP_box (hnb _), -callP_box]

end
end Go.Proofs.YtmcfnnpihlediaaGreatDoor.Ex

/- The document's own functions: if, foreach, call's own, a text that is called. -/
namespace Go.Proofs.YtmcfnnpihlediaaGreatDoor.Ex
open Go
attribute [-simp] rgn rgnD exec_seq exec_cond exec_block keepS

theorem dig1 : ∀ i : Fin 9, List.take 1 (List.drop i.val [49, 50, 51, 52, 53, 54, 55, 56, 57]) = decL (i.val + 1) := by decide
theorem dig2 {i : Nat} (h : i < 9) : List.take 1 (List.drop i [49, 50, 51, 52, 53, 54, 55, 56, 57]) = decL (i + 1) := dig1 ⟨i, h⟩

section
variable [XX] {n k : Nat}

set_option maxHeartbeats 8000000 in
theorem funr_if (hn : 3000100 < n) (hE : ExpR n k) (V : Vs) (a b : Str) (r : List Str) (hr : r.length ≤ 1) (id m : Nat) (S : Obs) (hV : okV V (k + 1)) (hl : ∀ x ∈ a :: b :: r, x.length ≤ 200000)
    (hS : S[id]? = some (.cells [.int .i64 m])) (hm : m ≤ 2000) :
    ∃ T, F (n + 1) (.f 63) [.box id 0, varsAV V, .str [105, 102], .sl 1 ((a :: b :: r).map .str), .int .i64 (20 - k : Nat)] S =
      some ([.str (functionS (expS (lev k)) V m [105, 102] (a :: b :: r)).1.1, .int .i64 (functionS (expS (lev k)) V m [105, 102] (a :: b :: r)).1.2], SetN S id (functionS (expS (lev k)) V m [105, 102] (a :: b :: r)).2 ++ T) := by
  have hlt : id < S.length := (List.getElem?_eq_some_iff.1 hS).1
  obtain ⟨n, rfl⟩ : ∃ z, n = z + 2 := ⟨n - 2, by omega⟩
  have hEV := fun (t : Str) (m' : Nat) (T : Obs) ht hm' => hE V t id m' (SetN S id m' ++ T) (okV_pre hV) ht (SetN_atA hlt) hm'
  have hEg := fun n t hn' he => expS_good k V n t hn' he
  have hnb := noBox_b id
  generalize hd : 20 - k = d at *
  unfold functionS
  simp only [if_true]
  generalize expS (lev k) V = E at *
  simp only [SetN_app2 hlt] at hEV
  simp only [varsAV, rowAV] at hEV ⊢
  obtain ⟨T1, e1⟩ := hEV a m [.cells [.sl 3 (V.map varAV)]] (hl a (by simp)) hm
  rw [SetN_same hS] at e1
  have g1 := hEg m a hm
  generalize E m a = z1 at *
  obtain ⟨⟨x, x1⟩, m1⟩ := z1
  simp only at e1 g1 ⊢
  by_cases h1 : x1 = 0
  · subst h1
    obtain ⟨hm1, lx⟩ := g1 rfl
    simp only [if_true]
    have h93 := cp96 (n + 1) x (by omega) (by omega)
    simp only [CP] at h93
    by_cases htr : trimB x = []
    · have t1 : List.isEmpty (trimB x) = true := by simp [htr]
      have t2 : (trimB x != []) = false := by simp [htr]
      rw [if_pos htr]
      match r, hr, hl with
      | [], _, _ =>
        refine ⟨.cells [.sl 3 (V.map varAV)] :: T1, ?_⟩
        rw [F_fn rfl rfl rfl Tryz.func63 rfl]
        simp at e1
        simp [runFn, Tryz.f63, e1, h93, t1, t2, callP_box (hnb _), -callP_box]
      | [c], _, hl =>
        obtain ⟨T2, e2⟩ := hEV c m1 (.cells [.sl 3 (V.map varAV)] :: T1) (hl c (by simp)) hm1
        simp only []
        generalize E m1 c = z2 at *
        refine ⟨.cells [.sl 3 (V.map varAV)] :: (T1 ++ T2), ?_⟩
        rw [F_fn rfl rfl rfl Tryz.func63 rfl]
        simp at e1 e2
        simp [runFn, Tryz.f63, e1, e2, h93, t1, t2, callP_box (hnb _), -callP_box]
    · have t1 : List.isEmpty (trimB x) = false := by simp [htr]
      have t2 : (trimB x != []) = true := by simp [htr]
      rw [if_neg htr]
      obtain ⟨T2, e2⟩ := hEV b m1 (.cells [.sl 3 (V.map varAV)] :: T1) (hl b (by simp)) hm1
      generalize E m1 b = z2 at *
      refine ⟨.cells [.sl 3 (V.map varAV)] :: (T1 ++ T2), ?_⟩
      rw [F_fn rfl rfl rfl Tryz.func63 rfl]
      simp at e1 e2
      simp [runFn, Tryz.f63, e1, e2, h93, t1, t2, callP_box (hnb _), -callP_box]
  · have h1' : ((x1 : Int) != 0) = true := by simp; omega
    refine ⟨.cells [.sl 3 (V.map varAV)] :: T1, ?_⟩
    rw [F_fn rfl rfl rfl Tryz.func63 rfl]
    simp at e1
    simp [runFn, Tryz.f63, e1, h1, h1', callP_box (hnb _), -callP_box]

set_option maxHeartbeats 8000000 in
theorem funr_each (hn : 3000100 < n) (hE : ExpR n k) (hC : EachR n k) (V : Vs) (a b c : Str) (id m : Nat) (S : Obs) (hV : okV V (k + 1)) (hl : ∀ x ∈ [a, b, c], x.length ≤ 200000)
    (hS : S[id]? = some (.cells [.int .i64 m])) (hm : m ≤ 2000) :
    ∃ T, F (n + 1) (.f 63) [.box id 0, varsAV V, .str [102, 111, 114, 101, 97, 99, 104], .sl 1 ([a, b, c].map .str), .int .i64 (20 - k : Nat)] S =
      some ([.str (functionS (expS (lev k)) V m [102, 111, 114, 101, 97, 99, 104] [a, b, c]).1.1, .int .i64 (functionS (expS (lev k)) V m [102, 111, 114, 101, 97, 99, 104] [a, b, c]).1.2], SetN S id (functionS (expS (lev k)) V m [102, 111, 114, 101, 97, 99, 104] [a, b, c]).2 ++ T) := by
  have hlt : id < S.length := (List.getElem?_eq_some_iff.1 hS).1
  obtain ⟨n, rfl⟩ : ∃ z, n = z + 2 := ⟨n - 2, by omega⟩
  have hEV := fun (t : Str) (m' : Nat) (T : Obs) ht hm' => hE V t id m' (SetN S id m' ++ T) (okV_pre hV) ht (SetN_atA hlt) hm'
  have hCV := fun (own : Str) (m' : Nat) (T : Obs) ho hm' => hC V own b c id m' (SetN S id m' ++ T) hV ho (hl b (by simp)) (hl c (by simp)) (SetN_atA hlt) hm'
  have hEg := fun n t hn' he => expS_good k V n t hn' he
  have hnb := noBox_b id
  generalize hd : 20 - k = d at *
  unfold functionS
  rw [if_neg (by decide), if_pos rfl]
  simp only [SetN_app2 hlt] at hEV
  simp only [SetN_app2 hlt] at hCV
  simp only [varsAV, rowAV] at hEV hCV ⊢
  obtain ⟨T1, e1⟩ := hEV a m [.cells [.sl 3 (V.map varAV)]] (hl a (by simp)) hm
  rw [SetN_same hS] at e1
  have g1 := hEg m a hm
  simp only [allS]
  generalize expS (lev k) V m a = z1 at *
  obtain ⟨⟨x, x1⟩, m1⟩ := z1
  simp only at e1 g1 ⊢
  by_cases h1 : x1 = 0
  · subst h1
    obtain ⟨hm1, lx⟩ := g1 rfl
    simp only [if_true]
    have h93 := cp96 (n + 1) x (by omega) (by omega)
    simp only [CP] at h93
    have hxt : (trimB x).length ≤ x.length := trimB_len x
    obtain ⟨T2, e2⟩ := hCV (trimB x) m1 (.cells [.sl 3 (V.map varAV)] :: T1) (by omega) hm1
    have hz : ∀ z : Ans, (z = if (expS (lev k) V m1 b).1.2 = 0 then wordsS (eachS (expS (lev k)) V (trimB x) c) (expS (lev k) V m1 b).2 (expS (lev k) V m1 b).1.1 else (([], (expS (lev k) V m1 b).1.2), (expS (lev k) V m1 b).2)) → z = eachA (expS (lev k)) V (trimB x) b c m1 := fun z h => h
    have key : (match (if (if (expS (lev k) V m1 b).1.2 = 0 then ((([(expS (lev k) V m1 b).1.1], 0), (expS (lev k) V m1 b).2) : (List Str × Nat) × Nat) else (([], (expS (lev k) V m1 b).1.2), (expS (lev k) V m1 b).2)).1.2 = 0 then
          (((x :: (if (expS (lev k) V m1 b).1.2 = 0 then ((([(expS (lev k) V m1 b).1.1], 0), (expS (lev k) V m1 b).2) : (List Str × Nat) × Nat) else (([], (expS (lev k) V m1 b).1.2), (expS (lev k) V m1 b).2)).1.1, 0), (if (expS (lev k) V m1 b).1.2 = 0 then ((([(expS (lev k) V m1 b).1.1], 0), (expS (lev k) V m1 b).2) : (List Str × Nat) × Nat) else (([], (expS (lev k) V m1 b).1.2), (expS (lev k) V m1 b).2)).2) : (List Str × Nat) × Nat)
        else (([], (if (expS (lev k) V m1 b).1.2 = 0 then ((([(expS (lev k) V m1 b).1.1], 0), (expS (lev k) V m1 b).2) : (List Str × Nat) × Nat) else (([], (expS (lev k) V m1 b).1.2), (expS (lev k) V m1 b).2)).1.2), (if (expS (lev k) V m1 b).1.2 = 0 then ((([(expS (lev k) V m1 b).1.1], 0), (expS (lev k) V m1 b).2) : (List Str × Nat) × Nat) else (([], (expS (lev k) V m1 b).1.2), (expS (lev k) V m1 b).2)).2)) with
      | ((l, e), n1) => if e = 0 then (match l with | [x, y] => wordsS (eachS (expS (lev k)) V (trimB x) c) n1 y | _ => (([], 0), n1)) else (([], e), n1)) = eachA (expS (lev k)) V (trimB x) b c m1 := by
      unfold eachA
      by_cases h2 : (expS (lev k) V m1 b).1.2 = 0
      · simp [h2]
      · simp [h2]
    refine ⟨.cells [.sl 3 (V.map varAV)] :: (T1 ++ T2), ?_⟩
    rw [F_fn rfl rfl rfl Tryz.func63 rfl]
    generalize hy : eachA (expS (lev k)) V (trimB x) b c m1 = y at *
    refine Eq.trans ?_ (congrArg (fun y : Ans => some ([AV.str y.1.1, AV.int .i64 y.1.2], SetN S id y.2 ++ (.cells [.sl 3 (V.map varAV)] :: (T1 ++ T2)))) (Eq.symm ?_) : some ([AV.str y.1.1, AV.int .i64 y.1.2], SetN S id y.2 ++ (.cells [.sl 3 (V.map varAV)] :: (T1 ++ T2))) = _)
    · simp at e1 e2
      simp [runFn, Tryz.f63, e1, e2, h93, callP_box (hnb _), -callP_box]
    · exact key
  · have h1' : ((x1 : Int) != 0) = true := by simp; omega
    refine ⟨.cells [.sl 3 (V.map varAV)] :: T1, ?_⟩
    rw [F_fn rfl rfl rfl Tryz.func63 rfl]
    simp at e1
    simp [runFn, Tryz.f63, e1, h1, h1', callP_box (hnb _), -callP_box]

end
end Go.Proofs.YtmcfnnpihlediaaGreatDoor.Ex

/- The document's own functions: call's own, a text that is called. -/
namespace Go.Proofs.YtmcfnnpihlediaaGreatDoor.Ex
open Go
attribute [-simp] rgn rgnD exec_seq exec_cond exec_block keepS

section
variable [XX] {n k : Nat}

set_option maxHeartbeats 8000000 in
theorem funr_rest (hn : 44000100 < n) (hE : ExpR n k) (V : Vs) (name : Str) (n1 : name ≠ [105, 102]) (n2 : name ≠ [102, 111, 114, 101, 97, 99, 104]) (a : Str) (r : List Str) (hal : (a :: r).length ≤ 9) (hcal : name ≠ [99, 97, 108, 108] → (a :: r).length ≤ 6) (id m : Nat) (S : Obs) (hV : okV V (k + 1)) (hl : ∀ x ∈ a :: r, x.length ≤ 200000)
    (hS : S[id]? = some (.cells [.int .i64 m])) (hm : m ≤ 2000) :
    ∃ T, F (n + 1) (.f 63) [.box id 0, varsAV V, .str name, .sl 1 ((a :: r).map .str), .int .i64 (20 - k : Nat)] S =
      some ([.str (functionS (expS (lev k)) V m name (a :: r)).1.1, .int .i64 (functionS (expS (lev k)) V m name (a :: r)).1.2], SetN S id (functionS (expS (lev k)) V m name (a :: r)).2 ++ T) := by
  have hlt : id < S.length := (List.getElem?_eq_some_iff.1 hS).1
  obtain ⟨n, rfl⟩ : ∃ z, n = z + 2 := ⟨n - 2, by omega⟩
  have hEV := fun (t : Str) (m' : Nat) (T : Obs) ht hm' => hE V t id m' (SetN S id m' ++ T) (okV_pre hV) ht (SetN_atA hlt) hm'
  have hE3 := fun (V' : Vs) (t : Str) (m' : Nat) (T : Obs) hV' ht hm' => hE V' t id m' (SetN S id m' ++ T) hV' ht (SetN_atA hlt) hm'
  have hEg := fun n t hn' he => expS_good k V n t hn' he
  have hlens := fun hm h0 => allS_lens ((expS_good k).w V) (fun n t h1 h2 => expS_len k V n t h1 h2) (a :: r) m hm h0
  have hgood := fun hm h0 => allS_good ((expS_good k).w V) (a :: r) m hm h0
  have hnb := noBox_b id
  have b1 : (name == [105, 102]) = false := by simpa using n1
  have b2 : (name == [102, 111, 114, 101, 97, 99, 104]) = false := by simpa using n2
  generalize hd : 20 - k = d at *
  unfold functionS
  rw [if_neg n1, if_neg n2]
  simp only [SetN_app2 hlt] at hEV
  simp only [SetN_app2 hlt] at hE3
  simp only [varsAV, rowAV] at hEV hE3 ⊢
  obtain ⟨T1, e1⟩ := hEV a m [.cells [.sl 3 (V.map varAV)]] (hl a (by simp)) hm
  rw [SetN_same hS] at e1
  have g1 := hEg m a hm
  have hst := allS_cmb (expS (lev k) V) m a r []
  rw [cmb_start] at hst
  generalize hEE : expS (lev k) V = E at *
  generalize E m a = z1 at *
  obtain ⟨⟨x, x1⟩, m1⟩ := z1
  simp only at e1 g1 hst ⊢
  by_cases h1 : x1 = 0
  · subst h1
    obtain ⟨hm1, lx⟩ := g1 rfl
    rw [if_pos rfl] at hst
    simp at e1
    rw [F_fn rfl rfl rfl Tryz.func63 rfl]
    obtain ⟨l, hal'⟩ : ∃ l, l = a :: r := ⟨_, rfl⟩
    rw [← hal'] at hst hal hcal hl hlens hgood
    simp [runFn, Tryz.f63, b1, b2, e1, callP_box (hnb _), -callP_box]
    generalize hI : iter _ _ _ = q
    rw [← hal']
    have hlp : 0 < l.length := by rw [hal']; simp
    generalize hZ : allS E m l = Z at *
    obtain ⟨px, cf, rfl, hD, hq⟩ := iter_cfg (fun x : Nat × Nat × List Str => l.length - x.1)
      (fun y cf => cf.D = [] ∧ (∃ T, cf.S = SetN S id y.2.1 ++ (.cells [.sl 3 (V.map varAV)] :: T)) ∧ cf.pf 0 = .box id 0 ∧ cf.pf 2 = .str name ∧ cf.pf 3 = .sl 1 (l.map .str) ∧ cf.pf 4 = .int .i64 d ∧ cf.pf 6 = .box S.length 0 ∧
        cf.pf 12 = .str x ∧ cf.pf 14 = .sl 1 ((x :: y.2.2).map .str) ∧ cf.pf 15 = .int .i64 y.1 ∧ y.1 ≤ l.length ∧ y.2.1 ≤ 2000 ∧ (x :: y.2.2).length = y.1 ∧ Z = cmb (x :: y.2.2) (allS E y.2.1 (l.drop y.1)))
      (fun px cf => cf.D = [] ∧
        ((px = .ret ∧ (∃ T, cf.S = SetN S id Z.2 ++ T) ∧ cf.pf 10 = .str [] ∧ cf.pf 11 = .int .i64 Z.1.2 ∧ Z.1.2 ≠ 0) ∨
         (px = .ex 1 ∧ ∃ out m2, Z = ((x :: out, 0), m2) ∧ (∃ T, cf.S = SetN S id m2 ++ (.cells [.sl 3 (V.map varAV)] :: T)) ∧ cf.pf 0 = .box id 0 ∧ cf.pf 2 = .str name ∧ cf.pf 4 = .int .i64 d ∧ cf.pf 6 = .box S.length 0 ∧
            cf.pf 12 = .str x ∧ cf.pf 14 = .sl 1 ((x :: out).map .str))))
      (fun y cf hc => by
        obtain ⟨i, m', out⟩ := y
        obtain ⟨pf, S', D'⟩ := cf
        obtain ⟨rfl, ⟨T, rfl⟩, p0, p2, p3, p4, p6, p12, p14, p15, hi, hm', ho, hinv⟩ := hc
        simp only at p0 p2 p3 p4 p6 p12 p14 p15 hi hm' ho hinv
        by_cases hil : i < l.length
        · have hat : l[i]? = some l[i] := List.getElem?_eq_getElem hil
          have hdrop : l.drop i = l[i] :: l.drop (i + 1) := List.drop_eq_getElem_cons hil
          have w1 : IntKind.wrap .i64 ((i : Int) + 1) = (i : Int) + 1 := wrap64 (by omega) (by omega)
          rw [hdrop, allS_cmb] at hinv
          obtain ⟨T2, e2⟩ := hEV l[i] m' (.cells [.sl 3 (V.map varAV)] :: T) (hl _ (List.getElem_mem hil)) hm'
          have hg := hEg m' l[i] hm'
          generalize E m' l[i] = z2 at *
          obtain ⟨⟨y, e⟩, m2⟩ := z2
          simp only at hinv e2 hg
          simp at e2
          by_cases he : e = 0
          · subst he
            left
            rw [if_pos rfl] at hinv
            have hal2 : (out.length + 1 + 1) * 16 ≤ 140737488355328 := by simp only [List.length_cons] at ho; omega
            exact ⟨(i + 1, m2, out ++ [y]), _, by simp [p0, p2, p3, p4, p6, p12, p14, p15, hil, hat, w1, e2, hal2, callP_box (hnb _), -callP_box]; rfl, by simp only; omega, rfl, ⟨T ++ T2, rfl⟩, by simp [p0], by simp [p2], by simp [p3], by simp [p4], by simp [p6], by simp [p12], by simp, by simp, by simp only; omega, (hg rfl).1, by simp only [List.length_cons, List.length_append, List.length_nil] at ho ⊢; omega, hinv⟩
          · right
            rw [if_neg he] at hinv
            have he' : ((e : Int) != 0) = true := by simp; omega
            refine ⟨.ret, _, by simp, by simp [p0, p2, p3, p4, p6, p12, p14, p15, hil, hat, w1, e2, he, he', callP_box (hnb _), -callP_box]; rfl, rfl, .inl ⟨rfl, ⟨_, by rw [hinv]⟩, ?_, ?_, ?_⟩⟩
            all_goals simp [hinv, he]
        · right
          rw [List.drop_of_length_le (by omega), show allS E m' [] = (([], 0), m') from rfl, cmb_nil] at hinv
          refine ⟨.ex 1, _, by simp, by simp [p0, p2, p3, p4, p6, p12, p14, p15, hil]; rfl, rfl, .inr ⟨rfl, out, m', hinv, ⟨T, rfl⟩, ?_⟩⟩
          simp [p0, p2, p4, p6, p12, p14])
      _ (1, m1, []) _ _ hI (by
        refine ⟨rfl, ⟨T1, by simp⟩, by simp, by simp, by simp [hal'], by simp, by simp, by simp, by simp, by simp, by simp only; omega, hm1, rfl, ?_⟩
        rw [hst, hal']; rfl) (by simp only; omega)
    obtain ⟨pf, S', D'⟩ := cf
    simp only at hD hq
    subst hD
    rcases hq with ⟨rfl, ⟨T, rfl⟩, p10, p11, hne⟩ | ⟨rfl, out, m2, hZ2, ⟨T, rfl⟩, p0, p2, p4, p6, p12, p14⟩
    · refine ⟨T, ?_⟩
      obtain ⟨⟨zl, ze⟩, zn⟩ := Z
      simp only at hne p11 ⊢
      rw [if_neg hne]
      simp [p10, p11]
    · subst hZ2
      have hlen := hlens hm rfl
      obtain ⟨hm2, hgl⟩ := hgood hm rfl
      simp only at hlen hm2 hgl
      simp only [if_true]
      by_cases hc : name = [99, 97, 108, 108]
      · subst hc
        simp only [if_true]
        have htl : (trimB x).length ≤ x.length := trimB_len x
        have h93 := cp96 (n + 1) x (by omega) (by omega)
        have h16 := v16 (n + 1) V (trimB x) (by have := hV.2.1; omega) (by have := hV.2.1; omega)
        simp only [CP] at h93
        have hbc : (([99, 97, 108, 108] : Str) != [99, 97, 108, 108]) = false := by decide
        cases hg : getV V (trimB x) with
        | none =>
          have e : gotL V (trimB x) = (([], [], false), false) := by simp [gotL, hg]
          rw [e] at h16
          simp only [CP, varsAV, rowAV, varAV] at h16
          refine ⟨.cells [.sl 3 (V.map varAV)] :: (T ++ [.cells [.str [], .str [], .bool false]]), ?_⟩
          simp [p0, p2, p4, p6, p12, p14, h93, h16, hbc, zeroCells]
        | some v =>
          obtain ⟨vn, vt, vs⟩ := v
          have e : gotL V (trimB x) = ((vn, vt, vs), true) := by simp [gotL, hg]
          rw [e] at h16
          simp only [CP, varsAV, rowAV, varAV] at h16
          have hvt : vt.length ≤ 200000 := hV.2.2 _ (List.mem_of_find?_eq_some hg)
          have h22 := v22 (n + 1) V ([48], trimB x, true) hV.1 (by have := hV.2.1; omega) (by have := hV.2.1; omega)
          simp only [CP, varsAV, rowAV, varAV] at h22
          have hvsl := setV_len ([48], trimB x, true) V
          have hord := ordV_set ([48], trimB x, true) hV.1
          have hmem0 : ∀ y ∈ setV ([48], trimB x, true) V, y.2.1.length ≤ 200000 := fun y hy => by
            rcases setV_mem _ _ _ hy with rfl | hy
            · simp only; omega
            · exact hV.2.2 y hy
          generalize hV0 : setV ([48], trimB x, true) V = V0 at *
          simp [p0, p2, p4, p6, p12, p14, h93, h16, h22, hbc, zeroCells]
          generalize hI : iter _ _ _ = q
          have hol : out.length ≤ 8 := by simp only [List.length_cons] at hgl; omega
          obtain ⟨px, c, rfl, rfl, hD, ⟨T', c2⟩, q0, q4, q19, q21, hok⟩ := iter_cfg (fun y : Nat × Vs => out.length + 1 - y.1)
            (fun y c => c.D = [] ∧ (∃ T', c.S = SetN S id m2 ++ (.cells [.sl 3 (V.map varAV)] :: (T ++ .cells [.str vn, .str vt, .bool vs] :: .cells [.sl 3 (y.2.map varAV)] :: T'))) ∧
              c.pf 0 = .box id 0 ∧ c.pf 4 = .int .i64 d ∧ c.pf 14 = .sl 1 ((x :: out).map .str) ∧ c.pf 19 = .box (S.length + (T.length + 1)) 0 ∧ c.pf 21 = .box (S.length + (T.length + 1 + 1)) 0 ∧ c.pf 22 = .int .i64 y.1 ∧
              1 ≤ y.1 ∧ y.1 ≤ out.length + 1 ∧ ordV y.2 = true ∧ y.2.length ≤ V.length + y.1 ∧ (∀ v ∈ y.2, v.2.1.length ≤ 200000) ∧ setArgs y.1 (out.drop (y.1 - 1)) y.2 = setArgs 1 out V0)
            (fun px c => px = .ex 3 ∧ c.D = [] ∧ (∃ T', c.S = SetN S id m2 ++ (.cells [.sl 3 (V.map varAV)] :: (T ++ .cells [.str vn, .str vt, .bool vs] :: .cells [.sl 3 ((setArgs 1 out V0).map varAV)] :: T'))) ∧
              c.pf 0 = .box id 0 ∧ c.pf 4 = .int .i64 d ∧ c.pf 19 = .box (S.length + (T.length + 1)) 0 ∧ c.pf 21 = .box (S.length + (T.length + 1 + 1)) 0 ∧ okV (setArgs 1 out V0) k)
            (fun y c hcc => by
              obtain ⟨i, V2⟩ := y
              obtain ⟨pf, S', D'⟩ := c
              obtain ⟨rfl, ⟨T', rfl⟩, p0, p4, p14, p19, p21, p22, hi1, hi, ho, hl2, hm2', hinv⟩ := hcc
              simp only at p0 p4 p14 p19 p21 p22 hi1 hi ho hl2 hm2' hinv
              obtain ⟨i, rfl⟩ : ∃ j, i = j + 1 := ⟨i - 1, by omega⟩
              simp only [Nat.add_sub_cancel] at hinv
              by_cases hil : i < out.length
              · left
                have hat : out[i]? = some out[i] := List.getElem?_eq_getElem hil
                have hdr : out.drop i = out[i] :: out.drop (i + 1) := List.drop_eq_getElem_cons hil
                rw [hdr, setArgs] at hinv
                have hri : out[i].length ≤ 4000 := hlen out[i] (List.mem_cons_of_mem _ (List.getElem_mem hil))
                have hw := v22 (n + 1) V2 (decL (i + 1), out[i], true) ho (by have := hV.2.1; omega) (by have := hV.2.1; omega)
                simp only [CP, varsAV, rowAV, varAV] at hw
                have w1 : IntKind.wrap .i64 ((i : Int) + 1 + 1) = (i : Int) + 1 + 1 := wrap64 (by omega) (by omega)
                have hsl := setV_len (decL (i + 1), out[i], true) V2
                have hdg := dig2 (i := i) (by omega)
                have z1 : (0 : Int) ≤ (i : Int) + 1 := by omega
                have z2 : (i : Int) + 1 ≤ (i : Int) + 1 + 1 := by omega
                have z3 : (i : Int) + 1 + 1 ≤ 10 := by omega
                have z4 : ((i : Int) + 1).toNat = i + 1 := by omega
                have z5 : ((i : Int) + 1 + 1).toNat = i + 1 + 1 := by omega
                have z6 : (i : Int) + 1 < (out.length : Int) + 1 := by omega
                have z7 : i + 1 + 1 - (i + 1) = 1 := by omega
                have z8 : i + 1 < out.length + 1 := by omega
                have z9 : (0 : Int) ≤ (i : Int) + 1 + 1 := by omega
                have hord2 := ordV_set (decL (i + 1), out[i], true) ho
                have hmem2 : ∀ y ∈ setV (decL (i + 1), out[i], true) V2, y.2.1.length ≤ 200000 := fun y hy => by
                  rcases setV_mem _ _ _ hy with rfl | hy
                  · simp only; omega
                  · exact hm2' y hy
                generalize setV (decL (i + 1), out[i], true) V2 = V2' at *
                exact ⟨(i + 1 + 1, V2'), _, by simp [p0, p4, p14, p19, p21, p22, hil, hat, w1, hw, hdg, z1, z2, z3, z4, z5, z6, z7, z8, z9]; rfl, by simp only; omega, rfl, ⟨T', by simp⟩, by simp [p0], by simp [p4], by simp [p14], by simp [p19], by simp [p21], by simp, by simp only; omega, by simp only; omega, hord2, by simp only; omega, hmem2, by simpa using hinv⟩
              · right
                have z6 : ¬ (i : Int) + 1 < (out.length : Int) + 1 := by omega
                rw [List.drop_of_length_le (by omega), setArgs] at hinv
                have hok2 : okV V2 k := ⟨ho, by have := hV.2.1; omega, hm2'⟩
                rw [hinv] at hok2
                refine ⟨.ex 3, _, by simp, by simp [p0, p4, p14, p19, p21, p22, hil, z6]; rfl, rfl, rfl, ⟨T', by rw [hinv]⟩, by simp [p0], by simp [p4], by simp [p19], by simp [p21], hok2⟩)
            _ (1, V0) _ _ hI ⟨rfl, ⟨[], by simp⟩, by simp [p0], by simp [p4], by simp [p14], by simp, by simp, by simp, by simp, by simp, hord, by simp only; omega, hmem0, by simp⟩ (by simp only; omega)
          obtain ⟨pf, S', D'⟩ := c
          simp only at hD c2 q0 q4 q19 q21
          subst hD c2
          generalize setArgs 1 out V0 = V3 at *
          obtain ⟨T3, h23⟩ := hE3 V3 vt m2 (.cells [.sl 3 (V.map varAV)] :: (T ++ .cells [.str vn, .str vt, .bool vs] :: .cells [.sl 3 (V3.map varAV)] :: T')) hok hvt hm2
          generalize expS (lev k) V3 m2 vt = y at *
          refine ⟨(.cells [.sl 3 (V.map varAV)] :: (T ++ .cells [.str vn, .str vt, .bool vs] :: .cells [.sl 3 (V3.map varAV)] :: T')) ++ T3, ?_⟩
          simp at h23
          simp [q0, q4, q19, q21, h23, callP_box (hnb _), -callP_box]
      · have hc' : (name != [99, 97, 108, 108]) = true := by simpa using hc
        have hc2 : (name == [99, 97, 108, 108]) = false := by simpa using hc
        rw [if_neg hc]
        have h95 := cp15 (n + 1) (by omega) name (x :: out) hlen (by rw [hgl]; exact hcal hc)
        simp only [CP] at h95
        simp at h95
        refine ⟨.cells [.sl 3 (V.map varAV)] :: T, ?_⟩
        simp [p0, p2, p4, p6, p12, p14, h95, hc', hc2, hc]
  · have h1' : ((x1 : Int) != 0) = true := by simp; omega
    rw [if_neg h1] at hst
    refine ⟨.cells [.sl 3 (V.map varAV)] :: T1, ?_⟩
    rw [F_fn rfl rfl rfl Tryz.func63 rfl, hst]
    simp at e1
    simp [runFn, Tryz.f63, e1, h1, h1', callP_box (hnb _), -callP_box]

end
end Go.Proofs.YtmcfnnpihlediaaGreatDoor.Ex

/- The document's own references. -/
namespace Go.Proofs.YtmcfnnpihlediaaGreatDoor.Ex
open Go
attribute [-simp] rgn rgnD exec_seq exec_cond exec_block keepS

theorem ref_word [XX] (c : Str) : (∃ i w rest, idxBl c = some (i + 1) ∧ c.take (i + 1) = w ∧ wordsL c = w :: rest ∧ w.length = i + 1 ∧ w.length < c.length) ∨
    ((∀ i, idxBl c ≠ some (i + 1)) ∧ (wordsL c = [] ∨ ∃ w rest, wordsL c = w :: rest ∧ (c.length ≤ w.length ∨ (w.length < c.length ∧ c.take w.length ≠ w)))) := by
  cases c with
  | nil => exact .inr ⟨fun i h => (by cases h), .inl rfl⟩
  | cons x r =>
    by_cases hx : isBl x = true
    · refine .inr ⟨fun i h => (by simp [idxBl, hx] at h), ?_⟩
      cases hw : wordsL (x :: r) with
      | nil => exact .inl rfl
      | cons w rest =>
        refine .inr ⟨w, rest, rfl, ?_⟩
        have hok := wordsL_okW (x :: r) w (by rw [hw]; simp)
        by_cases hlen : w.length < (x :: r).length
        · refine .inr ⟨hlen, fun he => ?_⟩
          cases w with
          | nil => simp [okW] at hok
          | cons y w' =>
            rw [List.length_cons, List.take_succ_cons] at he
            injection he with he _
            subst he
            simp [okW, hx] at hok
        · exact .inl (by omega)
    · have hx' : isBl x = false := by simpa using hx
      have hw := wordsL_word x r hx'
      cases hi : idxBl (x :: r) with
      | none =>
        refine .inr ⟨fun i h => (nomatch h), .inr ⟨_, _, hw, .inl ?_⟩⟩
        rw [(idxBl_none _ hi).1]
        exact Nat.le_refl _
      | some j =>
        have hlt := idxBl_lt hi
        obtain ⟨h1, h2, h3⟩ := idxBl_some _ _ hi
        cases j with
        | zero => simp [idxBl, hx'] at hi
        | succ j =>
          have hl : ((x :: r).take (j + 1)).length = j + 1 := by rw [List.length_take]; omega
          exact .inl ⟨j, (x :: r).take (j + 1), _, rfl, rfl, by rw [h1]; exact hw, hl, by omega⟩

section
variable [XX] {n k : Nat}

def FunR (n k : Nat) : Prop := ∀ (V : Vs) (name : Str) (args : List Str) (id m : Nat) (S : Obs), okV V (k + 1) → (∀ x ∈ args, x.length ≤ 200000) → args.length ≤ 9 → (takesL name).1 ≤ args.length → args.length ≤ (takesL name).2 → 1 ≤ args.length → S[id]? = some (.cells [.int .i64 m]) → m ≤ 2000 →
  ∃ T, F n (.f 63) [.box id 0, varsAV V, .str name, .sl 1 (args.map .str), .int .i64 (20 - k : Nat)] S =
    some ([.str (functionS (expS (lev k)) V m name args).1.1, .int .i64 (functionS (expS (lev k)) V m name args).1.2], SetN S id (functionS (expS (lev k)) V m name args).2 ++ T)

theorem function_r (hn : 44000200 < n) (hE : ∀ j, n ≤ j + 1 → ExpR j k) : FunR (n + 1) k := by
  intro V name args id m S hV hl h9 hlo hhi h1 hS hm
  have hEn : ExpR n k := hE n (by omega)
  by_cases n1 : name = [105, 102]
  · subst n1
    simp only [takesL, if_true] at hlo hhi
    match args, hlo, hhi, hl with
    | a :: b :: r, _, hhi, hl => exact funr_if (by omega) hEn V a b r (by simp at hhi; omega) id m S hV hl hS hm
    | [a], hlo, _, _ => simp at hlo
    | [], hlo, _, _ => simp at hlo
  · by_cases n2 : name = [102, 111, 114, 101, 97, 99, 104]
    · subst n2
      rw [takesL, if_neg (by decide), if_pos rfl] at hlo hhi
      match args, hlo, hhi, hl with
      | [a, b, c], _, _, hl =>
        refine funr_each (by omega) hEn ?_ V a b c id m S hV hl hS hm
        obtain ⟨q, rfl⟩ : ∃ q, n = q + 1 := ⟨n - 1, by omega⟩
        exact each_r (by omega) (hE q (by omega))
      | [], hlo, _, _ => simp at hlo
      | [a], hlo, _, _ => simp at hlo
      | [a, b], hlo, _, _ => simp at hlo
      | _ :: _ :: _ :: _ :: _, _, hhi, _ => simp at hhi
    · match args, h1, h9, hlo, hhi, hl with
      | a :: r, _, h9, hlo, hhi, hl =>
        refine funr_rest (by omega) hEn V name n1 n2 a r h9 (fun hc => ?_) id m S hV hl hS hm
        have h : manyL name ≤ 3 := by unfold manyL; split; omega; split; omega; split <;> omega
        rw [takesL, if_neg n1, if_neg n2, if_neg hc] at hhi
        simp only at hhi
        omega
      | [], h1, _, _, _, _ => simp at h1

set_option maxHeartbeats 16000000 in
theorem refer_r (hk : k ≤ 20) (hn : 3000100 < n) (hF : ∀ j, k = j + 1 → FunR n j) (hT : ∀ j, k = j + 1 → TurnR n j) (hE : ∀ j, k = j + 1 → ExpR n j) (hW : ∀ j, k = j + 1 → ValR n j) : RefR (n + 1) k := by
  intro V c id m S hV hcl hS hm
  have hlt : id < S.length := (List.getElem?_eq_some_iff.1 hS).1
  obtain ⟨n, rfl⟩ : ∃ q, n = q + 2 := ⟨n - 2, by omega⟩
  have hS2 : ∀ l : Obs, (S ++ l)[id]? = some (.cells [.int .i64 m]) := fun l => by rw [List.getElem?_append_left hlt]; exact hS
  have h58 := fun l => v58 (n + 1) (20 - k) id m (S ++ l) (hS2 l) (by omega) (by omega)
  simp only [SetN_app hlt] at h58
  have hnb := noBox_b id
  unfold refS
  cases k with
  | zero =>
    simp only [lev]
    have e : inS (20 - 0) m = (15, m) := by simp [inS]
    rw [e] at h58
    refine ⟨[.cells [rowAV V]], ?_⟩
    rw [F_fn rfl rfl rfl Tryz.func40 rfl]
    simp at h58
    simp [runFn, Tryz.f40, varsAV, rowAV, zeroCells, h58, SetN_same hS, callP_box (hnb _), -callP_box]
  | succ k =>
    simp only [lev_succ]
    have hd20 : ¬ 20 ≤ 20 - (k + 1) := by omega
    have w1 : IntKind.wrap .i64 (((20 - (k + 1) : Nat) : Int) + 1) = ((20 - k : Nat) : Int) := by rw [wrap64 (by omega) (by omega)]; omega
    by_cases hb : 2000 < m + 1
    · have e : inS (20 - (k + 1)) m = (12, m + 1) := by simp only [inS, if_neg hd20, if_pos hb]
      rw [e] at h58
      rw [if_pos hb]
      refine ⟨[.cells [rowAV V]], ?_⟩
      rw [F_fn rfl rfl rfl Tryz.func40 rfl]
      generalize 20 - (k + 1) = d at *
      simp at h58
      simp [runFn, Tryz.f40, varsAV, rowAV, zeroCells, h58, callP_box (hnb _), -callP_box]
    · have e : inS (20 - (k + 1)) m = (0, m + 1) := by simp only [inS, if_neg hd20, if_neg hb]
      rw [e] at h58
      rw [if_neg hb]
      have hV' : okV V k := okV_le hV (by omega)
      have hm1 : m + 1 ≤ 2000 := by omega
      have hFV := fun (name : Str) (args : List Str) (l : Obs) h1 h2 h3 h4 h5 => hF k rfl V name args id (m + 1) (SetN S id (m + 1) ++ l) hV h1 h2 h3 h4 h5 (SetN_atA hlt) hm1
      have hTV := fun (a p q : Str) (l : Obs) h1 h2 h3 => hT k rfl V a p q id (m + 1) (SetN S id (m + 1) ++ l) hV' h1 h2 h3 (SetN_atA hlt) hm1
      have hEV := fun (l : Obs) => hE k rfl V c id (m + 1) (SetN S id (m + 1) ++ l) hV' hcl (SetN_atA hlt) hm1
      have hWV := fun (name : Str) (m1 : Nat) (l : Obs) h1 => hW k rfl V name id m1 (SetN S id m1 ++ l) hV' (SetN_atA hlt) h1
      have hg := expS_good k V (m + 1) c hm1
      have h59 := cp53 (n + 1) c (by omega) (by omega)
      have h64 : ∀ t g, t.length ≤ 200000 → g.length ≤ 5 → callP (F (n + 2)) (.f 64) [.str t, .sl 1 [.str g]] = some (.tup [.str (cutS t [g]).1, .str (cutS t [g]).2.1, .str (cutS t [g]).2.2]) := fun t g ht hg => v64 (n + 1) t [g] (by omega) (by simp) (by simp; omega) (by simp; omega)
      have k1 := h64 c [58] hcl (by simp)
      have cl1 := cutS_len c [[58]]
      have k2 := h64 (cutS c [[58]]).2.2 [61] (by omega) (by simp)
      have cl2 := cutS_len (cutS c [[58]]).2.2 [[61]]
      have h60 := fun w => v60 n w
      simp only [CP] at h59 h60
      simp only [SetN_app2 hlt] at hFV
      simp only [SetN_app2 hlt] at hTV
      simp only [SetN_app2 hlt] at hEV
      simp only [SetN_app2 hlt] at hWV
      generalize hdd : 20 - (k + 1) = d0 at *
      generalize hd : 20 - k = d at *
      simp only [varsAV, rowAV] at hFV hTV hEV hWV ⊢
      have h58 := h58 [.cells [.sl 3 (V.map varAV)]]
      simp at h58
      -- where it is no function
      have rest : (wordsL c = [] ∨ (∃ w rest, wordsL c = w :: rest ∧ c.length ≤ w.length) ∨ (∃ w rest, wordsL c = w :: rest ∧ w.length < c.length ∧ c.take w.length ≠ w) ∨
            (∃ w rest, wordsL c = w :: rest ∧ w.length < c.length ∧ c.take w.length = w ∧ (takesL w).2 = 0)) →
          ∃ T, F (n + 2 + 1) (.f 40) [.box id 0, .agg [.sl 3 (V.map varAV)], .str c, .int .i64 d0] S =
            some ([.str (restS (expS (lev k)) (valS (lev k)) V (m + 1) c).1.1, .int .i64 (restS (expS (lev k)) (valS (lev k)) V (m + 1) c).1.2], SetN S id (restS (expS (lev k)) (valS (lev k)) V (m + 1) c).2 ++ T) := by
        intro hfirst
        unfold restS
        by_cases ht : (cutS c [[58]]).2.1 ≠ [] ∧ (cutS (cutS c [[58]]).2.2 [[61]]).2.1 ≠ []
        · rw [if_pos ht]
          have t1 : List.isEmpty (cutS c [[58]]).2.1 = false := by simpa using ht.1
          have t2 : List.isEmpty (cutS (cutS c [[58]]).2.2 [[61]]).2.1 = false := by simpa using ht.2
          have t3 : ((cutS c [[58]]).2.1 != []) = true := by simpa using ht.1
          have t4 : ((cutS (cutS c [[58]]).2.2 [[61]]).2.1 != []) = true := by simpa using ht.2
          obtain ⟨T3, h65⟩ := hTV (cutS c [[58]]).1 (cutS (cutS c [[58]]).2.2 [[61]]).1 (cutS (cutS c [[58]]).2.2 [[61]]).2.2 [.cells [.sl 3 (V.map varAV)]] (by omega) (by omega) (by omega)
          refine ⟨.cells [.sl 3 (V.map varAV)] :: T3, ?_⟩
          generalize turnedS (expS (lev k)) (valS (lev k)) V (m + 1) (cutS c [[58]]).1 (cutS (cutS c [[58]]).2.2 [[61]]).1 (cutS (cutS c [[58]]).2.2 [[61]]).2.2 = z at *
          rw [F_fn rfl rfl rfl Tryz.func40 rfl]
          simp at h65
          rcases hfirst with hw | ⟨w, rest, hw, hle⟩ | ⟨w, rest, hw, hle, hne⟩ | ⟨w, rest, hw, hle, hne, hz⟩
          · rw [hw] at h59
            simp [runFn, Tryz.f40, zeroCells, h58, h59, k1, k2, t1, t2, t3, t4, h65, w1, callP_box (hnb _), -callP_box]
          · rw [hw] at h59
            have z0 : (0 : Int) < (rest.length : Int) + 1 := by omega
            have y1 : ¬ w.length < c.length := by omega
            simp [runFn, Tryz.f40, zeroCells, h58, h59, k1, k2, t1, t2, t3, t4, h65, w1, z0, y1, callP_box (hnb _), -callP_box]
          · rw [hw] at h59
            have z0 : (0 : Int) < (rest.length : Int) + 1 := by omega
            have y2 : w.length ≤ c.length := by omega
            have y3 : (c.take w.length == w) = false := by simpa using hne
            simp [runFn, Tryz.f40, zeroCells, h58, h59, k1, k2, t1, t2, t3, t4, h65, w1, z0, hle, y2, y3, callP_box (hnb _), -callP_box]
          · rw [hw] at h59
            have z0 : (0 : Int) < (rest.length : Int) + 1 := by omega
            have y2 : w.length ≤ c.length := by omega
            have y3 : (c.take w.length == w) = true := by simpa using hne
            have h60 := h60 w
            rw [hz] at h60
            simp [runFn, Tryz.f40, zeroCells, h58, h59, k1, k2, t1, t2, t3, t4, h65, w1, z0, hle, y2, y3, h60, callP_box (hnb _), -callP_box]
        · rw [if_neg ht]
          have hcond : (List.isEmpty (cutS c [[58]]).2.1 = true ∧ ((cutS c [[58]]).2.1 != []) = false) ∨ (List.isEmpty (cutS c [[58]]).2.1 = false ∧ ((cutS c [[58]]).2.1 != []) = true ∧ List.isEmpty (cutS (cutS c [[58]]).2.2 [[61]]).2.1 = true ∧ ((cutS (cutS c [[58]]).2.2 [[61]]).2.1 != []) = false) := by
            by_cases h1 : (cutS c [[58]]).2.1 = []
            · exact .inl (by simp [h1])
            · by_cases h2 : (cutS (cutS c [[58]]).2.2 [[61]]).2.1 = []
              · exact .inr ⟨by simpa using h1, by simpa using h1, by simp [h2], by simp [h2]⟩
              · exact absurd ⟨h1, h2⟩ ht
          obtain ⟨T3, h24⟩ := hEV [.cells [.sl 3 (V.map varAV)]]
          generalize expS (lev k) V (m + 1) c = z at *
          obtain ⟨⟨x, e⟩, m2⟩ := z
          simp only at h24 hg ⊢
          by_cases he : e = 0
          · subst he
            have hg := hg rfl
            obtain ⟨T4, h41⟩ := hWV x m2 (.cells [.sl 3 (V.map varAV)] :: T3) hg.1
            simp only [if_true]
            generalize valS (lev k) V m2 x = y at *
            refine ⟨.cells [.sl 3 (V.map varAV)] :: (T3 ++ T4), ?_⟩
            rw [F_fn rfl rfl rfl Tryz.func40 rfl]
            simp at h24 h41
            rcases hcond with ⟨t1, t3⟩ | ⟨t1, t3, t2, t4⟩
            · skip
              rcases hfirst with hw | ⟨w, rest, hw, hle⟩ | ⟨w, rest, hw, hle, hne⟩ | ⟨w, rest, hw, hle, hne, hz⟩
              · rw [hw] at h59
                simp [runFn, Tryz.f40, zeroCells, h58, h59, k1, k2, t1, t3, h24, h41, w1, callP_box (hnb _), -callP_box]
              · rw [hw] at h59
                have z0 : (0 : Int) < (rest.length : Int) + 1 := by omega
                have y1 : ¬ w.length < c.length := by omega
                simp [runFn, Tryz.f40, zeroCells, h58, h59, k1, k2, t1, t3, h24, h41, w1, z0, y1, callP_box (hnb _), -callP_box]
              · rw [hw] at h59
                have z0 : (0 : Int) < (rest.length : Int) + 1 := by omega
                have y2 : w.length ≤ c.length := by omega
                have y3 : (c.take w.length == w) = false := by simpa using hne
                simp [runFn, Tryz.f40, zeroCells, h58, h59, k1, k2, t1, t3, h24, h41, w1, z0, hle, y2, y3, callP_box (hnb _), -callP_box]
              · rw [hw] at h59
                have z0 : (0 : Int) < (rest.length : Int) + 1 := by omega
                have y2 : w.length ≤ c.length := by omega
                have y3 : (c.take w.length == w) = true := by simpa using hne
                have h60 := h60 w
                rw [hz] at h60
                simp [runFn, Tryz.f40, zeroCells, h58, h59, k1, k2, t1, t3, h24, h41, w1, z0, hle, y2, y3, h60, callP_box (hnb _), -callP_box]
            · skip
              rcases hfirst with hw | ⟨w, rest, hw, hle⟩ | ⟨w, rest, hw, hle, hne⟩ | ⟨w, rest, hw, hle, hne, hz⟩
              · rw [hw] at h59
                simp [runFn, Tryz.f40, zeroCells, h58, h59, k1, k2, t1, t2, t3, t4, h24, h41, w1, callP_box (hnb _), -callP_box]
              · rw [hw] at h59
                have z0 : (0 : Int) < (rest.length : Int) + 1 := by omega
                have y1 : ¬ w.length < c.length := by omega
                simp [runFn, Tryz.f40, zeroCells, h58, h59, k1, k2, t1, t2, t3, t4, h24, h41, w1, z0, y1, callP_box (hnb _), -callP_box]
              · rw [hw] at h59
                have z0 : (0 : Int) < (rest.length : Int) + 1 := by omega
                have y2 : w.length ≤ c.length := by omega
                have y3 : (c.take w.length == w) = false := by simpa using hne
                simp [runFn, Tryz.f40, zeroCells, h58, h59, k1, k2, t1, t2, t3, t4, h24, h41, w1, z0, hle, y2, y3, callP_box (hnb _), -callP_box]
              · rw [hw] at h59
                have z0 : (0 : Int) < (rest.length : Int) + 1 := by omega
                have y2 : w.length ≤ c.length := by omega
                have y3 : (c.take w.length == w) = true := by simpa using hne
                have h60 := h60 w
                rw [hz] at h60
                simp [runFn, Tryz.f40, zeroCells, h58, h59, k1, k2, t1, t2, t3, t4, h24, h41, w1, z0, hle, y2, y3, h60, callP_box (hnb _), -callP_box]
          · have he' : ((e : Int) != 0) = true := by simp; omega
            rw [if_neg he]
            refine ⟨.cells [.sl 3 (V.map varAV)] :: T3, ?_⟩
            rw [F_fn rfl rfl rfl Tryz.func40 rfl]
            simp at h24
            rcases hcond with ⟨t1, t3⟩ | ⟨t1, t3, t2, t4⟩
            · skip
              rcases hfirst with hw | ⟨w, rest, hw, hle⟩ | ⟨w, rest, hw, hle, hne⟩ | ⟨w, rest, hw, hle, hne, hz⟩
              · rw [hw] at h59
                simp [runFn, Tryz.f40, zeroCells, h58, h59, k1, k2, t1, t3, h24, he, he', w1, callP_box (hnb _), -callP_box]
              · rw [hw] at h59
                have z0 : (0 : Int) < (rest.length : Int) + 1 := by omega
                have y1 : ¬ w.length < c.length := by omega
                simp [runFn, Tryz.f40, zeroCells, h58, h59, k1, k2, t1, t3, h24, he, he', w1, z0, y1, callP_box (hnb _), -callP_box]
              · rw [hw] at h59
                have z0 : (0 : Int) < (rest.length : Int) + 1 := by omega
                have y2 : w.length ≤ c.length := by omega
                have y3 : (c.take w.length == w) = false := by simpa using hne
                simp [runFn, Tryz.f40, zeroCells, h58, h59, k1, k2, t1, t3, h24, he, he', w1, z0, hle, y2, y3, callP_box (hnb _), -callP_box]
              · rw [hw] at h59
                have z0 : (0 : Int) < (rest.length : Int) + 1 := by omega
                have y2 : w.length ≤ c.length := by omega
                have y3 : (c.take w.length == w) = true := by simpa using hne
                have h60 := h60 w
                rw [hz] at h60
                simp [runFn, Tryz.f40, zeroCells, h58, h59, k1, k2, t1, t3, h24, he, he', w1, z0, hle, y2, y3, h60, callP_box (hnb _), -callP_box]
            · skip
              rcases hfirst with hw | ⟨w, rest, hw, hle⟩ | ⟨w, rest, hw, hle, hne⟩ | ⟨w, rest, hw, hle, hne, hz⟩
              · rw [hw] at h59
                simp [runFn, Tryz.f40, zeroCells, h58, h59, k1, k2, t1, t2, t3, t4, h24, he, he', w1, callP_box (hnb _), -callP_box]
              · rw [hw] at h59
                have z0 : (0 : Int) < (rest.length : Int) + 1 := by omega
                have y1 : ¬ w.length < c.length := by omega
                simp [runFn, Tryz.f40, zeroCells, h58, h59, k1, k2, t1, t2, t3, t4, h24, he, he', w1, z0, y1, callP_box (hnb _), -callP_box]
              · rw [hw] at h59
                have z0 : (0 : Int) < (rest.length : Int) + 1 := by omega
                have y2 : w.length ≤ c.length := by omega
                have y3 : (c.take w.length == w) = false := by simpa using hne
                simp [runFn, Tryz.f40, zeroCells, h58, h59, k1, k2, t1, t2, t3, t4, h24, he, he', w1, z0, hle, y2, y3, callP_box (hnb _), -callP_box]
              · rw [hw] at h59
                have z0 : (0 : Int) < (rest.length : Int) + 1 := by omega
                have y2 : w.length ≤ c.length := by omega
                have y3 : (c.take w.length == w) = true := by simpa using hne
                have h60 := h60 w
                rw [hz] at h60
                simp [runFn, Tryz.f40, zeroCells, h58, h59, k1, k2, t1, t2, t3, t4, h24, he, he', w1, z0, hle, y2, y3, h60, callP_box (hnb _), -callP_box]
      rcases ref_word c with ⟨i, w, rs, hi, htk, hw, hwl, hlt2⟩ | ⟨hno, hcs⟩
      · have hbd : bodyS (expS (lev k)) (valS (lev k)) V (m + 1) c = if (takesL w).2 = 0 then restS (expS (lev k)) (valS (lev k)) V (m + 1) c
            else if (argsL ((c.drop w.length).dropWhile isBl) (takesL w).2).length < (takesL w).1 then (([], 1), m + 1)
            else functionS (expS (lev k)) V (m + 1) w (argsL ((c.drop w.length).dropWhile isBl) (takesL w).2) := by
          unfold bodyS
          rw [hi]
          simp only [htk, hwl]
        rw [hbd]
        by_cases hz : (takesL w).2 = 0
        · rw [if_pos hz]
          exact rest (.inr (.inr (.inr ⟨w, rs, hw, hlt2, by rw [hwl]; exact htk, hz⟩)))
        · rw [if_neg hz]
          have htl := takesL_le w
          have hdw := dropWhile_len (c.drop w.length)
          simp only [List.length_drop] at hdw
          have a2 := v62 (n + 1) (c.drop w.length) (by simp; omega) (by simp; omega)
          have a3 := v61 (n + 1) ((c.drop w.length).dropWhile isBl) (takesL w).2 (by omega) (by omega) (by omega) (by omega)
          have hag := argsGo_len ((takesL w).2 - 1) ((c.drop w.length).dropWhile isBl)
          change (argsL _ _).length ≤ _ ∧ 1 ≤ (argsL _ _).length ∧ ∀ a ∈ argsL _ _, _ at hag
          simp only [CP] at a2 a3
          generalize argsL ((c.drop w.length).dropWhile isBl) (takesL w).2 = args at *
          have h60 := h60 w
          rw [hw] at h59
          have z0 : (0 : Int) < (rs.length : Int) + 1 := by omega
          have y2 : w.length ≤ c.length := by omega
          have y3 : (c.take w.length == w) = true := by rw [hwl]; simpa using htk
          have y4 : (0 : Int) < ((takesL w).2 : Int) := by omega
          by_cases hls : args.length < (takesL w).1
          · rw [if_pos hls]
            refine ⟨[.cells [.sl 3 (V.map varAV)]], ?_⟩
            rw [F_fn rfl rfl rfl Tryz.func40 rfl]
            simp [runFn, Tryz.f40, zeroCells, h58, h59, z0, hlt2, y2, y3, h60, y4, Nat.pos_of_ne_zero hz, a2, a3, hls, callP_box (hnb _), -callP_box]
          · rw [if_neg hls]
            obtain ⟨T3, h63⟩ := hFV w args [.cells [.sl 3 (V.map varAV)]] (fun a ha => by have := hag.2.2 a ha; omega) (by omega) (by omega) (by omega) hag.2.1
            generalize functionS (expS (lev k)) V (m + 1) w args = z at *
            refine ⟨.cells [.sl 3 (V.map varAV)] :: T3, ?_⟩
            rw [F_fn rfl rfl rfl Tryz.func40 rfl]
            simp at h63
            simp [runFn, Tryz.f40, zeroCells, h58, h59, z0, hlt2, y2, y3, h60, y4, Nat.pos_of_ne_zero hz, a2, a3, hls, h63, w1, callP_box (hnb _), -callP_box]
      · have hbd : bodyS (expS (lev k)) (valS (lev k)) V (m + 1) c = restS (expS (lev k)) (valS (lev k)) V (m + 1) c := by
          unfold bodyS
          cases hi : idxBl c with
          | none => rfl
          | some j =>
            cases j with
            | zero => rfl
            | succ j => exact absurd hi (hno j)
        rw [hbd]
        refine rest ?_
        rcases hcs with hw | ⟨w, rs, hw, hle | ⟨hle, hne⟩⟩
        · exact .inl hw
        · exact .inr (.inl ⟨w, rs, hw, hle⟩)
        · exact .inr (.inr (.inl ⟨w, rs, hw, hle, hne⟩))

end
end Go.Proofs.YtmcfnnpihlediaaGreatDoor.Ex

/- The document's own Expand; two stores are the same; the law VarsExpand. -/
namespace Go.Proofs.YtmcfnnpihlediaaGreatDoor.Ex
open Go
attribute [-simp] rgn rgnD exec_seq exec_cond exec_block keepS

section
variable [XX]

theorem expr_all : ∀ k, k ≤ 20 → ∀ n, 44001000 + 20 * k ≤ n → ExpR n k ∧ ValR n k := by
  intro k
  induction k with
  | zero =>
    intro _ n hn
    have hv : ∀ m, 44000500 ≤ m → ValR m 0 := fun m hm => by
      obtain ⟨q, rfl⟩ : ∃ q, m = q + 1 := ⟨m - 1, by omega⟩
      exact val_r q 0 (by omega) (by omega) (fun j hj => by omega)
    refine ⟨?_, hv n (by omega)⟩
    obtain ⟨q, rfl⟩ : ∃ q, n = q + 2 := ⟨n - 2, by omega⟩
    exact text_r (by omega) (refer_r (by omega) (by omega) (fun j hj => by omega) (fun j hj => by omega) (fun j hj => by omega) (fun j hj => by omega)) (hv (q + 1) (by omega))
  | succ k ih =>
    intro hk n hn
    have ih := ih (by omega)
    have hv : ∀ m, 44001000 + 20 * k + 1 ≤ m → ValR m (k + 1) := fun m hm => by
      obtain ⟨q, rfl⟩ : ∃ q, m = q + 1 := ⟨m - 1, by omega⟩
      exact val_r q (k + 1) (by omega) (by omega) (fun j hj => by
        have : j = k := by omega
        subst this
        exact (ih q (by omega)).1)
    refine ⟨?_, hv n (by omega)⟩
    obtain ⟨q, rfl⟩ : ∃ q, n = q + 4 := ⟨n - 4, by omega⟩
    have hR : RefR (q + 3) (k + 1) := by
      refine refer_r (n := q + 2) (by omega) (by omega) (fun j hj => ?_) (fun j hj => ?_) (fun j hj => ?_) (fun j hj => ?_)
      all_goals
        have : j = k := by omega
        subst this
      · exact function_r (n := q + 1) (by omega) fun z hz => (ih z (by omega)).1
      · exact turned_r (n := q + 1) (by omega) (ih _ (by omega)).1 (ih _ (by omega)).2
      · exact (ih _ (by omega)).1
      · exact (ih _ (by omega)).2
    exact text_r (by omega) hR (hv (q + 3) (by omega))

set_option maxHeartbeats 1000000 in
theorem v14 (n : Nat) (hn : 44001500 ≤ n) (V : Vs) (t : Str) (hV : okV V 20) (ht : t.length ≤ 200000) : CP (F (n + 1)) 14 [varsAV V, .str t] (.tup [.str (expandS V t).1, .int .i64 (expandS V t).2]) := by
  obtain ⟨T, h⟩ := (expr_all 20 (by omega) n (by omega)).1 V t 1 0 [.cells [.sl 3 (V.map varAV)], .cells [.int .i64 0]] hV ht rfl (by omega)
  have hnb := noBox_b 1
  unfold expandS
  generalize expS (lev 20) V 0 t = z at *
  simp only [varsAV, rowAV] at h
  refine F_cp (rs := [.str z.1.1, .int .i64 z.1.2]) (S := SetN [.cells [.sl 3 (V.map varAV)], .cells [.int .i64 0]] 1 z.2 ++ T) (by simp only [noBoxL, noBox, varsAV, noBox_row, Bool.and_self]) rfl ?_
  rw [F_fn rfl rfl rfl Tryz.func14 rfl]
  simp at h
  simp [runFn, Tryz.f14, varsAV, rowAV, zeroCells, h, callP_box (hnb _), -callP_box]

set_option maxHeartbeats 4000000 in
theorem v17 (n : Nat) (V : Vs) (hl : V.length ≤ 1000000) (hn : V.length < n) : CP (F (n + 1)) 17 [varsAV V, varsAV V] (.bool true) := by
  have hrs : ∃ S, runFn Tryz.prog own1 (F n) n Tryz.f17 (Tryz.f17.body.getD .skip) [varsAV V, varsAV V] [] = some ([.bool true], S) := by
    simp [runFn, Tryz.f17, varsAV, rowAV, zeroCells]
    generalize hI : iter _ _ _ = r
    obtain ⟨pf', rfl, p2, p3, p5⟩ := iter_count 0 (fun i pf => pf 2 = .box 0 0 ∧ pf 3 = .box 1 0 ∧ pf 5 = .int .i64 i) V.length
      (fun i pf hi h => by
        obtain ⟨p2, p3, p5⟩ := h
        have hat : V[i]? = some V[i] := List.getElem?_eq_getElem hi
        have w1 : IntKind.wrap .i64 ((i : Int) + 1) = (i : Int) + 1 := wrap64 (by omega) (by omega)
        rcases hv : V[i] with ⟨a, b, c⟩
        rw [hv] at hat
        have e1 : (a != a) = false := by simp
        have e2 : (b != b) = false := by simp
        have e3 : (c != c) = false := by simp
        simp [p2, p3, p5, hi, hat, hv, w1, varAV, e1, e2, e3])
      (fun pf h => by
        obtain ⟨p2, p3, p5⟩ := h
        simp [p2, p3, p5]) V.length 0 n _ r (by omega) hI (by simp) (by omega)
    simp
  obtain ⟨S, h⟩ := hrs
  refine F_cp (rs := [.bool true]) (S := S) (by simp only [noBoxL, noBox, varsAV, noBox_row, Bool.and_self]) rfl ?_
  rw [F_fn rfl rfl rfl Tryz.func17 rfl]
  exact h

set_option maxHeartbeats 8000000 in
theorem law3v (hX : FullV) (n : Nat) (hn : 44002000 ≤ n) (V0 : Vs) (s nm : Str) : CP (F (n + 1)) 3 [rowAV V0, .str s, .str nm] (.bool true) := by
  obtain ⟨n, rfl⟩ : ∃ q, n = q + 2 := ⟨n - 2, by omega⟩
  have c11 := v11 hX (n + 1) (by omega)
  have c12 := v12 hX n V0 (by omega)
  have hg := rowsL_good V0
  generalize rowsL V0 = z at *
  obtain ⟨A, ok⟩ := z
  simp only at c12 hg
  have hok := hg.ok (by omega)
  obtain ⟨ho, hl, hbig⟩ := hg
  simp only [CP, rowAV, varsAV] at c11 c12
  have hrs : ∃ S, runFn Tryz.prog own1 (F (n + 2)) (n + 2) Tryz.f3 (Tryz.f3.body.getD .skip) [rowAV V0, .str s, .str nm] [] = some ([.bool true], S) := by
    cases ok
    · simp [runFn, Tryz.f3, rowAV, c11, c12]
    · by_cases g1 : 800 < s.length
      · have g1' : decide (800 < (s.length : Int)) = true := by simp; omega
        simp [runFn, Tryz.f3, rowAV, c11, c12, g1']
      have g1' : decide (800 < (s.length : Int)) = false := by simp; omega
      by_cases g2 : 100 < nm.length
      · have g2' : decide (100 < (nm.length : Int)) = true := by simp; omega
        simp [runFn, Tryz.f3, rowAV, c11, c12, g1', g2']
      have g2' : decide (100 < (nm.length : Int)) = false := by simp; omega
      have c13 := v13 hX (n + 1) (by omega) A s hok (by omega)
      have c14 := v14 (n + 1) (by omega) A s hok (by omega)
      have c15 := v15 (n + 2) A nm (by omega) (by omega)
      have c16 := v16 (n + 1) A nm (by omega) (by omega)
      have c17 := v17 (n + 1) A (by omega) (by omega)
      generalize gotL A nm = y at *
      obtain ⟨⟨y1, y2, y3⟩, y4⟩ := y
      generalize expandS A s = x at *
      obtain ⟨x1, x2⟩ := x
      simp only [CP, varsAV, rowAV, varAV] at c13 c14 c15 c16 c17
      simp [runFn, Tryz.f3, rowAV, c11, c12, g1', g2', c13, c14, c15, c16, c17]
  obtain ⟨S, h⟩ := hrs
  refine F_cp (rs := [.bool true]) (S := S) (by simp only [noBoxL, noBox, noBox_row, Bool.and_self]) rfl ?_
  rw [F_fn rfl rfl rfl Tryz.func3 rfl]
  exact h

end
end Go.Proofs.YtmcfnnpihlediaaGreatDoor.Ex

/- The document's own Assign; the law VarsAssign. -/
namespace Go.Proofs.YtmcfnnpihlediaaGreatDoor.Ex
open Go
attribute [-simp] rgn rgnD exec_seq exec_cond exec_block keepS

theorem nameC_cases (c : UInt8) : (nameC c = true ∧ ((65 ≤ c.toNat ∧ c.toNat ≤ 90) ∨ (48 ≤ c.toNat ∧ c.toNat ≤ 57) ∨ (c.toNat = 45) ∨ (c.toNat = 46) ∨ (97 ≤ c.toNat ∧ c.toNat ≤ 122) ∨ (c.toNat = 95))) ∨ (nameC c = false ∧ ((58 ≤ c.toNat ∧ c.toNat ≤ 64) ∨ (c.toNat < 48 ∧ c.toNat ≠ 45 ∧ c.toNat ≠ 46) ∨ (122 < c.toNat) ∨ (91 ≤ c.toNat ∧ c.toNat ≤ 96 ∧ c.toNat ≠ 95))) := by
  have h : nameC c = decide ((65 ≤ c.toNat ∧ c.toNat ≤ 90) ∨ (97 ≤ c.toNat ∧ c.toNat ≤ 122) ∨ (48 ≤ c.toNat ∧ c.toNat ≤ 57) ∨ c.toNat = 95 ∨ c.toNat = 45 ∨ c.toNat = 46) := by
    rw [Bool.eq_iff_iff]
    simp only [nameC, nameN, Bool.or_eq_true, Bool.and_eq_true, decide_eq_true_eq]
    omega
  rw [h]
  simp only [decide_eq_true_eq, decide_eq_false_iff_not]
  omega

section
variable [XX]

set_option maxHeartbeats 8000000 in
theorem v31 (n : Nat) (s : Str) (hs : s.length ≤ 1000000) (hn : s.length < n) : CP (F (n + 1)) 31 [.str s] (.bool (nameL s)) := by
  refine F_cp (rs := [.bool (nameL s)]) (S := []) rfl rfl ?_
  rw [F_fn rfl rfl rfl Tryz.func31 rfl]
  simp [runFn, Tryz.f31]
  generalize hI : iter _ _ _ = r
  obtain ⟨x, pf', rfl, hx⟩ := iter_gen (fun i : Nat => s.length - i)
    (fun i pf => pf 0 = .str s ∧ pf 3 = .int .i64 i ∧ i ≤ s.length ∧ s.all nameC = (s.drop i).all nameC)
    (fun x pf => (x = .ex 0 ∧ pf 0 = .str s ∧ s.all nameC = true) ∨ (x = .ret ∧ pf 2 = .bool false ∧ s.all nameC = false))
    (fun i pf h => by
      obtain ⟨p0, p3, hi, hinv⟩ := h
      by_cases hil : i < s.length
      · have hat : s[i]? = some s[i] := List.getElem?_eq_getElem hil
        have hdr : s.drop i = s[i] :: s.drop (i + 1) := List.drop_eq_getElem_cons hil
        have w1 : IntKind.wrap .i64 ((i : Int) + 1) = (i : Int) + 1 := wrap64 (by omega) (by omega)
        rw [hdr, List.all_cons] at hinv
        have hfacts := nameC_cases s[i]
        by_cases hc : nameC s[i] = true
        · left
          rw [hc, Bool.true_and] at hinv
          refine ⟨i + 1, ?_⟩
          have hl : (65 ≤ s[i].toNat ∧ s[i].toNat ≤ 90) ∨ (48 ≤ s[i].toNat ∧ s[i].toNat ≤ 57) ∨ (s[i].toNat = 45) ∨ (s[i].toNat = 46) ∨ (97 ≤ s[i].toNat ∧ s[i].toNat ≤ 122) ∨ (s[i].toNat = 95) := by
            rcases hfacts with ⟨h, h2⟩ | ⟨h, h2⟩
            · exact h2
            · simp [h] at hc
          rcases hl with hl | hl | hl | hl | hl | hl
          · have d0 : decide ((65 : Int) ≤ (s[i].toNat : Int)) = true := by simp; omega
            have d1 : decide ((s[i].toNat : Int) ≤ 90) = true := by simp; omega
            have d2 : decide ((97 : Int) ≤ (s[i].toNat : Int)) = false := by simp; omega
            have d3 : decide ((s[i].toNat : Int) ≤ 122) = true := by simp; omega
            have d4 : decide ((48 : Int) ≤ (s[i].toNat : Int)) = true := by simp; omega
            have d5 : decide ((s[i].toNat : Int) ≤ 57) = false := by simp; omega
            have e95 : ((s[i].toNat : Int) == 95) = false := by simp; omega
            have e45 : ((s[i].toNat : Int) == 45) = false := by simp; omega
            have e46 : ((s[i].toNat : Int) == 46) = false := by simp; omega
            exact ⟨_, by simp [p0, p3, hil, hat, w1, d0, d1, d2, d3, d4, d5, e95, e45, e46]; rfl, by omega, by simp [p0], by simp, by omega, hinv⟩
          · have d0 : decide ((65 : Int) ≤ (s[i].toNat : Int)) = false := by simp; omega
            have d1 : decide ((s[i].toNat : Int) ≤ 90) = true := by simp; omega
            have d2 : decide ((97 : Int) ≤ (s[i].toNat : Int)) = false := by simp; omega
            have d3 : decide ((s[i].toNat : Int) ≤ 122) = true := by simp; omega
            have d4 : decide ((48 : Int) ≤ (s[i].toNat : Int)) = true := by simp; omega
            have d5 : decide ((s[i].toNat : Int) ≤ 57) = true := by simp; omega
            have e95 : ((s[i].toNat : Int) == 95) = false := by simp; omega
            have e45 : ((s[i].toNat : Int) == 45) = false := by simp; omega
            have e46 : ((s[i].toNat : Int) == 46) = false := by simp; omega
            exact ⟨_, by simp [p0, p3, hil, hat, w1, d0, d1, d2, d3, d4, d5, e95, e45, e46]; rfl, by omega, by simp [p0], by simp, by omega, hinv⟩
          · have d0 : decide ((65 : Int) ≤ (s[i].toNat : Int)) = false := by simp; omega
            have d1 : decide ((s[i].toNat : Int) ≤ 90) = true := by simp; omega
            have d2 : decide ((97 : Int) ≤ (s[i].toNat : Int)) = false := by simp; omega
            have d3 : decide ((s[i].toNat : Int) ≤ 122) = true := by simp; omega
            have d4 : decide ((48 : Int) ≤ (s[i].toNat : Int)) = false := by simp; omega
            have d5 : decide ((s[i].toNat : Int) ≤ 57) = true := by simp; omega
            have e95 : ((s[i].toNat : Int) == 95) = false := by simp; omega
            have e45 : ((s[i].toNat : Int) == 45) = true := by simp; omega
            have e46 : ((s[i].toNat : Int) == 46) = false := by simp; omega
            exact ⟨_, by simp [p0, p3, hil, hat, w1, d0, d1, d2, d3, d4, d5, e95, e45, e46]; rfl, by omega, by simp [p0], by simp, by omega, hinv⟩
          · have d0 : decide ((65 : Int) ≤ (s[i].toNat : Int)) = false := by simp; omega
            have d1 : decide ((s[i].toNat : Int) ≤ 90) = true := by simp; omega
            have d2 : decide ((97 : Int) ≤ (s[i].toNat : Int)) = false := by simp; omega
            have d3 : decide ((s[i].toNat : Int) ≤ 122) = true := by simp; omega
            have d4 : decide ((48 : Int) ≤ (s[i].toNat : Int)) = false := by simp; omega
            have d5 : decide ((s[i].toNat : Int) ≤ 57) = true := by simp; omega
            have e95 : ((s[i].toNat : Int) == 95) = false := by simp; omega
            have e45 : ((s[i].toNat : Int) == 45) = false := by simp; omega
            have e46 : ((s[i].toNat : Int) == 46) = true := by simp; omega
            exact ⟨_, by simp [p0, p3, hil, hat, w1, d0, d1, d2, d3, d4, d5, e95, e45, e46]; rfl, by omega, by simp [p0], by simp, by omega, hinv⟩
          · have d0 : decide ((65 : Int) ≤ (s[i].toNat : Int)) = true := by simp; omega
            have d1 : decide ((s[i].toNat : Int) ≤ 90) = false := by simp; omega
            have d2 : decide ((97 : Int) ≤ (s[i].toNat : Int)) = true := by simp; omega
            have d3 : decide ((s[i].toNat : Int) ≤ 122) = true := by simp; omega
            have d4 : decide ((48 : Int) ≤ (s[i].toNat : Int)) = true := by simp; omega
            have d5 : decide ((s[i].toNat : Int) ≤ 57) = false := by simp; omega
            have e95 : ((s[i].toNat : Int) == 95) = false := by simp; omega
            have e45 : ((s[i].toNat : Int) == 45) = false := by simp; omega
            have e46 : ((s[i].toNat : Int) == 46) = false := by simp; omega
            exact ⟨_, by simp [p0, p3, hil, hat, w1, d0, d1, d2, d3, d4, d5, e95, e45, e46]; rfl, by omega, by simp [p0], by simp, by omega, hinv⟩
          · have d0 : decide ((65 : Int) ≤ (s[i].toNat : Int)) = true := by simp; omega
            have d1 : decide ((s[i].toNat : Int) ≤ 90) = false := by simp; omega
            have d2 : decide ((97 : Int) ≤ (s[i].toNat : Int)) = false := by simp; omega
            have d3 : decide ((s[i].toNat : Int) ≤ 122) = true := by simp; omega
            have d4 : decide ((48 : Int) ≤ (s[i].toNat : Int)) = true := by simp; omega
            have d5 : decide ((s[i].toNat : Int) ≤ 57) = false := by simp; omega
            have e95 : ((s[i].toNat : Int) == 95) = true := by simp; omega
            have e45 : ((s[i].toNat : Int) == 45) = false := by simp; omega
            have e46 : ((s[i].toNat : Int) == 46) = false := by simp; omega
            exact ⟨_, by simp [p0, p3, hil, hat, w1, d0, d1, d2, d3, d4, d5, e95, e45, e46]; rfl, by omega, by simp [p0], by simp, by omega, hinv⟩
        · right
          have hc' : nameC s[i] = false := by simpa using hc
          rw [hc', Bool.false_and] at hinv
          refine ⟨.ret, ?_⟩
          have hl : (58 ≤ s[i].toNat ∧ s[i].toNat ≤ 64) ∨ (s[i].toNat < 48 ∧ s[i].toNat ≠ 45 ∧ s[i].toNat ≠ 46) ∨ (122 < s[i].toNat) ∨ (91 ≤ s[i].toNat ∧ s[i].toNat ≤ 96 ∧ s[i].toNat ≠ 95) := by
            rcases hfacts with ⟨h, h2⟩ | ⟨h, h2⟩
            · simp [h] at hc
            · exact h2
          rcases hl with hl | hl | hl | hl
          · have d0 : decide ((65 : Int) ≤ (s[i].toNat : Int)) = false := by simp; omega
            have d1 : decide ((s[i].toNat : Int) ≤ 90) = true := by simp; omega
            have d2 : decide ((97 : Int) ≤ (s[i].toNat : Int)) = false := by simp; omega
            have d3 : decide ((s[i].toNat : Int) ≤ 122) = true := by simp; omega
            have d4 : decide ((48 : Int) ≤ (s[i].toNat : Int)) = true := by simp; omega
            have d5 : decide ((s[i].toNat : Int) ≤ 57) = false := by simp; omega
            have e95 : ((s[i].toNat : Int) == 95) = false := by simp; omega
            have e45 : ((s[i].toNat : Int) == 45) = false := by simp; omega
            have e46 : ((s[i].toNat : Int) == 46) = false := by simp; omega
            exact ⟨_, by simp, by simp [p0, p3, hil, hat, w1, d0, d1, d2, d3, d4, d5, e95, e45, e46]; rfl, .inr ⟨rfl, by simp, hinv⟩⟩
          · have d0 : decide ((65 : Int) ≤ (s[i].toNat : Int)) = false := by simp; omega
            have d1 : decide ((s[i].toNat : Int) ≤ 90) = true := by simp; omega
            have d2 : decide ((97 : Int) ≤ (s[i].toNat : Int)) = false := by simp; omega
            have d3 : decide ((s[i].toNat : Int) ≤ 122) = true := by simp; omega
            have d4 : decide ((48 : Int) ≤ (s[i].toNat : Int)) = false := by simp; omega
            have d5 : decide ((s[i].toNat : Int) ≤ 57) = true := by simp; omega
            have e95 : ((s[i].toNat : Int) == 95) = false := by simp; omega
            have e45 : ((s[i].toNat : Int) == 45) = false := by simp; omega
            have e46 : ((s[i].toNat : Int) == 46) = false := by simp; omega
            exact ⟨_, by simp, by simp [p0, p3, hil, hat, w1, d0, d1, d2, d3, d4, d5, e95, e45, e46]; rfl, .inr ⟨rfl, by simp, hinv⟩⟩
          · have d0 : decide ((65 : Int) ≤ (s[i].toNat : Int)) = true := by simp; omega
            have d1 : decide ((s[i].toNat : Int) ≤ 90) = false := by simp; omega
            have d2 : decide ((97 : Int) ≤ (s[i].toNat : Int)) = true := by simp; omega
            have d3 : decide ((s[i].toNat : Int) ≤ 122) = false := by simp; omega
            have d4 : decide ((48 : Int) ≤ (s[i].toNat : Int)) = true := by simp; omega
            have d5 : decide ((s[i].toNat : Int) ≤ 57) = false := by simp; omega
            have e95 : ((s[i].toNat : Int) == 95) = false := by simp; omega
            have e45 : ((s[i].toNat : Int) == 45) = false := by simp; omega
            have e46 : ((s[i].toNat : Int) == 46) = false := by simp; omega
            exact ⟨_, by simp, by simp [p0, p3, hil, hat, w1, d0, d1, d2, d3, d4, d5, e95, e45, e46]; rfl, .inr ⟨rfl, by simp, hinv⟩⟩
          · have d0 : decide ((65 : Int) ≤ (s[i].toNat : Int)) = true := by simp; omega
            have d1 : decide ((s[i].toNat : Int) ≤ 90) = false := by simp; omega
            have d2 : decide ((97 : Int) ≤ (s[i].toNat : Int)) = false := by simp; omega
            have d3 : decide ((s[i].toNat : Int) ≤ 122) = true := by simp; omega
            have d4 : decide ((48 : Int) ≤ (s[i].toNat : Int)) = true := by simp; omega
            have d5 : decide ((s[i].toNat : Int) ≤ 57) = false := by simp; omega
            have e95 : ((s[i].toNat : Int) == 95) = false := by simp; omega
            have e45 : ((s[i].toNat : Int) == 45) = false := by simp; omega
            have e46 : ((s[i].toNat : Int) == 46) = false := by simp; omega
            exact ⟨_, by simp, by simp [p0, p3, hil, hat, w1, d0, d1, d2, d3, d4, d5, e95, e45, e46]; rfl, .inr ⟨rfl, by simp, hinv⟩⟩
      · right
        rw [List.drop_of_length_le (by omega)] at hinv
        exact ⟨.ex 0, _, by simp, by simp [p0, p3, hil]; rfl, .inl ⟨rfl, by simp [p0], by rw [hinv]; rfl⟩⟩)
    n 0 _ r hI (by simp) (by omega)
  unfold nameL
  rcases hx with ⟨rfl, p0, ha⟩ | ⟨rfl, p2, ha⟩
  · rw [ha]
    by_cases h0 : s = []
    · subst h0
      simp [p0]
    · have h0' : (s != []) = true := by simpa using h0
      have h1' : (s == []) = false := by simpa using h0
      have h2' : List.isEmpty s = false := by simpa using h0
      by_cases h4 : s.length ≤ 40
      · have d : decide ((s.length : Int) ≤ 40) = true := by simp; omega
        simp [p0, h0, h0', h1', h2', h4, d]
      · have d : decide ((s.length : Int) ≤ 40) = false := by simp; omega
        simp [p0, h0, h0', h1', h2', h4, d]
  · rw [ha]
    simp [p2]

end
end Go.Proofs.YtmcfnnpihlediaaGreatDoor.Ex

/- The document's own Assign; the law VarsAssign. -/
namespace Go.Proofs.YtmcfnnpihlediaaGreatDoor.Ex
open Go
attribute [-simp] rgn rgnD exec_seq exec_cond exec_block keepS

section
variable [XX]

theorem got_none (V : Vs) (nm : Str) (h : (gotL V nm).2 = false) : (gotL V nm).1 = ([], [], false) := by
  unfold gotL at h ⊢
  cases hg : getV V nm with
  | none => rfl
  | some x => rw [hg] at h; cases h

set_option maxHeartbeats 8000000 in
theorem v21 (n : Nat) (hn : 44001600 ≤ n) (V : Vs) (name op t : Str) (hV : okV V 20) (h1 : name.length ≤ 1000000) (ht : t.length ≤ 200000) :
    CP (F (n + 1)) 21 [varsAV V, .str name, .str op, .str t] (.tup [varsAV (assignS V name op t).1, .int .i64 (assignS V name op t).2]) := by
  obtain ⟨n, rfl⟩ : ∃ q, n = q + 2 := ⟨n - 2, by omega⟩
  have c31 := v31 (n + 1) name h1 (by omega)
  have c16 := v16 (n + 1) V name (by have := hV.2.1; omega) (by have := hV.2.1; omega)
  have c14 := v14 (n + 1) (by omega) V t hV ht
  have c22 := fun (y1 y2 : Str) (y3 : Bool) => v22 (n + 1) V (y1, y2, y3) hV.1 (by have := hV.2.1; omega) (by have := hV.2.1; omega)
  have hgl := got_len V name hV
  have hgn := got_none V name
  simp only [CP, varsAV, rowAV, varAV] at c31 c16 c14 c22
  have hrs : ∃ S, runFn Tryz.prog own1 (F (n + 2)) (n + 2) Tryz.f21 (Tryz.f21.body.getD .skip) [varsAV V, .str name, .str op, .str t] [] = some ([varsAV (assignS V name op t).1, .int .i64 (assignS V name op t).2], S) := by
    unfold assignS
    cases hnl : nameL name
    · rw [hnl] at c31
      simp [runFn, Tryz.f21, varsAV, rowAV, varAV, zeroCells, c31]
    · rw [hnl] at c31
      simp only [Bool.true_eq_false, if_false]
      have hxl := expand_le V t
      generalize gotL V name = g at *
      obtain ⟨⟨gn, gt, gs⟩, gf⟩ := g
      simp only at hgl c16 hgn
      generalize expandS V t = xe at *
      obtain ⟨x, e⟩ := xe
      simp only at c14 hxl
      by_cases o1 : op = [61]
      · subst o1
        rw [if_pos rfl]
        simp [runFn, Tryz.f21, varsAV, rowAV, varAV, zeroCells, c31, c16, c22]
      · have o1' : (op == [61]) = false := by simpa using o1
        have o1'' : (op != [61]) = true := by simpa using o1
        rw [if_neg o1]
        by_cases o2 : op = [58, 61]
        · subst o2
          rw [if_pos rfl]
          by_cases he : e = 0
          · subst he
            simp [runFn, Tryz.f21, varsAV, rowAV, varAV, zeroCells, c31, c16, c22, c14]
          · have he' : ((e : Int) != 0) = true := by simp; omega
            simp [runFn, Tryz.f21, varsAV, rowAV, varAV, zeroCells, c31, c16, c22, c14, he, he']
        · have o2' : (op == [58, 61]) = false := by simpa using o2
          have o2'' : (op != [58, 61]) = true := by simpa using o2
          rw [if_neg o2]
          by_cases o3 : op = [63, 61]
          · subst o3
            rw [if_pos rfl]
            cases gf
            · simp [runFn, Tryz.f21, varsAV, rowAV, varAV, zeroCells, c31, c16, c22]
            · simp [runFn, Tryz.f21, varsAV, rowAV, varAV, zeroCells, c31, c16, c22]
          · have o3' : (op == [63, 61]) = false := by simpa using o3
            have o3'' : (op != [63, 61]) = true := by simpa using o3
            rw [if_neg o3]
            by_cases o4 : op = [43, 61]
            · subst o4
              rw [if_pos rfl]
              have l1 : gt.length + 1 ≤ 9223372036854775807 := by omega
              have l2 : gt.length + 1 + t.length ≤ 9223372036854775807 := by omega
              have l4 : gt.length + (t.length + 1) ≤ 9223372036854775807 := by omega
              have l6 : gt.length + (1 + t.length) ≤ 9223372036854775807 := by omega
              cases gf
              · have h := hgn rfl
                simp only [Prod.mk.injEq] at h
                obtain ⟨rfl, rfl, rfl⟩ := h
                simp [runFn, Tryz.f21, varsAV, rowAV, varAV, zeroCells, c31, c16, c22, moreS]
              · cases gs
                · simp [runFn, Tryz.f21, varsAV, rowAV, varAV, zeroCells, c31, c16, c22, moreS, l1, l2, l4, l6]
                · by_cases he : e = 0
                  · have hxl := hxl he
                    have l3 : gt.length + 1 + x.length ≤ 9223372036854775807 := by omega
                    have l5 : gt.length + (x.length + 1) ≤ 9223372036854775807 := by omega
                    have l7 : gt.length + (1 + x.length) ≤ 9223372036854775807 := by omega
                    subst he
                    simp [runFn, Tryz.f21, varsAV, rowAV, varAV, zeroCells, c31, c16, c22, c14, moreS, l1, l3, l5, l7]
                  · have he' : ((e : Int) != 0) = true := by simp; omega
                    simp [runFn, Tryz.f21, varsAV, rowAV, varAV, zeroCells, c31, c16, c22, c14, he, he']
            · have o4' : (op == [43, 61]) = false := by simpa using o4
              have o4'' : (op != [43, 61]) = true := by simpa using o4
              rw [if_neg o4]
              simp [runFn, Tryz.f21, varsAV, rowAV, varAV, zeroCells, c31, c16, o1', o2', o3', o4', o1'', o2'', o3'', o4'']
  obtain ⟨S, h⟩ := hrs
  refine F_cp (rs := [varsAV (assignS V name op t).1, .int .i64 (assignS V name op t).2]) (S := S) (by simp only [noBoxL, noBox, varsAV, noBox_row, Bool.and_self]) (by simp only [noBoxL, noBox, varsAV, noBox_row, Bool.and_self]) ?_
  rw [F_fn rfl rfl rfl Tryz.func21 rfl]
  exact h

end
end Go.Proofs.YtmcfnnpihlediaaGreatDoor.Ex

/- The law VarsAssign. -/
namespace Go.Proofs.YtmcfnnpihlediaaGreatDoor.Ex
open Go
attribute [-simp] rgn rgnD exec_seq exec_cond exec_block keepS

theorem assignS_err {Y : Vs} {nm op t : Str} : (assignS Y nm op t).2 ≠ 0 → (assignS Y nm op t).1 = [] := by
  unfold assignS
  repeat' split
  all_goals simp

theorem assignS_grow {Y : Vs} {nm op t : Str} {B : Nat} (ht : t.length ≤ 600) (hY : ∀ x ∈ Y, x.2.1.length ≤ B) (h0 : (assignS Y nm op t).2 = 0) :
    (assignS Y nm op t).1 = Y ∨ ∃ T b, (assignS Y nm op t).1 = setV (nm, T, b) Y ∧ T.length ≤ B + 4001 := by
  have hg : (gotL Y nm).1.2.1.length ≤ B := by
    unfold gotL
    cases hg : getV Y nm with
    | none => simp
    | some x => exact hY x (List.mem_of_find?_eq_some hg)
  have hm : ∀ f (o x : Str), o.length ≤ B → x.length ≤ 4000 → (moreS f o x).length ≤ B + 4001 := by
    intro f o x h1 h2
    unfold moreS
    split
    · simp; omega
    · omega
  revert h0
  unfold assignS
  split
  · intro h; cases h
  · split
    · intro _; exact .inr ⟨t, false, rfl, by omega⟩
    · split
      · split
        · rename_i he
          intro _; exact .inr ⟨_, true, rfl, by have := expand_le Y t he; omega⟩
        · rename_i he
          intro h; exact absurd h he
      · split
        · split
          · intro _; exact .inl rfl
          · intro _; exact .inr ⟨t, false, rfl, by omega⟩
        · split
          · split
            · split
              · rename_i he
                intro _; exact .inr ⟨_, true, rfl, hm _ _ _ hg (expand_le Y t he)⟩
              · rename_i he
                intro h; exact absurd h he
            · intro _; exact .inr ⟨_, false, rfl, hm _ _ _ hg (by omega)⟩
          · intro h; cases h

theorem noBox_acts : ∀ l : List AL, noBoxL (l.map actAV) = true
  | [] => rfl
  | x :: l => by simp only [List.map_cons, noBoxL, actAV, noBox, noBox_acts l, Bool.and_self]

section
variable [XX]

set_option maxRecDepth 100000 in
set_option maxHeartbeats 16000000 in
theorem law8v (hM : FullM) (n : Nat) (hn : 44002000 ≤ n) (l : List AL) : CP (F (n + 1)) 8 [actsAV l] (.bool true) := by
  have hX := hM.1
  obtain ⟨n, rfl⟩ : ∃ q, n = q + 2 := ⟨n - 2, by omega⟩
  have c11 := v11 hX (n + 1) (by omega)
  simp only [CP] at c11
  have hrs : ∃ S, runFn Tryz.prog own1 (F (n + 2)) (n + 2) Tryz.f8 (Tryz.f8.body.getD .skip) [actsAV l] [] = some ([.bool true], S) := by
    by_cases g1 : 30 < l.length
    · have g1' : decide (30 < (l.length : Int)) = true := by simp; omega
      simp [runFn, Tryz.f8, actsAV, c11, g1']
    have g1' : decide (30 < (l.length : Int)) = false := by simp; omega
    simp [runFn, Tryz.f8, actsAV, c11, g1', zeroCells]
    generalize hI : iter _ _ _ = r
    obtain ⟨px, cf, rfl, hD, hq⟩ := iter_cfg (fun x : Nat × Vs => l.length - x.1)
      (fun x cf => cf.D = [] ∧ (∃ T, cf.S = .cells [.sl 3 (x.2.map varAV)] :: .cells [.sl 3 (x.2.map varAV)] :: T) ∧ cf.pf 0 = .sl 3 (l.map actAV) ∧ cf.pf 4 = .box 0 0 ∧ cf.pf 5 = .box 1 0 ∧ cf.pf 6 = .int .i64 x.1 ∧
        x.1 ≤ l.length ∧ ordV x.2 = true ∧ x.2.length ≤ x.1 ∧ (∀ y ∈ x.2, y.2.1.length ≤ 4001 * x.1))
      (fun px cf => cf.D = [] ∧ ((px = .ret ∧ cf.pf 2 = .bool true) ∨ px = .ex 0))
      (fun x cf hc => by
        obtain ⟨i, V⟩ := x
        obtain ⟨pf, S', D'⟩ := cf
        obtain ⟨rfl, ⟨T, rfl⟩, p0, p4, p5, p6, hi, ho, hvl, hvt⟩ := hc
        simp only at p0 p4 p5 p6 hi ho hvl hvt
        by_cases hil : i < l.length
        · have hat : l[i]? = some l[i] := List.getElem?_eq_getElem hil
          have w1 : IntKind.wrap .i64 ((i : Int) + 1) = (i : Int) + 1 := wrap64 (by omega) (by omega)
          rcases hli : l[i] with ⟨nm, op, t⟩
          rw [hli] at hat
          by_cases g2 : 60 < nm.length
          · right
            have g2' : decide (60 < (nm.length : Int)) = true := by simp; omega
            exact ⟨.ret, _, by simp, by simp [p0, p4, p5, p6, hil, hat, hli, actAV, g2']; rfl, rfl, .inl ⟨rfl, by simp⟩⟩
          have g2' : decide (60 < (nm.length : Int)) = false := by simp; omega
          by_cases g3 : 600 < t.length
          · right
            have g3' : decide (600 < (t.length : Int)) = true := by simp; omega
            exact ⟨.ret, _, by simp, by simp [p0, p4, p5, p6, hil, hat, hli, actAV, g2', g3']; rfl, rfl, .inl ⟨rfl, by simp⟩⟩
          have g3' : decide (600 < (t.length : Int)) = false := by simp; omega
          have hV : okV V 20 := ⟨ho, by omega, fun y hy => by have := hvt y hy; have : 4001 * i ≤ 4001 * 30 := Nat.mul_le_mul_left _ (by omega); omega⟩
          have c20 := v20 hM (n + 1) (by omega) V nm op t hV (by omega) (by omega)
          have c21 := v21 (n + 1) (by omega) V nm op t hV (by omega) (by omega)
          have herr := assignS_err (Y := V) (nm := nm) (op := op) (t := t)
          have hgr := assignS_grow (Y := V) (nm := nm) (op := op) (t := t) (by omega) hvt
          left
          generalize assignS V nm op t = z at *
          obtain ⟨Z, e⟩ := z
          simp only at herr hgr c20 c21
          have hZ : (e = 0 → ordV Z = true ∧ Z.length ≤ i + 1 ∧ ∀ y ∈ Z, y.2.1.length ≤ 4001 * (i + 1)) ∧ Z.length ≤ 1000 := by
            by_cases he : e = 0
            · rcases hgr he with rfl | ⟨T', b, rfl, hT⟩
              · exact ⟨fun _ => ⟨ho, by omega, fun y hy => by have := hvt y hy; omega⟩, by omega⟩
              · have hsl := setV_len (nm, T', b) V
                refine ⟨fun _ => ⟨ordV_set _ ho, by omega, fun y hy => ?_⟩, by omega⟩
                rcases setV_mem _ _ _ hy with rfl | hy
                · simp only; omega
                · have := hvt y hy; omega
            · rw [herr he]
              exact ⟨fun h => absurd h he, by simp⟩
          have c17 := v17 (n + 1) Z (by omega) (by omega)
          simp only [CP, varsAV, rowAV] at c20 c21 c17
          have k1 : ∀ (a b : Ob) (y : AV) (U : Obs), keepS true (a :: b :: T) (y, a :: b :: (T ++ U)) = some (y, a :: b :: (T ++ U)) := fun a b y U => keepS_app (a :: b :: T) U y
          have k2 : ∀ (a b x z : Ob) (y : AV), keepS true (a :: b :: (T ++ [x])) (y, a :: b :: (T ++ [x, z])) = some (y, a :: b :: (T ++ [x, z])) := fun a b x z y => by
            have := keepS_app (a :: b :: (T ++ [x])) [z] y
            simpa using this
          by_cases he : e = 0
          · subst he
            obtain ⟨z1, z2, z3⟩ := hZ.1 rfl
            exact ⟨(i + 1, Z), _, by simp [p0, p4, p5, p6, hil, hat, hli, actAV, g2', g3', c20, c21, c17, w1, zeroCells, k1, k2]; rfl, by simp only; omega, rfl, ⟨_, by simp; rfl⟩, by simp [p0], by simp [p4], by simp [p5], by simp, by simp only; omega, z1, z2, z3⟩
          · have he' : ((e : Int) != 0) = true := by simp; omega
            have he2 : ((e : Int) == 0) = false := by simp; omega
            have hZe := herr he
            subst hZe
            simp only [List.map_nil] at c20 c21 c17
            exact ⟨(i + 1, V), _, by simp [p0, p4, p5, p6, hil, hat, hli, actAV, g2', g3', c20, c21, c17, w1, zeroCells, k1, k2, he, he', he2]; rfl, by simp only; omega, rfl, ⟨_, by simp; rfl⟩, by simp [p0], by simp [p4], by simp [p5], by simp, by simp only; omega, ho, by simp only; omega, fun y hy => by have := hvt y hy; simp only; omega⟩
        · right
          exact ⟨.ex 0, _, by simp, by simp [p0, p4, p5, p6, hil]; rfl, rfl, .inr rfl⟩)
      _ (0, []) _ _ hI (by
        refine ⟨rfl, ⟨[], by simp⟩, by simp, by simp, by simp, by simp, by simp, rfl, by simp, by simp⟩) (by simp only; omega)
    obtain ⟨pf, S', D'⟩ := cf
    simp only at hD hq
    subst hD
    rcases hq with ⟨rfl, p2⟩ | rfl
    · simp [p2]
    · simp
  obtain ⟨S, h⟩ := hrs
  refine F_cp (rs := [.bool true]) (S := S) (by simp only [noBoxL, noBox, actsAV, noBox_acts, Bool.and_self]) rfl ?_
  rw [F_fn rfl rfl rfl Tryz.func8 rfl]
  exact h

end
end Go.Proofs.YtmcfnnpihlediaaGreatDoor.Ex

namespace Go.Proofs.YtmcfnnpihlediaaGreatDoor.varsAssign
open Go Go.RowKit Go.Shelf Go.ChangeShapes Go.WideShapes Go.ChangeAt Go.Proofs.YtmcfnnpihlediaaGreatDoor.Ex
open Go.ChangeMaps (open_string shut_string)

theorem reads (os : Os) {H : Type} (enc : TypeId × Value → H) : ∃ places, DataW.whole enc Tryz.prog ((laidWorld os).forCall (fun _ _ => 0) ⟨#[], #[.slice none 0 0], []⟩).memory Tryz.f8.params.toList Rows.varsAssignSpec.vars false (#[.slice none 0 0] : Array Value).toList 8 = some ([.nil], [], places) :=
  ⟨[], by kernel_rfl⟩

set_option maxRecDepth 100000 in
set_option maxHeartbeats 2000000 in
theorem contract (H : Type) (enc : TypeId × Value → H) (W : World) (base : Nat) (args : Array Value) (ds gs : List (DataW H)) (before : List MemPlace)
    (hval : ∀ (j : Nat) t v, Tryz.f8.params[j]? = some t → args[j]? = some v → Value.okWide Tryz.prog W .any base t v)
    (hW : DataW.Whole enc Tryz.prog Tryz.f8.params.toList Rows.varsAssignSpec.vars false W args.toList ds gs before) (hL : laidMetH Tryz.prog Rows.varsAssignRow.laid W) (hsh : W.ShapedOpen Tryz.prog) :
    Calls Tryz.prog 8 args W fun e W' => ∃ v, e = .returned v ∧ Rows.varsAssignSpec.post enc Tryz.prog Tryz.f8 false true false false W args v W' := by
  have hG : Ex.Good W := good_of hL hsh
  have hW' := hW
  obtain ⟨p, q, hA0, hV, rfl, hfz, hnd⟩ := hW
  have hA : DataW.TrodAll enc Tryz.prog W 0 (fun _ => true) true Tryz.f8.params.toList args.toList ds p := hA0
  rw [Tryz.params8] at hA hval
  obtain ⟨v0, vs0, d0, ds0, p0, q0, hargs0, hds0, hp0, h0, r0⟩ := trodAll_cons hA
  obtain ⟨hn1, hn2, hn3⟩ := trodAll_nil r0
  subst hn1 hn2 hn3
  subst hds0 hp0
  obtain rfl : args = #[v0] := by cases args; simp_all
  obtain ⟨rfl, rfl⟩ := trodVars_none hV
  have k0 := h0
  obtain ⟨V0, x0⟩ := open_acts (hval 0 49 v0 rfl rfl) h0
  have l0 : ∀ x ∈ p0, x.block < W.heap.size := fun x hx => by simpa using hW'.lt x (by simp [hx])
  clear hA0
  simp only [List.append_nil] at hW'
  obtain ⟨n, hn⟩ : ∃ n, 44002000 ≤ n := ⟨_, Nat.le_refl _⟩
  have walk := law_calls2 hG (R := Mem W) (@law8v X2 full2 n hn V0 ) (Mem.stab W) (vrs_one (x0))
  refine walk.mono fun e W' ⟨he, hbel⟩ => ?_
  subst he
  refine ⟨_, rfl, _, _, _, [], (p0 ++ []), [], hW', ?_, ?_, ?_, hbel.frame _, fun h => by cases h⟩
  · exact trodAll_cons_mk (shut_bool Tryz.underlying4 _) trodAll_mk0
  · exact trodAll_cons_mk (Below.trod laidOut (by kernel_rfl) (of_decide_eq_true (by kernel_rfl)) k0 hbel l0) trodAll_mk0
  · rfl

set_option maxRecDepth 100000 in
theorem lifted (os : Os) (started : os.Started) (H : Type) (enc : TypeId × Value → H) (F : Stop.Interp) :
    ReturnsInHanded {} Tryz.checked os 8 .any ((OpenSpec.ofChange Rows.varsAssignSpec).preRow enc Tryz.prog Tryz.f8 Rows.varsAssignRow.domain false Rows.varsAssignRow.laid) (((OpenSpec.ofChange Rows.varsAssignSpec).at F).post enc Tryz.prog Tryz.f8 false true false false) := by
  obtain ⟨places, hx⟩ := reads os enc
  refine returnsInHanded_of_row (C := Tryz.checked) (s := (OpenSpec.ofChange Rows.varsAssignSpec)) own0 started (by kernel_rfl) Tryz.func8
    (witness_row_atRef (enc := enc) (C := Tryz.checked) false (laidWorld os) #[.slice none 0 0] rfl (by kernel_rfl) (by kernel_rfl) (by kernel_rfl)
      (OpenSpec.preRow_of_cond 8 hx (by kernel_rfl) (fun k hk => by cases hk) (by kernel_rfl) (laid_met os _))) ?_
  intro W base args ds gs before hval hW _ hcond _ hL hsh _
  exact contract H enc W base args ds gs before hval hW hL hsh

set_option maxRecDepth 100000 in
theorem said : Rows.VarsAssignSaid :=
  OpenClaim.holds_of_cond 8 Tryz.f8 rfl rfl rfl rfl rfl rfl rfl ⟨rfl, rfl, rfl, rfl, rfl⟩ rfl rfl rfl rfl rfl (by kernel_rfl) Tryz.func8 (by kernel_rfl)
    (of_decide_eq_true (by kernel_rfl)) (by unfold Func.isWrapper; first | (rw [if_pos (by decide +kernel)]; kernel_rfl) | (rw [if_neg (by decide +kernel)]; exact ⟨rfl, rfl⟩))
    (fun os started H enc _ F => by rw [OpenClaim.pre_eq_preRow]; exact lifted os started H enc F)

theorem plain (f : FuncId) (fn : Func) (hf : Tryz.pinned.checked.prog.funcNamed "cooperage/cooperagelaw11.VarsAssign" = some f) (hfn : Tryz.pinned.checked.prog.funcs[f]? = some fn) :
    true = Tryz.pinned.checked.prog.looks [] ∧ ∀ (j : Nat) t, fn.params[j]? = some t → Tryz.pinned.checked.prog.wantsStandIn t = false := by
  obtain rfl : f = 8 := Option.some.inj ((show Tryz.prog.funcNamed "cooperage/cooperagelaw11.VarsAssign" = some 8 by kernel_rfl).symm.trans hf) |>.symm
  obtain rfl : fn = Tryz.f8 := (Option.some.inj (Tryz.func8.symm.trans hfn)).symm
  refine ⟨by kernel_rfl, fun j t ht => ?_⟩
  rw [Tryz.params8] at ht
  have hm := Array.mem_of_getElem? ht
  simp at hm
  subst hm
  · exact (show Tryz.prog.wantsStandIn 49 = false by kernel_rfl)

/-- The card. -/
theorem card : Rows.VarsAssignCardSaid :=
  Claim7.holds_tied_plain_at .later [] _ _ _ _ said (fun _ h => by cases h) (by kernel_rfl) (fun _ h => by cases h) varsAssign_row_tie rfl ⟨rfl, rfl⟩ (by kernel_rfl) rfl plain (by kernel_rfl)
end Go.Proofs.YtmcfnnpihlediaaGreatDoor.varsAssign
