/- Part 7 of the proof: what is walked and what is not, the pure interpreter over the code and its soundness, plain laws. -/
import Derived.Test.YtmcfnnpihlediaaGreatDoorVq6
set_option linter.unusedSimpArgs false
set_option linter.unusedVariables false
set_option linter.unusedSectionVars false

/- The document's own functions: call's own, a text that is called. -/
namespace Go.Proofs.YtmcfnnpihlediaaGreatDoor.Ex
open Go
attribute [-simp] rgn rgnD exec_seq exec_cond exec_block keepS

section
variable [XX] {n k : Nat}

set_option maxHeartbeats 8000000 in
theorem funr_rest (hn : 44000100 < n) (hE : ExpR n k) (V : Vs) (name : Str) (n1 : name ≠ [105, 102]) (n2 : name ≠ [102, 111, 114, 101, 97, 99, 104]) (a : Str) (r : List Str) (hal : (a :: r).length ≤ 9) (hcal : name ≠ [99, 97, 108, 108] → (a :: r).length ≤ 6) (id m : Nat) (S : Obs) (hV : okV V (k + 1)) (hl : ∀ x ∈ a :: r, x.length ≤ 200000)
    (hS : S[id]? = some (.cells [.int .i64 m])) (hm : m ≤ 2000) :
    ∃ T, F (n + 1) (.f 63) [.box id 0, varsAV V, .str name, .sl 1 ((a :: r).map .str), .int .i64 (20 - k : Nat)] S =
      some ([.str (functionS (expS (lev k)) V m name (a :: r)).1.1, .int .i64 (functionS (expS (lev k)) V m name (a :: r)).1.2], SetN S id (functionS (expS (lev k)) V m name (a :: r)).2 ++ T) := by
  have hlt : id < S.length := (List.getElem?_eq_some_iff.1 hS).1
  obtain ⟨n, rfl⟩ : ∃ z, n = z + 2 := ⟨n - 2, by omega⟩
  have hEV := fun (t : Str) (m' : Nat) (T : Obs) ht hm' => hE V t id m' (SetN S id m' ++ T) (okV_pre hV) ht (SetN_atA hlt) hm'
  have hE3 := fun (V' : Vs) (t : Str) (m' : Nat) (T : Obs) hV' ht hm' => hE V' t id m' (SetN S id m' ++ T) hV' ht (SetN_atA hlt) hm'
  have hEg := fun n t hn' he => expS_good k V n t hn' he
  have hlens := fun hm h0 => allS_lens ((expS_good k).w V) (fun n t h1 h2 => expS_len k V n t h1 h2) (a :: r) m hm h0
  have hgood := fun hm h0 => allS_good ((expS_good k).w V) (a :: r) m hm h0
  have hnb := noBox_b id
  have b1 : (name == [105, 102]) = false := by simpa using n1
  have b2 : (name == [102, 111, 114, 101, 97, 99, 104]) = false := by simpa using n2
  generalize hd : 20 - k = d at *
  unfold functionS
  rw [if_neg n1, if_neg n2]
  simp only [SetN_app2 hlt] at hEV
  simp only [SetN_app2 hlt] at hE3
  simp only [varsAV, rowAV] at hEV hE3 ⊢
  obtain ⟨T1, e1⟩ := hEV a m [.cells [.sl 3 (V.map varAV)]] (hl a (by simp)) hm
  rw [SetN_same hS] at e1
  have g1 := hEg m a hm
  have hst := allS_cmb (expS (lev k) V) m a r []
  rw [cmb_start] at hst
  generalize hEE : expS (lev k) V = E at *
  generalize E m a = z1 at *
  obtain ⟨⟨x, x1⟩, m1⟩ := z1
  simp only at e1 g1 hst ⊢
  by_cases h1 : x1 = 0
  · subst h1
    obtain ⟨hm1, lx⟩ := g1 rfl
    rw [if_pos rfl] at hst
    simp at e1
    rw [F_fn rfl rfl rfl Tryz.func63 rfl]
    obtain ⟨l, hal'⟩ : ∃ l, l = a :: r := ⟨_, rfl⟩
    rw [← hal'] at hst hal hcal hl hlens hgood
    simp [runFn, Tryz.f63, b1, b2, e1, callP_box (hnb _), -callP_box]
    generalize hI : iter _ _ _ = q
    rw [← hal']
    have hlp : 0 < l.length := by rw [hal']; simp
    generalize hZ : allS E m l = Z at *
    obtain ⟨px, cf, rfl, hD, hq⟩ := iter_cfg (fun x : Nat × Nat × List Str => l.length - x.1)
      (fun y cf => cf.D = [] ∧ (∃ T, cf.S = SetN S id y.2.1 ++ (.cells [.sl 3 (V.map varAV)] :: T)) ∧ cf.pf 0 = .box id 0 ∧ cf.pf 2 = .str name ∧ cf.pf 3 = .sl 1 (l.map .str) ∧ cf.pf 4 = .int .i64 d ∧ cf.pf 6 = .box S.length 0 ∧
        cf.pf 12 = .str x ∧ cf.pf 14 = .sl 1 ((x :: y.2.2).map .str) ∧ cf.pf 15 = .int .i64 y.1 ∧ y.1 ≤ l.length ∧ y.2.1 ≤ 2000 ∧ (x :: y.2.2).length = y.1 ∧ Z = cmb (x :: y.2.2) (allS E y.2.1 (l.drop y.1)))
      (fun px cf => cf.D = [] ∧
        ((px = .ret ∧ (∃ T, cf.S = SetN S id Z.2 ++ T) ∧ cf.pf 10 = .str [] ∧ cf.pf 11 = .int .i64 Z.1.2 ∧ Z.1.2 ≠ 0) ∨
         (px = .ex 1 ∧ ∃ out m2, Z = ((x :: out, 0), m2) ∧ (∃ T, cf.S = SetN S id m2 ++ (.cells [.sl 3 (V.map varAV)] :: T)) ∧ cf.pf 0 = .box id 0 ∧ cf.pf 2 = .str name ∧ cf.pf 4 = .int .i64 d ∧ cf.pf 6 = .box S.length 0 ∧
            cf.pf 12 = .str x ∧ cf.pf 14 = .sl 1 ((x :: out).map .str))))
      (fun y cf hc => by
        obtain ⟨i, m', out⟩ := y
        obtain ⟨pf, S', D'⟩ := cf
        obtain ⟨rfl, ⟨T, rfl⟩, p0, p2, p3, p4, p6, p12, p14, p15, hi, hm', ho, hinv⟩ := hc
        simp only at p0 p2 p3 p4 p6 p12 p14 p15 hi hm' ho hinv
        by_cases hil : i < l.length
        · have hat : l[i]? = some l[i] := List.getElem?_eq_getElem hil
          have hdrop : l.drop i = l[i] :: l.drop (i + 1) := List.drop_eq_getElem_cons hil
          have w1 : IntKind.wrap .i64 ((i : Int) + 1) = (i : Int) + 1 := wrap64 (by omega) (by omega)
          rw [hdrop, allS_cmb] at hinv
          obtain ⟨T2, e2⟩ := hEV l[i] m' (.cells [.sl 3 (V.map varAV)] :: T) (hl _ (List.getElem_mem hil)) hm'
          have hg := hEg m' l[i] hm'
          generalize E m' l[i] = z2 at *
          obtain ⟨⟨y, e⟩, m2⟩ := z2
          simp only at hinv e2 hg
          simp at e2
          by_cases he : e = 0
          · subst he
            left
            rw [if_pos rfl] at hinv
            have hal2 : (out.length + 1 + 1) * 16 ≤ 140737488355328 := by simp only [List.length_cons] at ho; omega
            exact ⟨(i + 1, m2, out ++ [y]), _, by simp [p0, p2, p3, p4, p6, p12, p14, p15, hil, hat, w1, e2, hal2, callP_box (hnb _), -callP_box]; rfl, by simp only; omega, rfl, ⟨T ++ T2, rfl⟩, by simp [p0], by simp [p2], by simp [p3], by simp [p4], by simp [p6], by simp [p12], by simp, by simp, by simp only; omega, (hg rfl).1, by simp only [List.length_cons, List.length_append, List.length_nil] at ho ⊢; omega, hinv⟩
          · right
            rw [if_neg he] at hinv
            have he' : ((e : Int) != 0) = true := by simp; omega
            refine ⟨.ret, _, by simp, by simp [p0, p2, p3, p4, p6, p12, p14, p15, hil, hat, w1, e2, he, he', callP_box (hnb _), -callP_box]; rfl, rfl, .inl ⟨rfl, ⟨_, by rw [hinv]⟩, ?_, ?_, ?_⟩⟩
            all_goals simp [hinv, he]
        · right
          rw [List.drop_of_length_le (by omega), show allS E m' [] = (([], 0), m') from rfl, cmb_nil] at hinv
          refine ⟨.ex 1, _, by simp, by simp [p0, p2, p3, p4, p6, p12, p14, p15, hil]; rfl, rfl, .inr ⟨rfl, out, m', hinv, ⟨T, rfl⟩, ?_⟩⟩
          simp [p0, p2, p4, p6, p12, p14])
      _ (1, m1, []) _ _ hI (by
        refine ⟨rfl, ⟨T1, by simp⟩, by simp, by simp, by simp [hal'], by simp, by simp, by simp, by simp, by simp, by simp only; omega, hm1, rfl, ?_⟩
        rw [hst, hal']; rfl) (by simp only; omega)
    obtain ⟨pf, S', D'⟩ := cf
    simp only at hD hq
    subst hD
    rcases hq with ⟨rfl, ⟨T, rfl⟩, p10, p11, hne⟩ | ⟨rfl, out, m2, hZ2, ⟨T, rfl⟩, p0, p2, p4, p6, p12, p14⟩
    · refine ⟨T, ?_⟩
      obtain ⟨⟨zl, ze⟩, zn⟩ := Z
      simp only at hne p11 ⊢
      rw [if_neg hne]
      simp [p10, p11]
    · subst hZ2
      have hlen := hlens hm rfl
      obtain ⟨hm2, hgl⟩ := hgood hm rfl
      simp only at hlen hm2 hgl
      simp only [if_true]
      by_cases hc : name = [99, 97, 108, 108]
      · subst hc
        simp only [if_true]
        have htl : (trimB x).length ≤ x.length := trimB_len x
        have h93 := cp96 (n + 1) x (by omega) (by omega)
        have h16 := v16 (n + 1) V (trimB x) (by have := hV.2.1; omega) (by have := hV.2.1; omega)
        simp only [CP] at h93
        have hbc : (([99, 97, 108, 108] : Str) != [99, 97, 108, 108]) = false := by decide
        cases hg : getV V (trimB x) with
        | none =>
          have e : gotL V (trimB x) = (([], [], false), false) := by simp [gotL, hg]
          rw [e] at h16
          simp only [CP, varsAV, rowAV, varAV] at h16
          refine ⟨.cells [.sl 3 (V.map varAV)] :: (T ++ [.cells [.str [], .str [], .bool false]]), ?_⟩
          simp [p0, p2, p4, p6, p12, p14, h93, h16, hbc, zeroCells]
        | some v =>
          obtain ⟨vn, vt, vs⟩ := v
          have e : gotL V (trimB x) = ((vn, vt, vs), true) := by simp [gotL, hg]
          rw [e] at h16
          simp only [CP, varsAV, rowAV, varAV] at h16
          have hvt : vt.length ≤ 200000 := hV.2.2 _ (List.mem_of_find?_eq_some hg)
          have h22 := v22 (n + 1) V ([48], trimB x, true) hV.1 (by have := hV.2.1; omega) (by have := hV.2.1; omega)
          simp only [CP, varsAV, rowAV, varAV] at h22
          have hvsl := setV_len ([48], trimB x, true) V
          have hord := ordV_set ([48], trimB x, true) hV.1
          have hmem0 : ∀ y ∈ setV ([48], trimB x, true) V, y.2.1.length ≤ 200000 := fun y hy => by
            rcases setV_mem _ _ _ hy with rfl | hy
            · simp only; omega
            · exact hV.2.2 y hy
          generalize hV0 : setV ([48], trimB x, true) V = V0 at *
          simp [p0, p2, p4, p6, p12, p14, h93, h16, h22, hbc, zeroCells]
          generalize hI : iter _ _ _ = q
          have hol : out.length ≤ 8 := by simp only [List.length_cons] at hgl; omega
          obtain ⟨px, c, rfl, rfl, hD, ⟨T', c2⟩, q0, q4, q19, q21, hok⟩ := iter_cfg (fun y : Nat × Vs => out.length + 1 - y.1)
            (fun y c => c.D = [] ∧ (∃ T', c.S = SetN S id m2 ++ (.cells [.sl 3 (V.map varAV)] :: (T ++ .cells [.str vn, .str vt, .bool vs] :: .cells [.sl 3 (y.2.map varAV)] :: T'))) ∧
              c.pf 0 = .box id 0 ∧ c.pf 4 = .int .i64 d ∧ c.pf 14 = .sl 1 ((x :: out).map .str) ∧ c.pf 19 = .box (S.length + (T.length + 1)) 0 ∧ c.pf 21 = .box (S.length + (T.length + 1 + 1)) 0 ∧ c.pf 22 = .int .i64 y.1 ∧
              1 ≤ y.1 ∧ y.1 ≤ out.length + 1 ∧ ordV y.2 = true ∧ y.2.length ≤ V.length + y.1 ∧ (∀ v ∈ y.2, v.2.1.length ≤ 200000) ∧ setArgs y.1 (out.drop (y.1 - 1)) y.2 = setArgs 1 out V0)
            (fun px c => px = .ex 3 ∧ c.D = [] ∧ (∃ T', c.S = SetN S id m2 ++ (.cells [.sl 3 (V.map varAV)] :: (T ++ .cells [.str vn, .str vt, .bool vs] :: .cells [.sl 3 ((setArgs 1 out V0).map varAV)] :: T'))) ∧
              c.pf 0 = .box id 0 ∧ c.pf 4 = .int .i64 d ∧ c.pf 19 = .box (S.length + (T.length + 1)) 0 ∧ c.pf 21 = .box (S.length + (T.length + 1 + 1)) 0 ∧ okV (setArgs 1 out V0) k)
            (fun y c hcc => by
              obtain ⟨i, V2⟩ := y
              obtain ⟨pf, S', D'⟩ := c
              obtain ⟨rfl, ⟨T', rfl⟩, p0, p4, p14, p19, p21, p22, hi1, hi, ho, hl2, hm2', hinv⟩ := hcc
              simp only at p0 p4 p14 p19 p21 p22 hi1 hi ho hl2 hm2' hinv
              obtain ⟨i, rfl⟩ : ∃ j, i = j + 1 := ⟨i - 1, by omega⟩
              simp only [Nat.add_sub_cancel] at hinv
              by_cases hil : i < out.length
              · left
                have hat : out[i]? = some out[i] := List.getElem?_eq_getElem hil
                have hdr : out.drop i = out[i] :: out.drop (i + 1) := List.drop_eq_getElem_cons hil
                rw [hdr, setArgs] at hinv
                have hri : out[i].length ≤ 4000 := hlen out[i] (List.mem_cons_of_mem _ (List.getElem_mem hil))
                have hw := v22 (n + 1) V2 (decL (i + 1), out[i], true) ho (by have := hV.2.1; omega) (by have := hV.2.1; omega)
                simp only [CP, varsAV, rowAV, varAV] at hw
                have w1 : IntKind.wrap .i64 ((i : Int) + 1 + 1) = (i : Int) + 1 + 1 := wrap64 (by omega) (by omega)
                have hsl := setV_len (decL (i + 1), out[i], true) V2
                have hdg := dig2 (i := i) (by omega)
                have z1 : (0 : Int) ≤ (i : Int) + 1 := by omega
                have z2 : (i : Int) + 1 ≤ (i : Int) + 1 + 1 := by omega
                have z3 : (i : Int) + 1 + 1 ≤ 10 := by omega
                have z4 : ((i : Int) + 1).toNat = i + 1 := by omega
                have z5 : ((i : Int) + 1 + 1).toNat = i + 1 + 1 := by omega
                have z6 : (i : Int) + 1 < (out.length : Int) + 1 := by omega
                have z7 : i + 1 + 1 - (i + 1) = 1 := by omega
                have z8 : i + 1 < out.length + 1 := by omega
                have z9 : (0 : Int) ≤ (i : Int) + 1 + 1 := by omega
                have hord2 := ordV_set (decL (i + 1), out[i], true) ho
                have hmem2 : ∀ y ∈ setV (decL (i + 1), out[i], true) V2, y.2.1.length ≤ 200000 := fun y hy => by
                  rcases setV_mem _ _ _ hy with rfl | hy
                  · simp only; omega
                  · exact hm2' y hy
                generalize setV (decL (i + 1), out[i], true) V2 = V2' at *
                exact ⟨(i + 1 + 1, V2'), _, by simp [p0, p4, p14, p19, p21, p22, hil, hat, w1, hw, hdg, z1, z2, z3, z4, z5, z6, z7, z8, z9]; rfl, by simp only; omega, rfl, ⟨T', by simp⟩, by simp [p0], by simp [p4], by simp [p14], by simp [p19], by simp [p21], by simp, by simp only; omega, by simp only; omega, hord2, by simp only; omega, hmem2, by simpa using hinv⟩
              · right
                have z6 : ¬ (i : Int) + 1 < (out.length : Int) + 1 := by omega
                rw [List.drop_of_length_le (by omega), setArgs] at hinv
                have hok2 : okV V2 k := ⟨ho, by have := hV.2.1; omega, hm2'⟩
                rw [hinv] at hok2
                refine ⟨.ex 3, _, by simp, by simp [p0, p4, p14, p19, p21, p22, hil, z6]; rfl, rfl, rfl, ⟨T', by rw [hinv]⟩, by simp [p0], by simp [p4], by simp [p19], by simp [p21], hok2⟩)
            _ (1, V0) _ _ hI ⟨rfl, ⟨[], by simp⟩, by simp [p0], by simp [p4], by simp [p14], by simp, by simp, by simp, by simp, by simp, hord, by simp only; omega, hmem0, by simp⟩ (by simp only; omega)
          obtain ⟨pf, S', D'⟩ := c
          simp only at hD c2 q0 q4 q19 q21
          subst hD c2
          generalize setArgs 1 out V0 = V3 at *
          obtain ⟨T3, h23⟩ := hE3 V3 vt m2 (.cells [.sl 3 (V.map varAV)] :: (T ++ .cells [.str vn, .str vt, .bool vs] :: .cells [.sl 3 (V3.map varAV)] :: T')) hok hvt hm2
          generalize expS (lev k) V3 m2 vt = y at *
          refine ⟨(.cells [.sl 3 (V.map varAV)] :: (T ++ .cells [.str vn, .str vt, .bool vs] :: .cells [.sl 3 (V3.map varAV)] :: T')) ++ T3, ?_⟩
          simp at h23
          simp [q0, q4, q19, q21, h23, callP_box (hnb _), -callP_box]
      · have hc' : (name != [99, 97, 108, 108]) = true := by simpa using hc
        have hc2 : (name == [99, 97, 108, 108]) = false := by simpa using hc
        rw [if_neg hc]
        have h95 := cp15 (n + 1) (by omega) name (x :: out) hlen (by rw [hgl]; exact hcal hc)
        simp only [CP] at h95
        simp at h95
        refine ⟨.cells [.sl 3 (V.map varAV)] :: T, ?_⟩
        simp [p0, p2, p4, p6, p12, p14, h95, hc', hc2, hc]
  · have h1' : ((x1 : Int) != 0) = true := by simp; omega
    rw [if_neg h1] at hst
    refine ⟨.cells [.sl 3 (V.map varAV)] :: T1, ?_⟩
    rw [F_fn rfl rfl rfl Tryz.func63 rfl, hst]
    simp at e1
    simp [runFn, Tryz.f63, e1, h1, h1', callP_box (hnb _), -callP_box]

end
end Go.Proofs.YtmcfnnpihlediaaGreatDoor.Ex

/- The document's own references. -/
namespace Go.Proofs.YtmcfnnpihlediaaGreatDoor.Ex
open Go
attribute [-simp] rgn rgnD exec_seq exec_cond exec_block keepS

theorem ref_word [XX] (c : Str) : (∃ i w rest, idxBl c = some (i + 1) ∧ c.take (i + 1) = w ∧ wordsL c = w :: rest ∧ w.length = i + 1 ∧ w.length < c.length) ∨
    ((∀ i, idxBl c ≠ some (i + 1)) ∧ (wordsL c = [] ∨ ∃ w rest, wordsL c = w :: rest ∧ (c.length ≤ w.length ∨ (w.length < c.length ∧ c.take w.length ≠ w)))) := by
  cases c with
  | nil => exact .inr ⟨fun i h => (by cases h), .inl rfl⟩
  | cons x r =>
    by_cases hx : isBl x = true
    · refine .inr ⟨fun i h => (by simp [idxBl, hx] at h), ?_⟩
      cases hw : wordsL (x :: r) with
      | nil => exact .inl rfl
      | cons w rest =>
        refine .inr ⟨w, rest, rfl, ?_⟩
        have hok := wordsL_okW (x :: r) w (by rw [hw]; simp)
        by_cases hlen : w.length < (x :: r).length
        · refine .inr ⟨hlen, fun he => ?_⟩
          cases w with
          | nil => simp [okW] at hok
          | cons y w' =>
            rw [List.length_cons, List.take_succ_cons] at he
            injection he with he _
            subst he
            simp [okW, hx] at hok
        · exact .inl (by omega)
    · have hx' : isBl x = false := by simpa using hx
      have hw := wordsL_word x r hx'
      cases hi : idxBl (x :: r) with
      | none =>
        refine .inr ⟨fun i h => (nomatch h), .inr ⟨_, _, hw, .inl ?_⟩⟩
        rw [(idxBl_none _ hi).1]
        exact Nat.le_refl _
      | some j =>
        have hlt := idxBl_lt hi
        obtain ⟨h1, h2, h3⟩ := idxBl_some _ _ hi
        cases j with
        | zero => simp [idxBl, hx'] at hi
        | succ j =>
          have hl : ((x :: r).take (j + 1)).length = j + 1 := by rw [List.length_take]; omega
          exact .inl ⟨j, (x :: r).take (j + 1), _, rfl, rfl, by rw [h1]; exact hw, hl, by omega⟩

section
variable [XX] {n k : Nat}

def FunR (n k : Nat) : Prop := ∀ (V : Vs) (name : Str) (args : List Str) (id m : Nat) (S : Obs), okV V (k + 1) → (∀ x ∈ args, x.length ≤ 200000) → args.length ≤ 9 → (takesL name).1 ≤ args.length → args.length ≤ (takesL name).2 → 1 ≤ args.length → S[id]? = some (.cells [.int .i64 m]) → m ≤ 2000 →
  ∃ T, F n (.f 63) [.box id 0, varsAV V, .str name, .sl 1 (args.map .str), .int .i64 (20 - k : Nat)] S =
    some ([.str (functionS (expS (lev k)) V m name args).1.1, .int .i64 (functionS (expS (lev k)) V m name args).1.2], SetN S id (functionS (expS (lev k)) V m name args).2 ++ T)

theorem function_r (hn : 44000200 < n) (hE : ∀ j, n ≤ j + 1 → ExpR j k) : FunR (n + 1) k := by
  intro V name args id m S hV hl h9 hlo hhi h1 hS hm
  have hEn : ExpR n k := hE n (by omega)
  by_cases n1 : name = [105, 102]
  · subst n1
    simp only [takesL, if_true] at hlo hhi
    match args, hlo, hhi, hl with
    | a :: b :: r, _, hhi, hl => exact funr_if (by omega) hEn V a b r (by simp at hhi; omega) id m S hV hl hS hm
    | [a], hlo, _, _ => simp at hlo
    | [], hlo, _, _ => simp at hlo
  · by_cases n2 : name = [102, 111, 114, 101, 97, 99, 104]
    · subst n2
      rw [takesL, if_neg (by decide), if_pos rfl] at hlo hhi
      match args, hlo, hhi, hl with
      | [a, b, c], _, _, hl =>
        refine funr_each (by omega) hEn ?_ V a b c id m S hV hl hS hm
        obtain ⟨q, rfl⟩ : ∃ q, n = q + 1 := ⟨n - 1, by omega⟩
        exact each_r (by omega) (hE q (by omega))
      | [], hlo, _, _ => simp at hlo
      | [a], hlo, _, _ => simp at hlo
      | [a, b], hlo, _, _ => simp at hlo
      | _ :: _ :: _ :: _ :: _, _, hhi, _ => simp at hhi
    · match args, h1, h9, hlo, hhi, hl with
      | a :: r, _, h9, hlo, hhi, hl =>
        refine funr_rest (by omega) hEn V name n1 n2 a r h9 (fun hc => ?_) id m S hV hl hS hm
        have h : manyL name ≤ 3 := by unfold manyL; split; omega; split; omega; split <;> omega
        rw [takesL, if_neg n1, if_neg n2, if_neg hc] at hhi
        simp only at hhi
        omega
      | [], h1, _, _, _, _ => simp at h1

set_option maxHeartbeats 16000000 in
theorem refer_r (hk : k ≤ 20) (hn : 3000100 < n) (hF : ∀ j, k = j + 1 → FunR n j) (hT : ∀ j, k = j + 1 → TurnR n j) (hE : ∀ j, k = j + 1 → ExpR n j) (hW : ∀ j, k = j + 1 → ValR n j) : RefR (n + 1) k := by
  intro V c id m S hV hcl hS hm
  have hlt : id < S.length := (List.getElem?_eq_some_iff.1 hS).1
  obtain ⟨n, rfl⟩ : ∃ q, n = q + 2 := ⟨n - 2, by omega⟩
  have hS2 : ∀ l : Obs, (S ++ l)[id]? = some (.cells [.int .i64 m]) := fun l => by rw [List.getElem?_append_left hlt]; exact hS
  have h58 := fun l => v58 (n + 1) (20 - k) id m (S ++ l) (hS2 l) (by omega) (by omega)
  simp only [SetN_app hlt] at h58
  have hnb := noBox_b id
  unfold refS
  cases k with
  | zero =>
    simp only [lev]
    have e : inS (20 - 0) m = (15, m) := by simp [inS]
    rw [e] at h58
    refine ⟨[.cells [rowAV V]], ?_⟩
    rw [F_fn rfl rfl rfl Tryz.func40 rfl]
    simp at h58
    simp [runFn, Tryz.f40, varsAV, rowAV, zeroCells, h58, SetN_same hS, callP_box (hnb _), -callP_box]
  | succ k =>
    simp only [lev_succ]
    have hd20 : ¬ 20 ≤ 20 - (k + 1) := by omega
    have w1 : IntKind.wrap .i64 (((20 - (k + 1) : Nat) : Int) + 1) = ((20 - k : Nat) : Int) := by rw [wrap64 (by omega) (by omega)]; omega
    by_cases hb : 2000 < m + 1
    · have e : inS (20 - (k + 1)) m = (12, m + 1) := by simp only [inS, if_neg hd20, if_pos hb]
      rw [e] at h58
      rw [if_pos hb]
      refine ⟨[.cells [rowAV V]], ?_⟩
      rw [F_fn rfl rfl rfl Tryz.func40 rfl]
      generalize 20 - (k + 1) = d at *
      simp at h58
      simp [runFn, Tryz.f40, varsAV, rowAV, zeroCells, h58, callP_box (hnb _), -callP_box]
    · have e : inS (20 - (k + 1)) m = (0, m + 1) := by simp only [inS, if_neg hd20, if_neg hb]
      rw [e] at h58
      rw [if_neg hb]
      have hV' : okV V k := okV_le hV (by omega)
      have hm1 : m + 1 ≤ 2000 := by omega
      have hFV := fun (name : Str) (args : List Str) (l : Obs) h1 h2 h3 h4 h5 => hF k rfl V name args id (m + 1) (SetN S id (m + 1) ++ l) hV h1 h2 h3 h4 h5 (SetN_atA hlt) hm1
      have hTV := fun (a p q : Str) (l : Obs) h1 h2 h3 => hT k rfl V a p q id (m + 1) (SetN S id (m + 1) ++ l) hV' h1 h2 h3 (SetN_atA hlt) hm1
      have hEV := fun (l : Obs) => hE k rfl V c id (m + 1) (SetN S id (m + 1) ++ l) hV' hcl (SetN_atA hlt) hm1
      have hWV := fun (name : Str) (m1 : Nat) (l : Obs) h1 => hW k rfl V name id m1 (SetN S id m1 ++ l) hV' (SetN_atA hlt) h1
      have hg := expS_good k V (m + 1) c hm1
      have h59 := cp53 (n + 1) c (by omega) (by omega)
      have h64 : ∀ t g, t.length ≤ 200000 → g.length ≤ 5 → callP (F (n + 2)) (.f 64) [.str t, .sl 1 [.str g]] = some (.tup [.str (cutS t [g]).1, .str (cutS t [g]).2.1, .str (cutS t [g]).2.2]) := fun t g ht hg => v64 (n + 1) t [g] (by omega) (by simp) (by simp; omega) (by simp; omega)
      have k1 := h64 c [58] hcl (by simp)
      have cl1 := cutS_len c [[58]]
      have k2 := h64 (cutS c [[58]]).2.2 [61] (by omega) (by simp)
      have cl2 := cutS_len (cutS c [[58]]).2.2 [[61]]
      have h60 := fun w => v60 n w
      simp only [CP] at h59 h60
      simp only [SetN_app2 hlt] at hFV
      simp only [SetN_app2 hlt] at hTV
      simp only [SetN_app2 hlt] at hEV
      simp only [SetN_app2 hlt] at hWV
      generalize hdd : 20 - (k + 1) = d0 at *
      generalize hd : 20 - k = d at *
      simp only [varsAV, rowAV] at hFV hTV hEV hWV ⊢
      have h58 := h58 [.cells [.sl 3 (V.map varAV)]]
      simp at h58
      -- where it is no function
      have rest : (wordsL c = [] ∨ (∃ w rest, wordsL c = w :: rest ∧ c.length ≤ w.length) ∨ (∃ w rest, wordsL c = w :: rest ∧ w.length < c.length ∧ c.take w.length ≠ w) ∨
            (∃ w rest, wordsL c = w :: rest ∧ w.length < c.length ∧ c.take w.length = w ∧ (takesL w).2 = 0)) →
          ∃ T, F (n + 2 + 1) (.f 40) [.box id 0, .agg [.sl 3 (V.map varAV)], .str c, .int .i64 d0] S =
            some ([.str (restS (expS (lev k)) (valS (lev k)) V (m + 1) c).1.1, .int .i64 (restS (expS (lev k)) (valS (lev k)) V (m + 1) c).1.2], SetN S id (restS (expS (lev k)) (valS (lev k)) V (m + 1) c).2 ++ T) := by
        intro hfirst
        unfold restS
        by_cases ht : (cutS c [[58]]).2.1 ≠ [] ∧ (cutS (cutS c [[58]]).2.2 [[61]]).2.1 ≠ []
        · rw [if_pos ht]
          have t1 : List.isEmpty (cutS c [[58]]).2.1 = false := by simpa using ht.1
          have t2 : List.isEmpty (cutS (cutS c [[58]]).2.2 [[61]]).2.1 = false := by simpa using ht.2
          have t3 : ((cutS c [[58]]).2.1 != []) = true := by simpa using ht.1
          have t4 : ((cutS (cutS c [[58]]).2.2 [[61]]).2.1 != []) = true := by simpa using ht.2
          obtain ⟨T3, h65⟩ := hTV (cutS c [[58]]).1 (cutS (cutS c [[58]]).2.2 [[61]]).1 (cutS (cutS c [[58]]).2.2 [[61]]).2.2 [.cells [.sl 3 (V.map varAV)]] (by omega) (by omega) (by omega)
          refine ⟨.cells [.sl 3 (V.map varAV)] :: T3, ?_⟩
          generalize turnedS (expS (lev k)) (valS (lev k)) V (m + 1) (cutS c [[58]]).1 (cutS (cutS c [[58]]).2.2 [[61]]).1 (cutS (cutS c [[58]]).2.2 [[61]]).2.2 = z at *
          rw [F_fn rfl rfl rfl Tryz.func40 rfl]
          simp at h65
          rcases hfirst with hw | ⟨w, rest, hw, hle⟩ | ⟨w, rest, hw, hle, hne⟩ | ⟨w, rest, hw, hle, hne, hz⟩
          · rw [hw] at h59
            simp [runFn, Tryz.f40, zeroCells, h58, h59, k1, k2, t1, t2, t3, t4, h65, w1, callP_box (hnb _), -callP_box]
          · rw [hw] at h59
            have z0 : (0 : Int) < (rest.length : Int) + 1 := by omega
            have y1 : ¬ w.length < c.length := by omega
            simp [runFn, Tryz.f40, zeroCells, h58, h59, k1, k2, t1, t2, t3, t4, h65, w1, z0, y1, callP_box (hnb _), -callP_box]
          · rw [hw] at h59
            have z0 : (0 : Int) < (rest.length : Int) + 1 := by omega
            have y2 : w.length ≤ c.length := by omega
            have y3 : (c.take w.length == w) = false := by simpa using hne
            simp [runFn, Tryz.f40, zeroCells, h58, h59, k1, k2, t1, t2, t3, t4, h65, w1, z0, hle, y2, y3, callP_box (hnb _), -callP_box]
          · rw [hw] at h59
            have z0 : (0 : Int) < (rest.length : Int) + 1 := by omega
            have y2 : w.length ≤ c.length := by omega
            have y3 : (c.take w.length == w) = true := by simpa using hne
            have h60 := h60 w
            rw [hz] at h60
            simp [runFn, Tryz.f40, zeroCells, h58, h59, k1, k2, t1, t2, t3, t4, h65, w1, z0, hle, y2, y3, h60, callP_box (hnb _), -callP_box]
        · rw [if_neg ht]
          have hcond : (List.isEmpty (cutS c [[58]]).2.1 = true ∧ ((cutS c [[58]]).2.1 != []) = false) ∨ (List.isEmpty (cutS c [[58]]).2.1 = false ∧ ((cutS c [[58]]).2.1 != []) = true ∧ List.isEmpty (cutS (cutS c [[58]]).2.2 [[61]]).2.1 = true ∧ ((cutS (cutS c [[58]]).2.2 [[61]]).2.1 != []) = false) := by
            by_cases h1 : (cutS c [[58]]).2.1 = []
            · exact .inl (by simp [h1])
            · by_cases h2 : (cutS (cutS c [[58]]).2.2 [[61]]).2.1 = []
              · exact .inr ⟨by simpa using h1, by simpa using h1, by simp [h2], by simp [h2]⟩
              · exact absurd ⟨h1, h2⟩ ht
          obtain ⟨T3, h24⟩ := hEV [.cells [.sl 3 (V.map varAV)]]
          generalize expS (lev k) V (m + 1) c = z at *
          obtain ⟨⟨x, e⟩, m2⟩ := z
          simp only at h24 hg ⊢
          by_cases he : e = 0
          · subst he
            have hg := hg rfl
            obtain ⟨T4, h41⟩ := hWV x m2 (.cells [.sl 3 (V.map varAV)] :: T3) hg.1
            simp only [if_true]
            generalize valS (lev k) V m2 x = y at *
            refine ⟨.cells [.sl 3 (V.map varAV)] :: (T3 ++ T4), ?_⟩
            rw [F_fn rfl rfl rfl Tryz.func40 rfl]
            simp at h24 h41
            rcases hcond with ⟨t1, t3⟩ | ⟨t1, t3, t2, t4⟩
            · skip
              rcases hfirst with hw | ⟨w, rest, hw, hle⟩ | ⟨w, rest, hw, hle, hne⟩ | ⟨w, rest, hw, hle, hne, hz⟩
              · rw [hw] at h59
                simp [runFn, Tryz.f40, zeroCells, h58, h59, k1, k2, t1, t3, h24, h41, w1, callP_box (hnb _), -callP_box]
              · rw [hw] at h59
                have z0 : (0 : Int) < (rest.length : Int) + 1 := by omega
                have y1 : ¬ w.length < c.length := by omega
                simp [runFn, Tryz.f40, zeroCells, h58, h59, k1, k2, t1, t3, h24, h41, w1, z0, y1, callP_box (hnb _), -callP_box]
              · rw [hw] at h59
                have z0 : (0 : Int) < (rest.length : Int) + 1 := by omega
                have y2 : w.length ≤ c.length := by omega
                have y3 : (c.take w.length == w) = false := by simpa using hne
                simp [runFn, Tryz.f40, zeroCells, h58, h59, k1, k2, t1, t3, h24, h41, w1, z0, hle, y2, y3, callP_box (hnb _), -callP_box]
              · rw [hw] at h59
                have z0 : (0 : Int) < (rest.length : Int) + 1 := by omega
                have y2 : w.length ≤ c.length := by omega
                have y3 : (c.take w.length == w) = true := by simpa using hne
                have h60 := h60 w
                rw [hz] at h60
                simp [runFn, Tryz.f40, zeroCells, h58, h59, k1, k2, t1, t3, h24, h41, w1, z0, hle, y2, y3, h60, callP_box (hnb _), -callP_box]
            · skip
              rcases hfirst with hw | ⟨w, rest, hw, hle⟩ | ⟨w, rest, hw, hle, hne⟩ | ⟨w, rest, hw, hle, hne, hz⟩
              · rw [hw] at h59
                simp [runFn, Tryz.f40, zeroCells, h58, h59, k1, k2, t1, t2, t3, t4, h24, h41, w1, callP_box (hnb _), -callP_box]
              · rw [hw] at h59
                have z0 : (0 : Int) < (rest.length : Int) + 1 := by omega
                have y1 : ¬ w.length < c.length := by omega
                simp [runFn, Tryz.f40, zeroCells, h58, h59, k1, k2, t1, t2, t3, t4, h24, h41, w1, z0, y1, callP_box (hnb _), -callP_box]
              · rw [hw] at h59
                have z0 : (0 : Int) < (rest.length : Int) + 1 := by omega
                have y2 : w.length ≤ c.length := by omega
                have y3 : (c.take w.length == w) = false := by simpa using hne
                simp [runFn, Tryz.f40, zeroCells, h58, h59, k1, k2, t1, t2, t3, t4, h24, h41, w1, z0, hle, y2, y3, callP_box (hnb _), -callP_box]
              · rw [hw] at h59
                have z0 : (0 : Int) < (rest.length : Int) + 1 := by omega
                have y2 : w.length ≤ c.length := by omega
                have y3 : (c.take w.length == w) = true := by simpa using hne
                have h60 := h60 w
                rw [hz] at h60
                simp [runFn, Tryz.f40, zeroCells, h58, h59, k1, k2, t1, t2, t3, t4, h24, h41, w1, z0, hle, y2, y3, h60, callP_box (hnb _), -callP_box]
          · have he' : ((e : Int) != 0) = true := by simp; omega
            rw [if_neg he]
            refine ⟨.cells [.sl 3 (V.map varAV)] :: T3, ?_⟩
            rw [F_fn rfl rfl rfl Tryz.func40 rfl]
            simp at h24
            rcases hcond with ⟨t1, t3⟩ | ⟨t1, t3, t2, t4⟩
            · skip
              rcases hfirst with hw | ⟨w, rest, hw, hle⟩ | ⟨w, rest, hw, hle, hne⟩ | ⟨w, rest, hw, hle, hne, hz⟩
              · rw [hw] at h59
                simp [runFn, Tryz.f40, zeroCells, h58, h59, k1, k2, t1, t3, h24, he, he', w1, callP_box (hnb _), -callP_box]
              · rw [hw] at h59
                have z0 : (0 : Int) < (rest.length : Int) + 1 := by omega
                have y1 : ¬ w.length < c.length := by omega
                simp [runFn, Tryz.f40, zeroCells, h58, h59, k1, k2, t1, t3, h24, he, he', w1, z0, y1, callP_box (hnb _), -callP_box]
              · rw [hw] at h59
                have z0 : (0 : Int) < (rest.length : Int) + 1 := by omega
                have y2 : w.length ≤ c.length := by omega
                have y3 : (c.take w.length == w) = false := by simpa using hne
                simp [runFn, Tryz.f40, zeroCells, h58, h59, k1, k2, t1, t3, h24, he, he', w1, z0, hle, y2, y3, callP_box (hnb _), -callP_box]
              · rw [hw] at h59
                have z0 : (0 : Int) < (rest.length : Int) + 1 := by omega
                have y2 : w.length ≤ c.length := by omega
                have y3 : (c.take w.length == w) = true := by simpa using hne
                have h60 := h60 w
                rw [hz] at h60
                simp [runFn, Tryz.f40, zeroCells, h58, h59, k1, k2, t1, t3, h24, he, he', w1, z0, hle, y2, y3, h60, callP_box (hnb _), -callP_box]
            · skip
              rcases hfirst with hw | ⟨w, rest, hw, hle⟩ | ⟨w, rest, hw, hle, hne⟩ | ⟨w, rest, hw, hle, hne, hz⟩
              · rw [hw] at h59
                simp [runFn, Tryz.f40, zeroCells, h58, h59, k1, k2, t1, t2, t3, t4, h24, he, he', w1, callP_box (hnb _), -callP_box]
              · rw [hw] at h59
                have z0 : (0 : Int) < (rest.length : Int) + 1 := by omega
                have y1 : ¬ w.length < c.length := by omega
                simp [runFn, Tryz.f40, zeroCells, h58, h59, k1, k2, t1, t2, t3, t4, h24, he, he', w1, z0, y1, callP_box (hnb _), -callP_box]
              · rw [hw] at h59
                have z0 : (0 : Int) < (rest.length : Int) + 1 := by omega
                have y2 : w.length ≤ c.length := by omega
                have y3 : (c.take w.length == w) = false := by simpa using hne
                simp [runFn, Tryz.f40, zeroCells, h58, h59, k1, k2, t1, t2, t3, t4, h24, he, he', w1, z0, hle, y2, y3, callP_box (hnb _), -callP_box]
              · rw [hw] at h59
                have z0 : (0 : Int) < (rest.length : Int) + 1 := by omega
                have y2 : w.length ≤ c.length := by omega
                have y3 : (c.take w.length == w) = true := by simpa using hne
                have h60 := h60 w
                rw [hz] at h60
                simp [runFn, Tryz.f40, zeroCells, h58, h59, k1, k2, t1, t2, t3, t4, h24, he, he', w1, z0, hle, y2, y3, h60, callP_box (hnb _), -callP_box]
      rcases ref_word c with ⟨i, w, rs, hi, htk, hw, hwl, hlt2⟩ | ⟨hno, hcs⟩
      · have hbd : bodyS (expS (lev k)) (valS (lev k)) V (m + 1) c = if (takesL w).2 = 0 then restS (expS (lev k)) (valS (lev k)) V (m + 1) c
            else if (argsL ((c.drop w.length).dropWhile isBl) (takesL w).2).length < (takesL w).1 then (([], 1), m + 1)
            else functionS (expS (lev k)) V (m + 1) w (argsL ((c.drop w.length).dropWhile isBl) (takesL w).2) := by
          unfold bodyS
          rw [hi]
          simp only [htk, hwl]
        rw [hbd]
        by_cases hz : (takesL w).2 = 0
        · rw [if_pos hz]
          exact rest (.inr (.inr (.inr ⟨w, rs, hw, hlt2, by rw [hwl]; exact htk, hz⟩)))
        · rw [if_neg hz]
          have htl := takesL_le w
          have hdw := dropWhile_len (c.drop w.length)
          simp only [List.length_drop] at hdw
          have a2 := v62 (n + 1) (c.drop w.length) (by simp; omega) (by simp; omega)
          have a3 := v61 (n + 1) ((c.drop w.length).dropWhile isBl) (takesL w).2 (by omega) (by omega) (by omega) (by omega)
          have hag := argsGo_len ((takesL w).2 - 1) ((c.drop w.length).dropWhile isBl)
          change (argsL _ _).length ≤ _ ∧ 1 ≤ (argsL _ _).length ∧ ∀ a ∈ argsL _ _, _ at hag
          simp only [CP] at a2 a3
          generalize argsL ((c.drop w.length).dropWhile isBl) (takesL w).2 = args at *
          have h60 := h60 w
          rw [hw] at h59
          have z0 : (0 : Int) < (rs.length : Int) + 1 := by omega
          have y2 : w.length ≤ c.length := by omega
          have y3 : (c.take w.length == w) = true := by rw [hwl]; simpa using htk
          have y4 : (0 : Int) < ((takesL w).2 : Int) := by omega
          by_cases hls : args.length < (takesL w).1
          · rw [if_pos hls]
            refine ⟨[.cells [.sl 3 (V.map varAV)]], ?_⟩
            rw [F_fn rfl rfl rfl Tryz.func40 rfl]
            simp [runFn, Tryz.f40, zeroCells, h58, h59, z0, hlt2, y2, y3, h60, y4, Nat.pos_of_ne_zero hz, a2, a3, hls, callP_box (hnb _), -callP_box]
          · rw [if_neg hls]
            obtain ⟨T3, h63⟩ := hFV w args [.cells [.sl 3 (V.map varAV)]] (fun a ha => by have := hag.2.2 a ha; omega) (by omega) (by omega) (by omega) hag.2.1
            generalize functionS (expS (lev k)) V (m + 1) w args = z at *
            refine ⟨.cells [.sl 3 (V.map varAV)] :: T3, ?_⟩
            rw [F_fn rfl rfl rfl Tryz.func40 rfl]
            simp at h63
            simp [runFn, Tryz.f40, zeroCells, h58, h59, z0, hlt2, y2, y3, h60, y4, Nat.pos_of_ne_zero hz, a2, a3, hls, h63, w1, callP_box (hnb _), -callP_box]
      · have hbd : bodyS (expS (lev k)) (valS (lev k)) V (m + 1) c = restS (expS (lev k)) (valS (lev k)) V (m + 1) c := by
          unfold bodyS
          cases hi : idxBl c with
          | none => rfl
          | some j =>
            cases j with
            | zero => rfl
            | succ j => exact absurd hi (hno j)
        rw [hbd]
        refine rest ?_
        rcases hcs with hw | ⟨w, rs, hw, hle | ⟨hle, hne⟩⟩
        · exact .inl hw
        · exact .inr (.inl ⟨w, rs, hw, hle⟩)
        · exact .inr (.inr (.inl ⟨w, rs, hw, hle, hne⟩))

end
end Go.Proofs.YtmcfnnpihlediaaGreatDoor.Ex

/- The document's own Expand; two stores are the same; the law VarsExpand. -/
namespace Go.Proofs.YtmcfnnpihlediaaGreatDoor.Ex
open Go
attribute [-simp] rgn rgnD exec_seq exec_cond exec_block keepS

section
variable [XX]

theorem expr_all : ∀ k, k ≤ 20 → ∀ n, 44001000 + 20 * k ≤ n → ExpR n k ∧ ValR n k := by
  intro k
  induction k with
  | zero =>
    intro _ n hn
    have hv : ∀ m, 44000500 ≤ m → ValR m 0 := fun m hm => by
      obtain ⟨q, rfl⟩ : ∃ q, m = q + 1 := ⟨m - 1, by omega⟩
      exact val_r q 0 (by omega) (by omega) (fun j hj => by omega)
    refine ⟨?_, hv n (by omega)⟩
    obtain ⟨q, rfl⟩ : ∃ q, n = q + 2 := ⟨n - 2, by omega⟩
    exact text_r (by omega) (refer_r (by omega) (by omega) (fun j hj => by omega) (fun j hj => by omega) (fun j hj => by omega) (fun j hj => by omega)) (hv (q + 1) (by omega))
  | succ k ih =>
    intro hk n hn
    have ih := ih (by omega)
    have hv : ∀ m, 44001000 + 20 * k + 1 ≤ m → ValR m (k + 1) := fun m hm => by
      obtain ⟨q, rfl⟩ : ∃ q, m = q + 1 := ⟨m - 1, by omega⟩
      exact val_r q (k + 1) (by omega) (by omega) (fun j hj => by
        have : j = k := by omega
        subst this
        exact (ih q (by omega)).1)
    refine ⟨?_, hv n (by omega)⟩
    obtain ⟨q, rfl⟩ : ∃ q, n = q + 4 := ⟨n - 4, by omega⟩
    have hR : RefR (q + 3) (k + 1) := by
      refine refer_r (n := q + 2) (by omega) (by omega) (fun j hj => ?_) (fun j hj => ?_) (fun j hj => ?_) (fun j hj => ?_)
      all_goals
        have : j = k := by omega
        subst this
      · exact function_r (n := q + 1) (by omega) fun z hz => (ih z (by omega)).1
      · exact turned_r (n := q + 1) (by omega) (ih _ (by omega)).1 (ih _ (by omega)).2
      · exact (ih _ (by omega)).1
      · exact (ih _ (by omega)).2
    exact text_r (by omega) hR (hv (q + 3) (by omega))

set_option maxHeartbeats 1000000 in
theorem v14 (n : Nat) (hn : 44001500 ≤ n) (V : Vs) (t : Str) (hV : okV V 20) (ht : t.length ≤ 200000) : CP (F (n + 1)) 14 [varsAV V, .str t] (.tup [.str (expandS V t).1, .int .i64 (expandS V t).2]) := by
  obtain ⟨T, h⟩ := (expr_all 20 (by omega) n (by omega)).1 V t 1 0 [.cells [.sl 3 (V.map varAV)], .cells [.int .i64 0]] hV ht rfl (by omega)
  have hnb := noBox_b 1
  unfold expandS
  generalize expS (lev 20) V 0 t = z at *
  simp only [varsAV, rowAV] at h
  refine F_cp (rs := [.str z.1.1, .int .i64 z.1.2]) (S := SetN [.cells [.sl 3 (V.map varAV)], .cells [.int .i64 0]] 1 z.2 ++ T) (by simp only [noBoxL, noBox, varsAV, noBox_row, Bool.and_self]) rfl ?_
  rw [F_fn rfl rfl rfl Tryz.func14 rfl]
  simp at h
  simp [runFn, Tryz.f14, varsAV, rowAV, zeroCells, h, callP_box (hnb _), -callP_box]

set_option maxHeartbeats 4000000 in
theorem v17 (n : Nat) (V : Vs) (hl : V.length ≤ 1000000) (hn : V.length < n) : CP (F (n + 1)) 17 [varsAV V, varsAV V] (.bool true) := by
  have hrs : ∃ S, runFn Tryz.prog own1 (F n) n Tryz.f17 (Tryz.f17.body.getD .skip) [varsAV V, varsAV V] [] = some ([.bool true], S) := by
    simp [runFn, Tryz.f17, varsAV, rowAV, zeroCells]
    generalize hI : iter _ _ _ = r
    obtain ⟨pf', rfl, p2, p3, p5⟩ := iter_count 0 (fun i pf => pf 2 = .box 0 0 ∧ pf 3 = .box 1 0 ∧ pf 5 = .int .i64 i) V.length
      (fun i pf hi h => by
        obtain ⟨p2, p3, p5⟩ := h
        have hat : V[i]? = some V[i] := List.getElem?_eq_getElem hi
        have w1 : IntKind.wrap .i64 ((i : Int) + 1) = (i : Int) + 1 := wrap64 (by omega) (by omega)
        rcases hv : V[i] with ⟨a, b, c⟩
        rw [hv] at hat
        have e1 : (a != a) = false := by simp
        have e2 : (b != b) = false := by simp
        have e3 : (c != c) = false := by simp
        simp [p2, p3, p5, hi, hat, hv, w1, varAV, e1, e2, e3])
      (fun pf h => by
        obtain ⟨p2, p3, p5⟩ := h
        simp [p2, p3, p5]) V.length 0 n _ r (by omega) hI (by simp) (by omega)
    simp
  obtain ⟨S, h⟩ := hrs
  refine F_cp (rs := [.bool true]) (S := S) (by simp only [noBoxL, noBox, varsAV, noBox_row, Bool.and_self]) rfl ?_
  rw [F_fn rfl rfl rfl Tryz.func17 rfl]
  exact h

set_option maxHeartbeats 8000000 in
theorem law3v (hX : FullV) (n : Nat) (hn : 44002000 ≤ n) (V0 : Vs) (s nm : Str) : CP (F (n + 1)) 3 [rowAV V0, .str s, .str nm] (.bool true) := by
  obtain ⟨n, rfl⟩ : ∃ q, n = q + 2 := ⟨n - 2, by omega⟩
  have c11 := v11 hX (n + 1) (by omega)
  have c12 := v12 hX n V0 (by omega)
  have hg := rowsL_good V0
  generalize rowsL V0 = z at *
  obtain ⟨A, ok⟩ := z
  simp only at c12 hg
  have hok := hg.ok (by omega)
  obtain ⟨ho, hl, hbig⟩ := hg
  simp only [CP, rowAV, varsAV] at c11 c12
  have hrs : ∃ S, runFn Tryz.prog own1 (F (n + 2)) (n + 2) Tryz.f3 (Tryz.f3.body.getD .skip) [rowAV V0, .str s, .str nm] [] = some ([.bool true], S) := by
    cases ok
    · simp [runFn, Tryz.f3, rowAV, c11, c12]
    · by_cases g1 : 800 < s.length
      · have g1' : decide (800 < (s.length : Int)) = true := by simp; omega
        simp [runFn, Tryz.f3, rowAV, c11, c12, g1']
      have g1' : decide (800 < (s.length : Int)) = false := by simp; omega
      by_cases g2 : 100 < nm.length
      · have g2' : decide (100 < (nm.length : Int)) = true := by simp; omega
        simp [runFn, Tryz.f3, rowAV, c11, c12, g1', g2']
      have g2' : decide (100 < (nm.length : Int)) = false := by simp; omega
      have c13 := v13 hX (n + 1) (by omega) A s hok (by omega)
      have c14 := v14 (n + 1) (by omega) A s hok (by omega)
      have c15 := v15 (n + 2) A nm (by omega) (by omega)
      have c16 := v16 (n + 1) A nm (by omega) (by omega)
      have c17 := v17 (n + 1) A (by omega) (by omega)
      generalize gotL A nm = y at *
      obtain ⟨⟨y1, y2, y3⟩, y4⟩ := y
      generalize expandS A s = x at *
      obtain ⟨x1, x2⟩ := x
      simp only [CP, varsAV, rowAV, varAV] at c13 c14 c15 c16 c17
      simp [runFn, Tryz.f3, rowAV, c11, c12, g1', g2', c13, c14, c15, c16, c17]
  obtain ⟨S, h⟩ := hrs
  refine F_cp (rs := [.bool true]) (S := S) (by simp only [noBoxL, noBox, noBox_row, Bool.and_self]) rfl ?_
  rw [F_fn rfl rfl rfl Tryz.func3 rfl]
  exact h

end
end Go.Proofs.YtmcfnnpihlediaaGreatDoor.Ex
