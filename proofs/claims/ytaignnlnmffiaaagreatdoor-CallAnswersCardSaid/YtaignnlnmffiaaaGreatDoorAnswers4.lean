/- The law CallAnswers of chapter 10 holds: for every input the call returns true, and each argument reads afterwards as it read before. Conditions: the listed variables of Go's library hold what their initialisers lay (the card ties them to the program's text). -/
import Derived.Test.YtaignnlnmffiaaaGreatDoorAnswers3
set_option linter.unusedSimpArgs false
set_option linter.unusedVariables false
set_option linter.unusedSectionVars false

/- The document's own parts, sorted words, joined words. -/
namespace Go.Proofs.YtaignnlnmffiaaaGreatDoor.Ex
open Go
attribute [-simp] rgn rgnD exec_seq exec_cond exec_block

theorem rep_le (a b t : Str) (ha : a ≠ []) (hb : b.length ≤ 1000) (ht : t.length ≤ 1000) : (repL a b t).length ≤ 2000000 := by
  have h := rep_len a b ha t.length t (Nat.le_refl _)
  have h1 := cnt_le a ha t.length t (Nat.le_refl _)
  have h2 : cntS a t * b.length ≤ 1000 * 1000 := Nat.mul_le_mul (by omega) (by omega)
  omega
theorem isPre_long {a t : Str} (h : t.length < a.length) : isPre a t = false := by
  cases hp : isPre a t with
  | false => rfl
  | true => have := ((isPre_iff a t).1 hp).2; omega

set_option maxHeartbeats 4000000 in
theorem cp54 [XX] (n : Nat) (a b t : Str) (ha1 : a.length ≤ 1000) (hb : b.length ≤ 1000) (ht : t.length ≤ 1000) (hn : 2000 < n) :
    CP (F (n + 1)) 54 [.str a, .str b, .str t] (.str (if a = [] then t else repL a b t)) := by
  refine F_cp (rs := [.str (if a = [] then t else repL a b t)]) (S := []) rfl rfl ?_
  rw [F_fn rfl rfl Tryz.func54 rfl]
  by_cases ha : a = []
  · subst ha
    simp [runFn, Tryz.f54]
  rw [if_neg ha]
  have ha' : (a == []) = false := by simpa using ha
  have hap : 0 < a.length := List.length_pos_iff.2 ha
  have hL := rep_le a b t ha hb ht
  simp [runFn, Tryz.f54, ha']
  generalize hI : iter _ _ _ = r
  obtain ⟨x, pf', rfl, hx, p7⟩ := iter_gen (fun x : Nat × Str => t.length - x.1) (fun x pf => pf 0 = .str a ∧ pf 1 = .str b ∧ pf 2 = .str t ∧ pf 7 = .str x.2 ∧ pf 8 = .int .i64 x.1 ∧ x.1 ≤ t.length ∧ x.2 ++ repL a b (t.drop x.1) = repL a b t)
    (fun x pf => x = .ex 0 ∧ pf 7 = .str (repL a b t))
    (fun x pf h => by
      obtain ⟨i, o⟩ := x
      obtain ⟨p0, p1, p2, p7, p8, hi, hinv⟩ := h
      simp only at p7 p8 hi hinv
      by_cases hlt : i < t.length
      · left
        have hne : t.drop i ≠ [] := by
          intro e
          have := congrArg List.length e
          simp at this; omega
        obtain ⟨c, r', hcr⟩ := List.exists_cons_of_ne_nil hne
        have hr' : r' = t.drop (i + 1) := by
          have := congrArg (List.drop 1) hcr
          rw [List.drop_drop] at this
          simpa using this.symm
        have hol : o.length ≤ 2000000 := by have := congrArg List.length hinv; simp at this; omega
        have hob : o.length + b.length ≤ 9223372036854775807 := by omega
        have ho1 : o.length + 1 ≤ 9223372036854775807 := by omega
        have homin : o.length + min 1 (t.length - i) ≤ 9223372036854775807 := by omega
        obtain ⟨q, hq⟩ : ∃ q : Int, (i : Int) + (a.length : Int) = q := ⟨_, rfl⟩
        have wq : IntKind.wrap .i64 q = q := wrap64 (by omega) (by omega)
        have hqn : q.toNat = i + a.length := by omega
        have hq0 : (0 : Int) ≤ q := by omega
        have hqi : (i : Int) ≤ q := by omega
        obtain ⟨q', hq'⟩ : ∃ q' : Int, (i : Int) + 1 = q' := ⟨_, rfl⟩
        have wq' : IntKind.wrap .i64 q' = q' := wrap64 (by omega) (by omega)
        have hqn' : q'.toNat = i + 1 := by omega
        have hq1' : q' ≤ (t.length : Int) := by omega
        have hq0' : (0 : Int) ≤ q' := by omega
        have hqi' : (i : Int) ≤ q' := by omega
        have htk1 : (t.drop i).take 1 = [c] := by rw [hcr]; rfl
        cases hp : isPre a (t.drop i) with
        | true =>
          have hle : i + a.length ≤ t.length := by
            have := ((isPre_iff a _).1 hp).2
            rw [List.length_drop] at this; omega
          have hq1 : q ≤ (t.length : Int) := by omega
          have hst := repL_pre a b ha _ hp
          rw [List.drop_drop] at hst
          have htp := take_pre a (t.drop i)
          rw [hp] at htp
          have hmeas : t.length - (i + a.length) < t.length - i := by omega
          have hinv2 : o ++ (b ++ repL a b (t.drop (i + a.length))) = repL a b t := by rw [← hst]; exact hinv
          refine ⟨(i + a.length, o ++ b), ?_⟩
          simp [p0, p1, p2, p7, p8, hlt, hq, wq, hqn, hq1, hq0, hqi, htp, hob, hmeas, hinv2, hle]
        | false =>
          have hst := repL_skip a b ha c r' (by rw [← hcr]; exact hp)
          rw [← hcr, hr'] at hst
          have hmeas : t.length - (i + 1) < t.length - i := by omega
          have hi1 : i + 1 ≤ t.length := hlt
          have hinv2 : o ++ c :: repL a b (t.drop (i + 1)) = repL a b t := by rw [← hst]; exact hinv
          have htp := take_pre a (t.drop i)
          rw [hp] at htp
          refine ⟨(i + 1, o ++ [c]), ?_⟩
          by_cases hle : i + a.length ≤ t.length
          · have hq1 : q ≤ (t.length : Int) := by omega
            simp [p0, p1, p2, p7, p8, hlt, hq, wq, hqn, hq1, hq0, hqi, htp, hmeas, hinv2, hi1, hq', wq', hqn', hq1', hq0', hqi', htk1, ho1, homin]
          · have hq1 : ¬ q ≤ (t.length : Int) := by omega
            simp [p0, p1, p2, p7, p8, hlt, hq, wq, hqn, hq1, hq0, hqi, htp, hmeas, hinv2, hi1, hq', wq', hqn', hq1', hq0', hqi', htk1, ho1, homin]
      · right
        have hz : t.drop i = [] := List.drop_of_length_le (by omega)
        rw [hz, repL_nil, List.append_nil] at hinv
        have hnl : t.length ≤ i := by omega
        refine ⟨.ex 0, ?_⟩
        simp [p0, p1, p2, p7, p8, hlt, hnl, hinv]) n (0, []) _ r hI ⟨by simp, by simp, by simp, by simp, by simp, by simp, by simp⟩ (by simp; omega)
  subst hx
  simp [p7]

theorem hasSub_pre (a t : Str) (h : isPre a t = true) : hasSub a t = true := by
  cases t with
  | nil => have := ((isPre_iff a []).1 h).2; simp at this; simp [hasSub, this]
  | cons c r => simp [hasSub, h]

set_option maxHeartbeats 4000000 in
theorem cp56 [XX] (n : Nat) (a t : Str) (ha1 : a.length ≤ 1000000) (ht : t.length ≤ 1000000) (hn : t.length + 2 < n) : CP (F (n + 1)) 56 [.str a, .str t] (.bool (hasSub a t)) := by
  refine F_cp (rs := [.bool (hasSub a t)]) (S := []) rfl rfl ?_
  rw [F_fn rfl rfl Tryz.func56 rfl]
  simp [runFn, Tryz.f56]
  generalize hI : iter _ _ _ = r
  obtain ⟨x, pf', rfl, hx⟩ := iter_gen (fun i : Nat => t.length + 1 - i) (fun i pf => pf 0 = .str a ∧ pf 1 = .str t ∧ pf 5 = .int .i64 i ∧ i ≤ t.length + 1 ∧ hasSub a (t.drop i) = hasSub a t ∧ (i ≤ t.length ∨ a ≠ []))
    (fun x pf => (x = .ret ∧ pf 4 = .bool true ∧ hasSub a t = true) ∨ (x = .ex 0 ∧ hasSub a t = false))
    (fun i pf h => by
      obtain ⟨p0, p1, p5, hi, hinv, hor⟩ := h
      obtain ⟨q, hq⟩ : ∃ q : Int, (i : Int) + (a.length : Int) = q := ⟨_, rfl⟩
      have wq : IntKind.wrap .i64 q = q := wrap64 (by omega) (by omega)
      have hqn : q.toNat = i + a.length := by omega
      have hq0 : (0 : Int) ≤ q := by omega
      have hqi : (i : Int) ≤ q := by omega
      by_cases hle : i + a.length ≤ t.length
      · have hq1 : q ≤ (t.length : Int) := by omega
        have htp := take_pre a (t.drop i)
        cases hp : isPre a (t.drop i) with
        | true =>
          right
          rw [hp] at htp
          have hs := hasSub_pre a _ hp
          rw [hinv] at hs
          refine ⟨.ret, ?_⟩
          simp [p0, p1, p5, hq, wq, hqn, hq1, hq0, hqi, htp, hs]
        | false =>
          left
          rw [hp] at htp
          have hane : a ≠ [] := by intro e; subst e; simp [isPre] at hp
          have hap : 0 < a.length := List.length_pos_iff.2 hane
          have hlt : i < t.length := by omega
          have hd : t.drop i = t[i] :: t.drop (i + 1) := List.drop_eq_getElem_cons hlt
          have hs : hasSub a (t.drop (i + 1)) = hasSub a t := by
            rw [← hinv, hd]
            rw [hd] at hp
            rw [hasSub, hp, Bool.false_or]
          have hw := w64 (i := i) (by omega)
          have hmeas : t.length - i < t.length + 1 - i := by omega
          have hi1 : i + 1 ≤ t.length + 1 := by omega
          have hi2 : i ≤ t.length := by omega
          have hi3 : i + 1 ≤ t.length := by omega
          refine ⟨i + 1, ?_⟩
          simp [p0, p1, p5, hq, wq, hqn, hq1, hq0, hqi, htp, hs, hw, hmeas, hi1, hi2, hi3]
      · right
        have hq1 : ¬ q ≤ (t.length : Int) := by omega
        have hz : hasSub a (t.drop i) = false := by
          apply hasSub_long
          rw [List.length_drop]
          rcases hor with h | h
          · omega
          · have := List.length_pos_iff.2 h; omega
        rw [hinv] at hz
        refine ⟨.ex 0, ?_⟩
        simp [p0, p1, p5, hq, wq, hqn, hq1, hz]) n 0 _ r hI ⟨by simp, by simp, by simp, by omega, by simp, .inl (by omega)⟩ (by omega)
  rcases hx with ⟨rfl, p4, hs⟩ | ⟨rfl, hs⟩
  · simp [p4, hs]
  · simp [hs]

/-! ### Sorted -/
def insS (x : Str) : List Str → List Str × Bool → List Str × Bool
  | [], s => s
  | y :: r, (nx, d) => insS x r (if (d || y == x) = true then (nx ++ [y], true) else if Op.bytesLess x y = true then (nx ++ [x, y], true) else (nx ++ [y], false))
theorem insS_app (x y : Str) : ∀ (l : List Str) (s : List Str × Bool), insS x (l ++ [y]) s = insS x [y] (insS x l s)
  | [], s => rfl
  | z :: l, (nx, d) => by
    exact insS_app x y l _
theorem insS_done (x : Str) : ∀ (l nx : List Str), insS x l (nx, true) = (nx ++ l, true)
  | [], nx => by simp [insS]
  | y :: r, nx => by simp [insS, insS_done x r]
theorem insS_go (x : Str) : ∀ (l nx : List Str), (if (insS x l (nx, false)).2 = true then (insS x l (nx, false)).1 else (insS x l (nx, false)).1 ++ [x]) = nx ++ insL' x l
  | [], nx => by simp [insS, insL']
  | y :: r, nx => by
    by_cases h1 : y = x
    · subst h1
      simp [insS, insS_done, insL']
    · have h1' : ¬ x = y := fun e => h1 e.symm
      have hb : (y == x) = false := by simpa using h1
      by_cases h2 : Op.bytesLess x y = true
      · simp [insS, insS_done, insL', hb, h1, h1', h2]
      · have ih := insS_go x r (nx ++ [y])
        simp only [insS, insL', Bool.false_or, hb, Bool.false_eq_true, if_false, h1', h2]
        rw [ih]; simp
theorem insS_len (x : Str) : ∀ (l : List Str) (s : List Str × Bool), (insS x l s).1.length ≤ s.1.length + 2 * l.length
  | [], s => by simp [insS]
  | y :: r, (nx, d) => by
    have h := insS_len x r (if (d || y == x) = true then (nx ++ [y], true) else if Op.bytesLess x y = true then (nx ++ [x, y], true) else (nx ++ [y], false))
    rw [insS]
    refine Nat.le_trans h ?_
    simp only [List.length_cons]
    split
    · simp; omega
    · split <;> simp <;> omega
theorem foldl_take (w : List Str) (i : Nat) (h : i < w.length) : (w.take (i + 1)).foldl (fun acc x => insL' x acc) [] = insL' w[i] ((w.take i).foldl (fun acc x => insL' x acc) []) := by
  rw [List.take_succ_eq_append_getElem h, List.foldl_append]; rfl
theorem insL_len' (x : Str) : ∀ l : List Str, (insL' x l).length ≤ l.length + 1
  | [] => by simp [insL']
  | y :: r => by
    have := insL_len' x r
    simp only [insL']; split
    · simp
    · split <;> simp <;> omega
theorem fold_len : ∀ (l acc : List Str), (l.foldl (fun acc x => insL' x acc) acc).length ≤ acc.length + l.length
  | [], acc => by simp
  | x :: l, acc => by
    have h1 := fold_len l (insL' x acc)
    have h2 := insL_len' x acc
    simp only [List.foldl_cons, List.length_cons]; omega

set_option maxHeartbeats 8000000 in
theorem cp57 [XX] (n : Nat) (w : List Str) (hw : w.length ≤ 1000000) (hn : w.length + 2 < n) : CP (F (n + 1)) 57 [.sl 1 (w.map .str)] (.sl 1 ((sortU w).map .str)) := by
  refine F_cp (rs := [.sl 1 ((sortU w).map .str)]) (S := []) (by simp [noBoxL, noBox]) (by simp [noBoxL, noBox]) ?_
  rw [F_fn rfl rfl Tryz.func57 rfl]
  simp [runFn, Tryz.f57]
  generalize hI : iter _ _ _ = r
  obtain ⟨pf', rfl, h⟩ := iter_count 0 (fun i pf => pf 0 = .sl 1 (w.map .str) ∧ pf 3 = .sl 1 (((w.take i).foldl (fun acc x => insL' x acc) []).map .str) ∧ pf 4 = .int .i64 i) w.length
    (fun i pf hi h => by
      obtain ⟨p0, p3, p4⟩ := h
      have hwi := w64 (i := i) (by omega)
      rw [foldl_take w i hi]
      have hol := fold_len (w.take i) []
      rw [List.length_take] at hol
      generalize (w.take i).foldl (fun acc x => insL' x acc) [] = o at *
      have hol2 : o.length ≤ w.length := by simp at hol; omega
      simp [p0, p3, p4, hi]
      generalize hJ : iter _ _ _ = r2
      obtain ⟨pf2, rfl, hq⟩ := iter_count 2 (fun k pf => pf 0 = .sl 1 (w.map .str) ∧ pf 3 = .sl 1 (o.map .str) ∧ pf 4 = .int .i64 i ∧ pf 7 = .int .i64 k ∧ pf 5 = .sl 1 ((insS w[i] (o.take k) ([], false)).1.map .str) ∧ pf 6 = .bool (insS w[i] (o.take k) ([], false)).2) o.length
        (fun k pf hk h => by
          obtain ⟨q0, q3, q4, q7, q5, q6⟩ := h
          have hw2 := w64 (i := k) (by omega)
          have hst := insS_app w[i] o[k] (o.take k) ([], false)
          rw [← List.take_succ_eq_append_getElem hk] at hst
          rw [hst]
          have hil := insS_len w[i] (o.take k) ([], false)
          have htk : (o.take k).length = k := by rw [List.length_take]; omega
          rw [htk] at hil
          simp only [List.length_nil, Nat.zero_add] at hil
          generalize insS w[i] (o.take k) ([], false) = st at *
          obtain ⟨nx, d⟩ := st
          simp only at q5 q6 hil
          have hb1 : (nx.length + 1) * 16 ≤ 140737488355328 := by omega
          have hb2 : (nx.length + 1 + 1) * 16 ≤ 140737488355328 := by omega
          simp only [insS]
          cases d with
          | true => 
            cases he : (o[k] == w[i]) <;> simp [q0, q3, q4, q7, q5, q6, hk, hw2, hi, he, hb1]
          | false =>
            cases he : (o[k] == w[i]) with
            | true => simp [q0, q3, q4, q7, q5, q6, hk, hw2, hi, he, hb1]
            | false =>
              cases hl : Op.bytesLess w[i] o[k] with
              | true => simp [q0, q3, q4, q7, q5, q6, hk, hw2, hi, he, hb1, hb2, hl]
              | false => simp [q0, q3, q4, q7, q5, q6, hk, hw2, hi, he, hb1, hb2, hl])
        (fun pf h => by
          obtain ⟨q0, q3, q4, q7, q5, q6⟩ := h
          simp [q0, q3, q4, q7, q5, q6]) o.length 0 n _ r2 (by omega) hJ (by simp [p0, p3, p4, insS]) (by omega)
      obtain ⟨q0, q3, q4, q7, q5, q6⟩ := hq
      rw [List.take_length] at q5 q6
      have hgo := insS_go w[i] o []
      have hil := insS_len w[i] o ([], false)
      simp only [List.length_nil, Nat.zero_add] at hil
      rw [List.nil_append] at hgo
      rw [← hgo]
      generalize insS w[i] o ([], false) = st at *
      obtain ⟨nx, d⟩ := st
      simp only at q5 q6 hil ⊢
      have hb1 : (nx.length + 1) * 16 ≤ 140737488355328 := by omega
      cases d with
      | true => simp [q0, q3, q4, q7, q5, q6, hwi]
      | false => simp [q0, q3, q4, q7, q5, q6, hwi, hi, hb1])
    (fun pf h => by
      obtain ⟨p0, p3, p4⟩ := h
      simp [p0, p3, p4]) w.length 0 n _ r (by omega) hI (by simp) (by omega)
  obtain ⟨p0, p3, p4⟩ := h
  rw [List.take_length] at p3
  simp [p3, sortU]

/-! ### Joined -/
theorem zip_lenM : ∀ a b : List Str, (zipAdd a b).length = max a.length b.length
  | [], [] => by simp [zipAdd]
  | x :: a, [] => by simp [zipAdd]
  | [], y :: b => by simp [zipAdd]
  | x :: a, y :: b => by simp only [zipAdd, List.length_cons, zip_lenM a b]; omega
theorem zip_getM : ∀ (a b : List Str) (i : Nat) (h : i < (zipAdd a b).length), (zipAdd a b)[i] = (a[i]?.getD []) ++ (b[i]?.getD [])
  | [], [], i, h => by simp [zipAdd] at h
  | x :: a, [], i, h => by simp only [zipAdd] at h ⊢; simp [List.getElem?_eq_getElem h]
  | [], y :: b, i, h => by simp only [zipAdd] at h ⊢; simp [List.getElem?_eq_getElem h]
  | x :: a, y :: b, 0, h => by simp [zipAdd]
  | x :: a, y :: b, i + 1, h => by
    have := zip_getM a b i (by simp only [zipAdd, List.length_cons] at h; omega)
    simpa [zipAdd] using this

set_option maxHeartbeats 8000000 in
theorem cp61 [XX] (n : Nat) (s t : Str) (hs : s.length ≤ 2000000) (ht : t.length ≤ 2000000) (hn : s.length + t.length + 30 < n) : CP (F (n + 1)) 61 [.str s, .str t] (.sl 1 ((zipAdd (wordsL s) (wordsL t)).map .str)) := by
  refine F_cp (rs := [.sl 1 ((zipAdd (wordsL s) (wordsL t)).map .str)]) (S := []) rfl (by simp [noBoxL, noBox]) ?_
  rw [F_fn rfl rfl Tryz.func61 rfl]
  obtain ⟨m, rfl⟩ : ∃ m, n = m + 1 := ⟨n - 1, by omega⟩
  have h1 := cp53 m s hs (by omega)
  have h2 := cp53 m t ht (by omega)
  simp only [CP] at h1 h2
  generalize m + 1 = n at *
  have l1 := wordsL_len s
  have l2 := wordsL_len t
  have m1 := wordsL_mem s
  have m2 := wordsL_mem t
  generalize wordsL s = a at *
  generalize wordsL t = b at *
  have hzl := zip_lenM a b
  have hzg := zip_getM a b
  simp [runFn, Tryz.f61, h1, h2]
  generalize zipAdd a b = z at *
  generalize hI : iter _ _ _ = r
  obtain ⟨pf', rfl, h⟩ := iter_count 0 (fun i pf => pf 5 = .sl 1 (a.map .str) ∧ pf 6 = .sl 1 (b.map .str) ∧ pf 7 = .sl 1 ((z.take i).map .str) ∧ pf 8 = .int .i64 i) z.length
    (fun i pf hi h => by
      obtain ⟨p5, p6, p7, p8⟩ := h
      have hw := w64 (i := i) (by omega)
      have hst := List.take_succ_eq_append_getElem hi
      have hg := hzg i hi
      rw [hst, hg]
      have htl : (z.take i).length ≤ i := by rw [List.length_take]; omega
      generalize z.take i = o at *
      have hb1 : (o.length + 1) * 16 ≤ 140737488355328 := by omega
      by_cases ha : i < a.length
      · have ga : a[i]? = some a[i] := List.getElem?_eq_getElem ha
        have la := m1 a[i] (List.getElem_mem ha)
        by_cases hb : i < b.length
        · have gb : b[i]? = some b[i] := List.getElem?_eq_getElem hb
          have lb := m2 b[i] (List.getElem_mem hb)
          have hsum : a[i].length + b[i].length ≤ 9223372036854775807 := by omega
          simp [p5, p6, p7, p8, hw, ha, hb, hb1, hsum, ga, gb]
        · have gb : b[i]? = none := List.getElem?_eq_none (by omega)
          simp [p5, p6, p7, p8, hw, ha, hb, hb1, ga, gb]
      · have ga : a[i]? = none := List.getElem?_eq_none (by omega)
        have hb : i < b.length := by omega
        have gb : b[i]? = some b[i] := List.getElem?_eq_getElem hb
        have lb := m2 b[i] (List.getElem_mem hb)
        have hsum : b[i].length ≤ 9223372036854775807 := by omega
        simp [p5, p6, p7, p8, hw, ha, hb, hb1, hsum, ga, gb])
    (fun pf h => by
      obtain ⟨p5, p6, p7, p8⟩ := h
      have ha : ¬ z.length < a.length := by omega
      have hb : ¬ z.length < b.length := by omega
      simp [p5, p6, p7, p8, ha, hb]) z.length 0 n _ r (by omega) hI (by simp) (by omega)
  obtain ⟨p5, p6, p7, p8⟩ := h
  rw [List.take_length] at p7
  simp [p7]

end Go.Proofs.YtaignnlnmffiaaaGreatDoor.Ex

/- The document's own patterns. -/
namespace Go.Proofs.YtaignnlnmffiaaaGreatDoor.Ex
open Go
attribute [-simp] rgn rgnD exec_seq exec_cond exec_block

theorem lastOf_snocM (c : UInt8) : ∀ (s : Str) (d : UInt8), lastOf c (s ++ [d]) = if d == c then some s.length else lastOf c s
  | [], d => by simp only [List.nil_append, lastOf, List.length_nil]
  | x :: s, d => by
    have ih := lastOf_snocM c s d
    rw [List.cons_append, lastOf, ih]
    by_cases h : d == c
    · simp [h]
    · simp [h, lastOf]
theorem cntL_snoc (s : Str) (d : UInt8) : cntL (s ++ [d]) = cntL s + if d == 37 then 1 else 0 := by
  simp [cntL, List.countP_append, List.countP_cons]

set_option maxHeartbeats 4000000 in
theorem cp166 [XX] (n : Nat) (p : Str) (hp : p.length ≤ 1000000) (hn : p.length + 1 < n) : CP (F (n + 1)) 166 [.str p] (.tup [.int .i64 (cntL p), .int .i64 (intOf (lastOf 37 p))]) := by
  refine F_cp (rs := [.int .i64 (cntL p), .int .i64 (intOf (lastOf 37 p))]) (S := []) rfl rfl ?_
  rw [F_fn rfl rfl Tryz.func166 rfl]
  simp [runFn, Tryz.f166]
  generalize hI : iter _ _ _ = r
  obtain ⟨pf', rfl, h⟩ := iter_count 0 (fun i pf => pf 0 = .str p ∧ pf 4 = .int .i64 (cntL (p.take i)) ∧ pf 5 = .int .i64 (intOf (lastOf 37 (p.take i))) ∧ pf 6 = .int .i64 i) p.length
    (fun i pf hi h => by
      obtain ⟨p0, p4, p5, p6⟩ := h
      have hw := w64 (i := i) (by omega)
      have h1 := cntL_snoc (p.take i) p[i]
      have h2 := lastOf_snocM 37 (p.take i) p[i]
      rw [← List.take_succ_eq_append_getElem hi] at h1 h2
      rw [h1, h2]
      have hc : cntL (p.take i) ≤ i := by
        have := List.countP_le_length (p := fun x : UInt8 => x == 37) (l := p.take i)
        rw [List.length_take] at this
        unfold cntL; omega
      have hw2 := w64 (i := cntL (p.take i)) (by omega)
      have htl : (p.take i).length = i := by rw [List.length_take]; omega
      rw [htl]
      have hb := byte_eq p[i] 37 (by decide)
      rw [show ((37 : Nat) : Int) = 37 from rfl, show UInt8.ofNat 37 = 37 from rfl] at hb
      generalize cntL (p.take i) = a at *
      generalize lastOf 37 (p.take i) = b at *
      cases hd : (p[i] == 37) with
      | true => rw [hd] at hb; simp [p0, p4, p5, p6, hi, hw, hw2, hb]
      | false => rw [hd] at hb; simp [p0, p4, p5, p6, hi, hw, hw2, hb])
    (fun pf h => by
      obtain ⟨p0, p4, p5, p6⟩ := h
      simp [p0, p4, p5, p6]) p.length 0 n _ r (by omega) hI (by simp [cntL, lastOf]) (by omega)
  obtain ⟨p0, p4, p5, p6⟩ := h
  rw [List.take_length] at p4 p5
  simp [p4, p5]

theorem idx_none : ∀ p : Str, cntL p = 0 → idxOf 37 p = none
  | [], _ => rfl
  | c :: r, h => by
    have h' : (c == 37) = false ∧ cntL r = 0 := by
      unfold cntL at h ⊢
      rw [List.countP_cons] at h
      cases hc : (c == 37) with
      | true => rw [hc] at h; simp at h
      | false => rw [hc] at h; exact ⟨rfl, by simpa using h⟩
    simp only [idxOf, h'.1, idx_none r h'.2]
    rfl
theorem last_none : ∀ p : Str, cntL p = 0 → lastOf 37 p = none
  | [], _ => rfl
  | c :: r, h => by
    have h' : (c == 37) = false ∧ cntL r = 0 := by
      unfold cntL at h ⊢
      rw [List.countP_cons] at h
      cases hc : (c == 37) with
      | true => rw [hc] at h; simp at h
      | false => rw [hc] at h; exact ⟨rfl, by simpa using h⟩
    simp only [lastOf, h'.1, last_none r h'.2]
    rfl
theorem idx_one : ∀ p : Str, cntL p = 1 → ∃ i, idxOf 37 p = some i ∧ lastOf 37 p = some i ∧ i < p.length
  | [], h => by simp [cntL] at h
  | c :: r, h => by
    unfold cntL at h
    rw [List.countP_cons] at h
    cases hc : (c == 37) with
    | true =>
      rw [hc] at h
      have h0 : cntL r = 0 := by unfold cntL; simpa using h
      refine ⟨0, by simp [idxOf, hc], ?_, by simp⟩
      simp only [lastOf, last_none r h0, hc]; rfl
    | false =>
      rw [hc] at h
      have h1 : cntL r = 1 := by unfold cntL; simpa using h
      obtain ⟨i, g1, g2, g3⟩ := idx_one r h1
      refine ⟨i + 1, ?_, ?_, by simpa using g3⟩
      · simp [idxOf, hc, g1]
      · simp only [lastOf, g2]

theorem isPre_ex {a t : Str} : isPre a t = true ↔ ∃ m, t = a ++ m := by
  rw [isPre_iff]
  constructor
  · rintro ⟨h1, h2⟩
    exact ⟨t.drop a.length, by conv => lhs; rw [← List.take_append_drop a.length t, h1]⟩
  · rintro ⟨m, rfl⟩
    simp
theorem isSuf_ex {a t : Str} : isPre a.reverse t.reverse = true ↔ ∃ m, t = m ++ a := by
  rw [isPre_ex]
  constructor
  · rintro ⟨m, h⟩
    refine ⟨m.reverse, ?_⟩
    have := congrArg List.reverse h
    simpa using this
  · rintro ⟨m, rfl⟩
    exact ⟨m.reverse, by simp⟩

theorem match_some {p s x : Str} {i : Nat} (hr : cntL p = 1) (hi : idxOf 37 p = some i) (h : s = p.take i ++ x ++ p.drop (i + 1)) : matchL p s = (x, true) := by
  have hp : p ≠ [] := by intro e; subst e; simp [cntL] at hr
  have hright : rightL p = true := by simp [rightL, hp, hr]
  have hc : cutL p = (p.take i, p.drop (i + 1), true) := by simp [cutL, hi]
  have h1 : isPre (p.take i) s = true := isPre_ex.2 ⟨x ++ p.drop (i + 1), by rw [h]; simp⟩
  have h2 : s.drop (p.take i).length = x ++ p.drop (i + 1) := by rw [h, List.append_assoc, List.drop_left]
  have h3 : isPre (p.drop (i + 1)).reverse (x ++ p.drop (i + 1)).reverse = true := isSuf_ex.2 ⟨x, rfl⟩
  have h4 : (x ++ p.drop (i + 1)).take ((x ++ p.drop (i + 1)).length - (p.drop (i + 1)).length) = x := by
    rw [List.length_append, Nat.add_sub_cancel, List.take_left]
  unfold matchL
  rw [if_pos hright, hc]
  simp only [cutPre, h1, if_true, h2, cutSuf, h3, h4, Bool.and_true]
theorem match_ex {p s : Str} {i : Nat} (hr : cntL p = 1) (hi : idxOf 37 p = some i) (h : (matchL p s).2 = true) : ∃ x, s = p.take i ++ x ++ p.drop (i + 1) := by
  have hp : p ≠ [] := by intro e; subst e; simp [cntL] at hr
  have hright : rightL p = true := by simp [rightL, hp, hr]
  have hc : cutL p = (p.take i, p.drop (i + 1), true) := by simp [cutL, hi]
  unfold matchL at h
  rw [if_pos hright, hc] at h
  simp only [cutPre, if_true] at h
  cases h1 : isPre (p.take i) s with
  | false => simp [h1] at h
  | true =>
    simp only [h1, if_true, Bool.true_and, cutSuf] at h
    cases h2 : isPre (p.drop (i + 1)).reverse (s.drop (p.take i).length).reverse with
    | false => simp only [h2, Bool.false_eq_true, if_false] at h
    | true =>
      obtain ⟨m, hm⟩ := isPre_ex.1 h1
      obtain ⟨x, hx⟩ := isSuf_ex.1 h2
      refine ⟨x, ?_⟩
      rw [hm, List.drop_left] at hx
      rw [hm, hx, List.append_assoc]

end Go.Proofs.YtaignnlnmffiaaaGreatDoor.Ex

/- The document's own matches. -/
namespace Go.Proofs.YtaignnlnmffiaaaGreatDoor.Ex
open Go
attribute [-simp] rgn rgnD exec_seq exec_cond exec_block

theorem match_none {p s : Str} (h0 : cntL p = 1) (h : (matchL p s).2 = false) : (matchL p s).1 = [] := by
  have hp : p ≠ [] := by intro e; subst e; simp [cntL] at h0
  have hright : rightL p = true := by simp [rightL, hp, h0]
  obtain ⟨i, hi, _, _⟩ := idx_one p h0
  have hc : cutL p = (p.take i, p.drop (i + 1), true) := by simp [cutL, hi]
  unfold matchL at h ⊢
  rw [if_pos hright, hc] at h ⊢
  simp only [if_true] at h ⊢
  split
  · rename_i g; rw [if_pos g] at h; cases h
  · rfl

set_option maxHeartbeats 8000000 in
theorem cp134 [XX] (n : Nat) (p s : Str) (hp : p.length ≤ 1000000) (hs : s.length ≤ 1000000) (hn : p.length + s.length + 10 < n) :
    CP (F (n + 1)) 134 [.str p, .str s] (.tup [.str (matchL p s).1, .bool (matchL p s).2]) := by
  refine F_cp (rs := [.str (matchL p s).1, .bool (matchL p s).2]) (S := []) rfl rfl ?_
  rw [F_fn rfl rfl Tryz.func134 rfl]
  have h166 : callP (F n) (.f 166) [.str p] = some (.tup [.int .i64 (cntL p), .int .i64 (intOf (lastOf 37 p))]) := by
    obtain ⟨m, rfl⟩ : ∃ m, n = m + 1 := ⟨n - 1, by omega⟩
    exact cp166 m p hp (by omega)
  by_cases hpe : p = []
  · subst hpe
    have hm : matchL [] s = ([], false) := by simp [matchL, rightL]
    rw [hm]
    simp [runFn, Tryz.f134, h166]
  have hpe' : (p == []) = false := by simpa using hpe
  by_cases hc2 : 1 < cntL p
  · have hm : matchL p s = ([], false) := by
      have : rightL p = false := by simp [rightL, hpe]; omega
      simp [matchL, this]
    rw [hm]
    have e : decide ((1 : Int) < (cntL p : Int)) = true := by simpa using (by omega : (1 : Int) < (cntL p : Int))
    simp [runFn, Tryz.f134, h166, hpe', e]
  have e2 : decide ((1 : Int) < (cntL p : Int)) = false := by simpa using (by omega : ¬ (1 : Int) < (cntL p : Int))
  by_cases hc0 : cntL p = 0
  · have hm : matchL p s = ([], p == s) := by
      have hr : rightL p = true := by simp [rightL, hpe, hc0]
      simp [matchL, hr, cutL, idx_none p hc0]
    rw [hm]
    have e0 : ((cntL p : Int) == 0) = true := by simp [hc0]
    simp [runFn, Tryz.f134, h166, hpe', e2, e0]
  have hc1 : cntL p = 1 := by omega
  have e0 : ((cntL p : Int) == 0) = false := by simp [hc1]
  obtain ⟨at0, hi1, hi2, hi3⟩ := idx_one p hc1
  rw [hi2] at h166
  simp only [intOf] at h166
  have hms := fun x => match_some (s := s) (x := x) hc1 hi1
  have hmx := match_ex (s := s) hc1 hi1
  have hwat := w64 (i := at0) (by omega)
  obtain ⟨u, hu⟩ : ∃ u : Int, (at0 : Int) + 1 = u := ⟨_, rfl⟩
  have wu : IntKind.wrap .i64 u = u := wrap64 (by omega) (by omega)
  have hun : u.toNat = at0 + 1 := by omega
  have hu1 : u ≤ (p.length : Int) := by omega
  have hu0 : (0 : Int) ≤ u := by omega
  have hat1 : at0 ≤ p.length := by omega
  have hptl : (p.take at0).length = at0 := by rw [List.length_take]; omega
  have hpdl : (p.drop (at0 + 1)).length ≤ p.length := by rw [List.length_drop]; omega
  have hptk : (p.drop (at0 + 1)).take (p.length - (at0 + 1)) = p.drop (at0 + 1) := List.take_of_length_le (by rw [List.length_drop]; omega)
  simp [runFn, Tryz.f134, h166, hpe', e2, e0]
  generalize hI : iter _ _ _ = r
  obtain ⟨x, pf', rfl, hx⟩ := iter_gen (fun i : Nat => s.length + 1 - i) (fun i pf => pf 0 = .str p ∧ pf 1 = .str s ∧ pf 7 = .int .i64 at0 ∧ pf 8 = .int .i64 i ∧ i ≤ s.length + 1 ∧ ((matchL p s).2 = true → i ≤ at0))
    (fun x pf => (x = .ret ∧ (matchL p s).2 = true ∧ pf 4 = .str (matchL p s).1 ∧ pf 5 = .bool true) ∨ (x = .ex 0 ∧ (matchL p s).2 = false))
    (fun i pf h => by
      obtain ⟨p0, p1, p7, p8, hi, hg⟩ := h
      by_cases hle : i ≤ s.length
      · have hw := w64 (i := i) (by omega)
        by_cases hgood : (matchL p s).2 = true ∧ i = at0
        · right
          obtain ⟨hb, rfl⟩ := hgood
          obtain ⟨x, hx⟩ := hmx hb
          have hmv := hms x hx
          have hxl := congrArg List.length hx
          simp only [List.length_append, hptl] at hxl
          have hslx : (s.drop i).take x.length = x := by
            have h1 : s.drop i = (p.take i ++ (x ++ p.drop (i + 1))).drop i := by rw [← List.append_assoc, ← hx]
            rw [h1, List.drop_left' hptl, List.take_left]
          rw [hmv]
          refine ⟨.ret, ?_⟩
          simp [p0, p1, p7, p8, hle]
          generalize hJ : iter _ _ _ = r2
          obtain ⟨y, pf2, rfl, hy, q4, q5⟩ := iter_gen (fun k : Nat => s.length + 1 - k) (fun k pf => pf 0 = .str p ∧ pf 1 = .str s ∧ pf 7 = .int .i64 i ∧ pf 8 = .int .i64 i ∧ pf 9 = .int .i64 k ∧ i ≤ k ∧ k ≤ i + x.length)
            (fun y pf => y = .ret ∧ pf 4 = .str x ∧ pf 5 = .bool true)
            (fun k pf h => by
              obtain ⟨q0, q1, q7, q8, q9, hk1, hk2⟩ := h
              have hkle : k ≤ s.length := by omega
              have wk := w64 (i := k) (by omega)
              have hik : (i : Int) ≤ (k : Int) := by omega
              have L1 : i + min (k - i) (s.length - i) ≤ 9223372036854775807 := by omega
              have L2 : i + min (k - i) (s.length - i) + (p.length - (i + 1)) ≤ 9223372036854775807 := by omega
              have L3 : i + (min (k - i) (s.length - i) + (p.length - (i + 1))) ≤ 9223372036854775807 := by omega
              by_cases hk : k = i + x.length
              · right
                subst hk
                have N1 : i + x.length ≤ 9223372036854775807 := by omega
                have N2 : i + x.length + (p.length - (i + 1)) ≤ 9223372036854775807 := by omega
                have N3 : i + (x.length + (p.length - (i + 1))) ≤ 9223372036854775807 := by omega
                have hM2 : (p.take i ++ (x ++ p.drop (i + 1)) == s) = true := by rw [← List.append_assoc, ← hx]; simp
                have hM1 : (p.take i ++ ((s.drop i).take x.length ++ p.drop (i + 1)) == s) = true := by
                  rw [hslx, ← List.append_assoc, ← hx]; simp
                obtain ⟨v, hv⟩ : ∃ v : Int, (i : Int) + (x.length : Int) = v := ⟨_, rfl⟩
                have hvn : v.toNat = i + x.length := by omega
                have hv1 : v ≤ (s.length : Int) := by omega
                have hv0 : (0 : Int) ≤ v := by omega
                have hvi : (i : Int) ≤ v := by omega
                refine ⟨.ret, ?_⟩
                simp [q0, q1, q7, q8, q9, hv, hvn, hv1, hv0, hvi, hkle, hik, N1, N2, N3, hM2, hu, wu, hun, hu1, hu0, hat1, hslx]
              · left
                have hM1 : (p.take i ++ ((s.drop i).take (k - i) ++ p.drop (i + 1)) == s) = false := by
                  cases hbb : (p.take i ++ ((s.drop i).take (k - i) ++ p.drop (i + 1)) == s) with
                  | false => rfl
                  | true =>
                    have e : p.take i ++ ((s.drop i).take (k - i) ++ p.drop (i + 1)) = s := by simpa using hbb
                    have e2 := hms _ (by rw [List.append_assoc]; exact e.symm)
                    rw [hmv] at e2
                    have e3 := congrArg (fun z : Str × Bool => z.1.length) e2
                    simp only [List.length_take, List.length_drop] at e3
                    omega
                have hmeas : s.length + 1 - (k + 1) < s.length + 1 - k := by omega
                have hmeas2 : s.length - k < s.length + 1 - k := by omega
                have hk3 : i ≤ k + 1 := by omega
                have hk4 : k + 1 ≤ i + x.length := by omega
                refine ⟨k + 1, ?_⟩
                simp [q0, q1, q7, q8, q9, wk, hkle, hk1, hik, L1, L2, L3, hM1, hu, wu, hun, hu1, hu0, hat1, hmeas, hmeas2, hk3, hk4]) n i _ r2 hJ (by simp [p0, p1, p7, p8]) (by omega)
          subst hy
          simp [q4, q5]
        · left
          have hg2 : (matchL p s).2 = true → i + 1 ≤ at0 := by
            intro hb
            have h1 := hg hb
            have h2 : i ≠ at0 := fun e => hgood ⟨hb, e⟩
            omega
          have hmeas0 : s.length - i < s.length + 1 - i := by omega
          refine ⟨i + 1, ?_⟩
          simp [p0, p1, p7, p8, hle]
          generalize hJ : iter _ _ _ = r2
          obtain ⟨y, pf2, rfl, hy, q0, q1, q7, q8⟩ := iter_gen (fun k : Nat => s.length + 1 - k) (fun k pf => pf 0 = .str p ∧ pf 1 = .str s ∧ pf 7 = .int .i64 at0 ∧ pf 8 = .int .i64 i ∧ pf 9 = .int .i64 k ∧ i ≤ k ∧ k ≤ s.length + 1)
            (fun y pf => y = .ex 2 ∧ pf 0 = .str p ∧ pf 1 = .str s ∧ pf 7 = .int .i64 at0 ∧ pf 8 = .int .i64 i)
            (fun k pf h => by
              obtain ⟨q0, q1, q7, q8, q9, hk1, hk2⟩ := h
              by_cases hkle : k ≤ s.length
              · left
                have wk := w64 (i := k) (by omega)
                have hik : (i : Int) ≤ (k : Int) := by omega
                have L1 : at0 + min (k - i) (s.length - i) ≤ 9223372036854775807 := by omega
                have L2 : at0 + min (k - i) (s.length - i) + (p.length - (at0 + 1)) ≤ 9223372036854775807 := by omega
                have L3 : at0 + (min (k - i) (s.length - i) + (p.length - (at0 + 1))) ≤ 9223372036854775807 := by omega
                have hmeas : s.length + 1 - (k + 1) < s.length + 1 - k := by omega
                have hmeas2 : s.length - k < s.length + 1 - k := by omega
                have hk3 : i ≤ k + 1 := by omega
                refine ⟨k + 1, ?_⟩
                by_cases hia : i = at0
                · subst hia
                  have hM1 : (p.take i ++ ((s.drop i).take (k - i) ++ p.drop (i + 1)) == s) = false := by
                    cases hbb : (p.take i ++ ((s.drop i).take (k - i) ++ p.drop (i + 1)) == s) with
                    | false => rfl
                    | true =>
                      have e : p.take i ++ ((s.drop i).take (k - i) ++ p.drop (i + 1)) = s := by simpa using hbb
                      have e2 := hms _ (by rw [List.append_assoc]; exact e.symm)
                      exact absurd ⟨by rw [e2], rfl⟩ hgood
                  simp [q0, q1, q7, q8, q9, wk, hkle, hk1, hik, L1, L2, L3, hM1, hu, wu, hun, hu1, hu0, hat1, hmeas, hmeas2, hk3]
                · have hne : ((i : Int) == (at0 : Int)) = false := by simpa using (by omega : ¬ (i : Int) = (at0 : Int))
                  cases hM1 : (p.take at0 ++ ((s.drop i).take (k - i) ++ p.drop (at0 + 1)) == s) <;>
                    simp [q0, q1, q7, q8, q9, wk, hkle, hk1, hik, L1, L2, L3, hM1, hu, wu, hun, hu1, hu0, hat1, hmeas, hmeas2, hk3, hne, hia]
              · right
                refine ⟨.ex 2, ?_⟩
                simp [q0, q1, q7, q8, q9, hkle]) n i _ r2 hJ (by simp [p0, p1, p7, p8]; omega) (by omega)
          subst hy
          simp [q0, q1, q7, q8, hw, hmeas0, hle]
          exact hg2
      · right
        have hz : (matchL p s).2 = false := by
          cases hb : (matchL p s).2 with
          | false => rfl
          | true =>
            obtain ⟨x, hx⟩ := hmx hb
            have h1 := hg hb
            have h2 := congrArg List.length hx
            simp only [List.length_append, hptl] at h2
            omega
        refine ⟨.ex 0, ?_⟩
        simp [p0, p1, p7, p8, hle, hz]) n 0 _ r hI ⟨by simp, by simp, by simp, by simp, by omega, fun _ => by omega⟩ (by omega)
  rcases hx with ⟨rfl, hb, p4, p5⟩ | ⟨rfl, hb⟩
  · simp [p4, p5, hb]
  · have hm1 : (matchL p s).1 = [] := match_none hc1 hb
    simp [hb, hm1]

end Go.Proofs.YtaignnlnmffiaaaGreatDoor.Ex

/- The document's own patterns put to use; a path's parts. -/
namespace Go.Proofs.YtaignnlnmffiaaaGreatDoor.Ex
open Go
attribute [-simp] rgn rgnD exec_seq exec_cond exec_block

set_option maxHeartbeats 4000000 in
theorem cp135 [XX] (n : Nat) (p stem : Str) (hp : p.length ≤ 1000000) (hs : stem.length ≤ 1000000) (hn : p.length + 10 < n) : CP (F (n + 1)) 135 [.str p, .str stem] (.str (fillL p stem)) := by
  refine F_cp (rs := [.str (fillL p stem)]) (S := []) rfl rfl ?_
  rw [F_fn rfl rfl Tryz.func135 rfl]
  have h166 : callP (F n) (.f 166) [.str p] = some (.tup [.int .i64 (cntL p), .int .i64 (intOf (lastOf 37 p))]) := by
    obtain ⟨m, rfl⟩ : ∃ m, n = m + 1 := ⟨n - 1, by omega⟩
    exact cp166 m p hp (by omega)
  by_cases hc : cntL p = 1
  · obtain ⟨i, hi1, hi2, hi3⟩ := idx_one p hc
    rw [hi2] at h166
    simp only [intOf] at h166
    have hf : fillL p stem = p.take i ++ (stem ++ p.drop (i + 1)) := by simp [fillL, openL, hc, cutL, hi1]
    rw [hf]
    have e : ((cntL p : Int) != 1) = false := by simp [hc]
    obtain ⟨u, hu⟩ : ∃ u : Int, (i : Int) + 1 = u := ⟨_, rfl⟩
    have wu : IntKind.wrap .i64 u = u := wrap64 (by omega) (by omega)
    have hun : u.toNat = i + 1 := by omega
    have hu1 : u ≤ (p.length : Int) := by omega
    have hu0 : (0 : Int) ≤ u := by omega
    have hat1 : i ≤ p.length := by omega
    have L0 : min i p.length = i := by omega
    have L1 : i + stem.length ≤ 9223372036854775807 := by omega
    have L2 : i + stem.length + (p.length - (i + 1)) ≤ 9223372036854775807 := by omega
    have L3 : i + (stem.length + (p.length - (i + 1))) ≤ 9223372036854775807 := by omega
    simp [runFn, Tryz.f135, h166, e, hu, wu, hun, hu1, hu0, hat1, L0, L1, L2, L3]
  · have hf : fillL p stem = p := by simp [fillL, openL, hc]
    rw [hf]
    have e : ((cntL p : Int) != 1) = true := by simpa using (by omega : ¬ (cntL p : Int) = 1)
    simp [runFn, Tryz.f135, h166, e]

theorem cp92 [XX] (n : Nat) (p q s : Str) (hp : p.length ≤ 1000000) (hq : q.length ≤ 1000000) (hs : s.length ≤ 1000000) (hn : p.length + q.length + s.length + 30 < n) : CP (F (n + 1)) 92 [.str p, .str q, .str s] (.str (substL p q s)) := by
  refine F_cp (rs := [.str (substL p q s)]) (S := []) rfl rfl ?_
  rw [F_fn rfl rfl Tryz.func92 rfl]
  have hml := matchL_len p s
  obtain ⟨m, rfl⟩ : ∃ m, n = m + 1 := ⟨n - 1, by omega⟩
  have h1 := cp134 m p s hp hs (by omega)
  have h2 := cp135 m q (matchL p s).1 hq (by omega) (by omega)
  simp only [CP] at h1 h2
  unfold substL
  generalize matchL p s = ms at *
  obtain ⟨x, b⟩ := ms
  simp only at h1 h2 ⊢
  generalize m + 1 = n at *
  cases b with
  | true => simp [runFn, Tryz.f92, h1, h2]
  | false => simp [runFn, Tryz.f92, h1]

set_option maxHeartbeats 4000000 in
theorem cp93 [XX] (n : Nat) (l : List Str) (s : Str) (hl : l.length ≤ 1000000) (hp : ∀ p ∈ l, p.length ≤ 1000000) (hs : s.length ≤ 1000000) (hn : 2100000 < n) : CP (F (n + 1)) 93 [.sl 1 (l.map .str), .str s] (.bool (anyL l s)) := by
  refine F_cp (rs := [.bool (anyL l s)]) (S := []) (by simp [noBoxL, noBox]) rfl ?_
  rw [F_fn rfl rfl Tryz.func93 rfl]
  have h134 : ∀ p ∈ l, callP (F n) (.f 134) [.str p, .str s] = some (.tup [.str (matchL p s).1, .bool (matchL p s).2]) := by
    intro p hpl
    obtain ⟨m, rfl⟩ : ∃ m, n = m + 1 := ⟨n - 1, by omega⟩
    exact cp134 m p s (hp p hpl) hs (by have := hp p hpl; omega)
  simp [runFn, Tryz.f93]
  generalize hI : iter _ _ _ = r
  obtain ⟨x, pf', rfl, hx⟩ := iter_gen (fun i : Nat => l.length - i) (fun i pf => pf 0 = .sl 1 (l.map .str) ∧ pf 1 = .str s ∧ pf 5 = .int .i64 i ∧ i ≤ l.length ∧ (l.drop i).any (fun p => (matchL p s).2) = anyL l s)
    (fun x pf => (x = .ret ∧ pf 4 = .bool true ∧ anyL l s = true) ∨ (x = .ex 0 ∧ anyL l s = false))
    (fun i pf h => by
      obtain ⟨p0, p1, p5, hi, hinv⟩ := h
      by_cases hlt : i < l.length
      · have hd : l.drop i = l[i] :: l.drop (i + 1) := List.drop_eq_getElem_cons hlt
        rw [hd, List.any_cons] at hinv
        have hc := h134 l[i] (List.getElem_mem hlt)
        have hw := w64 (i := i) (by omega)
        cases hm : (matchL l[i] s).2 with
        | true =>
          right
          rw [hm] at hc hinv
          rw [Bool.true_or] at hinv
          refine ⟨.ret, ?_⟩
          simp [p0, p1, p5, hlt, hc, ← hinv]
        | false =>
          left
          rw [hm] at hc hinv
          rw [Bool.false_or] at hinv
          have hmeas : l.length - (i + 1) < l.length - i := by omega
          have hi1 : i + 1 ≤ l.length := hlt
          refine ⟨i + 1, ?_⟩
          generalize (l.drop (i + 1)).any (fun p => (matchL p s).2) = b at *
          simp [p0, p1, p5, hlt, hc, hw, hmeas, hi1, hinv]
      · right
        have hz : l.drop i = [] := List.drop_of_length_le (by omega)
        rw [hz, List.any_nil] at hinv
        have hnl : l.length ≤ i := by omega
        refine ⟨.ex 0, ?_⟩
        simp [p0, p1, p5, hlt, ← hinv]) n 0 _ r hI ⟨by simp, by simp, by simp, by omega, rfl⟩ (by omega)
  rcases hx with ⟨rfl, p4, hb⟩ | ⟨rfl, hb⟩
  · simp [p4, hb]
  · simp [hb]

/-! ### A path's parts -/
def lastFrom (c : UInt8) (s : Str) (k : Nat) : Int := intOf ((lastOf c (s.drop k)).map (· + k))

set_option maxHeartbeats 4000000 in
theorem cp136 [XX] (n : Nat) (s : Str) (c : UInt8) (k : Nat) (hk : k ≤ s.length) (hs : s.length ≤ 1000000) (hn : s.length + 10 < n) : CP (F (n + 1)) 136 [.str s, .int .u8 c.toNat, .int .i64 k] (.int .i64 (lastFrom c s k)) := by
  refine F_cp (rs := [.int .i64 (lastFrom c s k)]) (S := []) rfl rfl ?_
  rw [F_fn rfl rfl Tryz.func136 rfl]
  simp [runFn, Tryz.f136]
  generalize hI : iter _ _ _ = r
  obtain ⟨pf', rfl, h⟩ := iter_count 0 (fun j pf => pf 0 = .str s ∧ pf 1 = .int .u8 c.toNat ∧ pf 7 = .int .i64 (intOf ((lastOf c ((s.drop k).take j)).map (· + k))) ∧ pf 8 = .int .i64 ((k + j : Nat) : Int)) (s.length - k)
    (fun j pf hj h => by
      obtain ⟨p0, p1, p7, p8⟩ := h
      have hjd : j < (s.drop k).length := by rw [List.length_drop]; exact hj
      have h2 := lastOf_snocM c ((s.drop k).take j) (s.drop k)[j]
      rw [← List.take_succ_eq_append_getElem hjd, List.getElem_drop] at h2
      rw [h2]
      have htl : ((s.drop k).take j).length = j := by rw [List.length_take]; omega
      rw [htl]
      have hlt : k + j < s.length := by omega
      have hlti : (k : Int) + (j : Int) < (s.length : Int) := by omega
      have hw : IntKind.wrap .i64 ((k : Int) + (j : Int) + 1) = (k : Int) + ((j : Int) + 1) := by rw [wrap64 (by omega) (by omega)]; omega
      have hb : ((s[k + j].toNat : Int) == (c.toNat : Int)) = (s[k + j] == c) := by
        have := byte_eq s[k + j] c.toNat c.toNat_lt
        rwa [UInt8.ofNat_toNat] at this
      have hq0 : (0 : Int) ≤ (k : Int) + (j : Int) := by omega
      have hqn : ((k : Int) + (j : Int)).toNat = k + j := by omega
      generalize lastOf c ((s.drop k).take j) = b at *
      obtain ⟨q, hq⟩ : ∃ q : Int, ((k + j : Nat) : Int) = q := ⟨_, rfl⟩
      cases hd : (s[k + j] == c) with
      | true =>
        rw [hd] at hb
        simp [p0, p1, p7, p8, hlt, hlti, hw, hb, hq0, hqn]
        omega
      | false =>
        rw [hd] at hb
        simp [p0, p1, p7, p8, hlt, hlti, hw, hb, hq0, hqn])
    (fun pf h => by
      obtain ⟨p0, p1, p7, p8⟩ := h
      have hlti : ¬ (k : Int) + ((s.length - k : Nat) : Int) < (s.length : Int) := by omega
      have hke : k + (s.length - k) = s.length := by omega
      rw [hke] at p8 ⊢
      simp [p0, p1, p7, p8]) (s.length - k) 0 n _ r (by omega) hI (by simp [lastOf]) (by omega)
  obtain ⟨p0, p1, p7, p8⟩ := h
  rw [List.take_of_length_le (by rw [List.length_drop]; omega)] at p7
  simp [p7, lastFrom]

set_option maxHeartbeats 4000000 in
theorem cp94 [XX] (n : Nat) (name w : Str) (hs : w.length ≤ 1000000) (hn : w.length + 30 < n) : CP (F (n + 1)) 94 [.str name, .str w] (.str (partL name w)) := by
  refine F_cp (rs := [.str (partL name w)]) (S := []) rfl rfl ?_
  rw [F_fn rfl rfl Tryz.func94 rfl]
  have hle := atL_le w
  have h1 : callP (F n) (.f 136) [.str w, .int .u8 47, .int .i64 0] = some (.int .i64 (lastFrom 47 w 0)) := by
    obtain ⟨m, rfl⟩ : ∃ m, n = m + 1 := ⟨n - 1, by omega⟩
    exact cp136 m w 47 0 (by omega) hs (by omega)
  have h2 : callP (F n) (.f 136) [.str w, .int .u8 46, .int .i64 (atL w)] = some (.int .i64 (lastFrom 46 w (atL w))) := by
    obtain ⟨m, rfl⟩ : ∃ m, n = m + 1 := ⟨n - 1, by omega⟩
    exact cp136 m w 46 (atL w) hle hs (by omega)
  have e1 : lastFrom 47 w 0 = (atL w : Int) - 1 := by
    simp only [lastFrom, atL, List.drop_zero]
    cases lastOf 47 w with
    | none => rfl
    | some i => simp [intOf]
  rw [e1] at h1
  have hdl : ∀ d, lastOf 46 (w.drop (atL w)) = some d → d + atL w < w.length := by
    intro d hd
    have := lastOf_lt _ _ _ hd
    rw [List.length_drop] at this; omega
  have e2 : lastFrom 46 w (atL w) = intOf ((lastOf 46 (w.drop (atL w))).map (· + atL w)) := rfl
  rw [e2] at h2
  obtain ⟨q, hq⟩ : ∃ q : Int, (atL w : Int) - 1 = q := ⟨_, rfl⟩
  rw [hq] at h1
  have wq : IntKind.wrap .i64 (q + 1) = (atL w : Int) := by rw [wrap64 (by omega) (by omega)]; omega
  have hA : decide (q < 0) = decide (atL w = 0) := by
    have : q < 0 ↔ atL w = 0 := by omega
    simp only [this]
  have hA0 : ((0 : Int) ≤ (atL w : Int)) := by omega
  have hA1 : ((atL w : Int) ≤ (w.length : Int)) := by omega
  have hb : baseL w = match lastOf 46 (w.drop (atL w)) with
    | none => (w.take (atL w), w.drop (atL w), [])
    | some d => (w.take (atL w), (w.drop (atL w)).take d, (w.drop (atL w)).drop d) := rfl
  generalize atL w = a at *
  by_cases n1 : name = [100, 105, 114]
  · subst n1
    have hp : partL [100, 105, 114] w = if a = 0 then [46, 47] else w.take a := by
      have hb1 : (baseL w).1 = w.take a := by rw [hb]; split <;> rfl
      simp only [partL, if_true, hb1]
      by_cases ha : a = 0
      · subst ha; simp
      · have hlen : (w.take a).length = a := by rw [List.length_take]; omega
        have hne : w.take a ≠ [] := by intro e; rw [e] at hlen; exact ha hlen.symm
        rw [if_neg hne, if_neg ha]
    rw [hp]
    by_cases ha : a = 0
    · have hq0 : q < 0 := by omega
      rw [if_pos ha]
      simp [runFn, Tryz.f94, h1, h2, wq, hq0]
    · have hq0 : ¬ q < 0 := by omega
      rw [if_neg ha]
      simp [runFn, Tryz.f94, h1, h2, wq, hq0, hA0, hA1, hle]
  have n1' : (name == [100, 105, 114]) = false := by simpa using n1
  by_cases n2 : name = [110, 111, 116, 100, 105, 114]
  · subst n2
    have hp : partL [110, 111, 116, 100, 105, 114] w = w.drop a := by
      simp only [partL]
      rw [if_neg (by decide)]
      simp only [if_true]
      rw [hb]
      split
      · simp
      · exact List.take_append_drop _ _
    rw [hp]
    simp [runFn, Tryz.f94, h1, h2, wq, hA0, hA1, hle]
  have n2' : (name == [110, 111, 116, 100, 105, 114]) = false := by simpa using n2
  by_cases n3 : name = [115, 117, 102, 102, 105, 120]
  · subst n3
    have hp : partL [115, 117, 102, 102, 105, 120] w = (baseL w).2.2 := by
      simp only [partL]
      rw [if_neg (by decide), if_neg (by decide)]
      simp only [if_true]
    rw [hp, hb]
    cases hl : lastOf 46 (w.drop a) with
    | none =>
      rw [hl] at h2
      simp [runFn, Tryz.f94, h1, h2, wq, intOf]
    | some d =>
      rw [hl] at h2
      have hd := hdl d hl
      obtain ⟨v, hv⟩ : ∃ v : Int, (d : Int) + (a : Int) = v := ⟨_, rfl⟩
      have hvn : v.toNat = d + a := by omega
      have hv0 : (0 : Int) ≤ v := by omega
      have hv1 : v ≤ (w.length : Int) := by omega
      have hv2 : ¬ v < 0 := by omega
      have h2' : callP (F n) (.f 136) [.str w, .int .u8 46, .int .i64 a] = some (.int .i64 v) := by
        rw [h2, ← hv]; simp [intOf]
      have hdd : (w.drop a).drop d = w.drop (d + a) := by rw [List.drop_drop, Nat.add_comm]
      have hle2 : d + a ≤ w.length := by omega
      simp only [hdd]
      simp [runFn, Tryz.f94, h1, h2', wq, hvn, hv0, hv1, hv2, hle2]
  have n3' : (name == [115, 117, 102, 102, 105, 120]) = false := by simpa using n3
  have hp : partL name w = (baseL w).1 ++ (baseL w).2.1 := by
    simp only [partL]
    rw [if_neg n1, if_neg n2, if_neg n3]
  rw [hp, hb]
  cases hl : lastOf 46 (w.drop a) with
  | none =>
    rw [hl] at h2
    have ht : w.take a ++ w.drop a = w := List.take_append_drop _ _
    simp only [ht]
    simp [runFn, Tryz.f94, h1, h2, wq, intOf, n1', n2', n3']
  | some d =>
    rw [hl] at h2
    have hd := hdl d hl
    obtain ⟨v, hv⟩ : ∃ v : Int, (d : Int) + (a : Int) = v := ⟨_, rfl⟩
    have hvn : v.toNat = d + a := by omega
    have hv0 : (0 : Int) ≤ v := by omega
    have hv1 : v ≤ (w.length : Int) := by omega
    have hv2 : ¬ v < 0 := by omega
    have h2' : callP (F n) (.f 136) [.str w, .int .u8 46, .int .i64 a] = some (.int .i64 v) := by
      rw [h2, ← hv]; simp [intOf]
    have htt : w.take a ++ (w.drop a).take d = w.take (d + a) := by rw [Nat.add_comm, List.take_add]
    have hle2 : d + a ≤ w.length := by omega
    simp only [htt]
    simp [runFn, Tryz.f94, h1, h2', wq, hvn, hv0, hv1, hv2, hle2, n1', n2', n3']

end Go.Proofs.YtaignnlnmffiaaaGreatDoor.Ex

/- The document's own words, one by one. -/
namespace Go.Proofs.YtaignnlnmffiaaaGreatDoor.Ex
open Go
attribute [-simp] rgn rgnD exec_seq exec_cond exec_block

/-- What each word is turned to. -/
def eachX (name a b w : Str) : Str :=
  if name = [115, 116, 114, 105, 112] then w
  else if name = [112, 97, 116, 115, 117, 98, 115, 116] then substL a b w
  else if name = [102, 105, 108, 116, 101, 114] then (if anyL (wordsL a) w = true then w else [])
  else if name = [102, 105, 108, 116, 101, 114, 45, 111, 117, 116] then (if anyL (wordsL a) w = true then [] else w)
  else if name = [97, 100, 100, 115, 117, 102, 102, 105, 120] then w ++ a
  else if name = [97, 100, 100, 112, 114, 101, 102, 105, 120] then a ++ w
  else partL name w
def eachK (name a b w : Str) : List Str := if eachX name a b w != [] || name == [112, 97, 116, 115, 117, 98, 115, 116] then [eachX name a b w] else []
def eachL (name a b : Str) (l : List Str) : List Str := l.flatMap (eachK name a b)

theorem each_take (name a b : Str) (w : List Str) (i : Nat) (h : i < w.length) : eachL name a b (w.take (i + 1)) = eachL name a b (w.take i) ++ eachK name a b w[i] := by
  rw [eachL, List.take_succ_eq_append_getElem h, List.flatMap_append]; simp [eachL]
theorem each_len (name a b : Str) : ∀ l : List Str, (eachL name a b l).length ≤ l.length
  | [] => by simp [eachL]
  | x :: l => by
    have ih := each_len name a b l
    have h1 : (eachK name a b x).length ≤ 1 := by unfold eachK; split <;> simp
    simp only [eachL, List.flatMap_cons, List.length_append, List.length_cons] at ih ⊢
    omega

set_option maxHeartbeats 16000000 in
theorem cp55 [XX] (n : Nat) (name a b t : Str) (ha : a.length ≤ 1000) (hb : b.length ≤ 1000) (ht : t.length ≤ 1000) (hn : 2200000 < n) :
    CP (F (n + 1)) 55 [.str name, .str a, .str b, .str t] (.sl 1 ((eachL name a b (wordsL t)).map .str)) := by
  refine F_cp (rs := [.sl 1 ((eachL name a b (wordsL t)).map .str)]) (S := []) rfl (by simp [noBoxL, noBox]) ?_
  rw [F_fn rfl rfl Tryz.func55 rfl]
  obtain ⟨m, rfl⟩ : ∃ m, n = m + 1 := ⟨n - 1, by omega⟩
  have h53t := cp53 m t (by omega) (by omega)
  have h53a := cp53 m a (by omega) (by omega)
  have wlt := wordsL_len t
  have wla := wordsL_len a
  have wmt := wordsL_mem t
  have wma := wordsL_mem a
  have h92 : ∀ w ∈ wordsL t, callP (F (m + 1)) (.f 92) [.str a, .str b, .str w] = some (.str (substL a b w)) := fun w hw => cp92 m a b w (by omega) (by omega) (by have := wmt w hw; omega) (by have := wmt w hw; omega)
  have h93 : ∀ w ∈ wordsL t, callP (F (m + 1)) (.f 93) [.sl 1 ((wordsL a).map .str), .str w] = some (.bool (anyL (wordsL a) w)) := fun w hw => cp93 m (wordsL a) w (by omega) (fun p hp => by have := wma p hp; omega) (by have := wmt w hw; omega) (by omega)
  have h94 : ∀ w ∈ wordsL t, callP (F (m + 1)) (.f 94) [.str name, .str w] = some (.str (partL name w)) := fun w hw => cp94 m name w (by have := wmt w hw; omega) (by have := wmt w hw; omega)
  simp only [CP] at h53t h53a
  generalize m + 1 = n at *
  generalize wordsL t = w at *
  simp [runFn, Tryz.f55, h53t]
  generalize hI : iter _ _ _ = r
  obtain ⟨pf', rfl, h⟩ := iter_count 0 (fun i pf => pf 0 = .str name ∧ pf 1 = .str a ∧ pf 2 = .str b ∧ pf 9 = .sl 1 (w.map .str) ∧ pf 10 = .sl 1 ((eachL name a b (w.take i)).map .str) ∧ pf 11 = .int .i64 i) w.length
    (fun i pf hi h => by
      obtain ⟨p0, p1, p2, p9, p10, p11⟩ := h
      have hw := w64 (i := i) (by omega)
      rw [each_take name a b w i hi]
      have hel := each_len name a b (w.take i)
      rw [List.length_take] at hel
      generalize eachL name a b (w.take i) = o at *
      have hb1 : (o.length + 1) * 16 ≤ 140737488355328 := by omega
      have c92 := h92 w[i] (List.getElem_mem hi)
      have c93 := h93 w[i] (List.getElem_mem hi)
      have c94 := h94 w[i] (List.getElem_mem hi)
      have hwl := wmt w[i] (List.getElem_mem hi)
      have L1 : w[i].length + a.length ≤ 9223372036854775807 := by omega
      have L2 : a.length + w[i].length ≤ 9223372036854775807 := by omega
      by_cases n1 : name = [115, 116, 114, 105, 112]
      · subst n1
        have hK : eachK [115, 116, 114, 105, 112] a b w[i] = if w[i] != [] then [w[i]] else [] := by simp [eachK, eachX]
        rw [hK]
        cases hz : (w[i] == []) <;> simp [p0, p1, p2, p9, p10, p11, hi, hw, hb1, hz, bne]
      have n1' : (name == [115, 116, 114, 105, 112]) = false := by simpa using n1
      by_cases n2 : name = [112, 97, 116, 115, 117, 98, 115, 116]
      · subst n2
        have hK : eachK [112, 97, 116, 115, 117, 98, 115, 116] a b w[i] = [substL a b w[i]] := by simp [eachK, eachX]
        rw [hK]
        generalize substL a b w[i] = y at *
        cases hz : (y == []) <;> simp [p0, p1, p2, p9, p10, p11, hi, hw, hb1, c92, hz]
      have n2' : (name == [112, 97, 116, 115, 117, 98, 115, 116]) = false := by simpa using n2
      have hK : eachK name a b w[i] = if eachX name a b w[i] != [] then [eachX name a b w[i]] else [] := by simp [eachK, n2']
      rw [hK]
      by_cases n3 : name = [102, 105, 108, 116, 101, 114]
      · subst n3
        have hX : eachX [102, 105, 108, 116, 101, 114] a b w[i] = if anyL (wordsL a) w[i] = true then w[i] else [] := by simp [eachX]
        rw [hX]
        cases hany : anyL (wordsL a) w[i] with
        | true =>
          rw [hany] at c93
          cases hz : (w[i] == []) <;> simp [p0, p1, p2, p9, p10, p11, hi, hw, hb1, h53a, c93, hz, bne]
        | false =>
          rw [hany] at c93
          simp [p0, p1, p2, p9, p10, p11, hi, hw, hb1, h53a, c93]
      have n3' : (name == [102, 105, 108, 116, 101, 114]) = false := by simpa using n3
      by_cases n4 : name = [102, 105, 108, 116, 101, 114, 45, 111, 117, 116]
      · subst n4
        have hX : eachX [102, 105, 108, 116, 101, 114, 45, 111, 117, 116] a b w[i] = if anyL (wordsL a) w[i] = true then [] else w[i] := by simp [eachX]
        rw [hX]
        cases hany : anyL (wordsL a) w[i] with
        | true =>
          rw [hany] at c93
          simp [p0, p1, p2, p9, p10, p11, hi, hw, hb1, h53a, c93]
        | false =>
          rw [hany] at c93
          cases hz : (w[i] == []) <;> simp [p0, p1, p2, p9, p10, p11, hi, hw, hb1, h53a, c93, hz, bne]
      have n4' : (name == [102, 105, 108, 116, 101, 114, 45, 111, 117, 116]) = false := by simpa using n4
      by_cases n5 : name = [97, 100, 100, 115, 117, 102, 102, 105, 120]
      · subst n5
        have hX : eachX [97, 100, 100, 115, 117, 102, 102, 105, 120] a b w[i] = w[i] ++ a := by simp [eachX]
        rw [hX]
        cases hz : (w[i] ++ a == []) <;> simp [p0, p1, p2, p9, p10, p11, hi, hw, hb1, L1, hz, bne]
      have n5' : (name == [97, 100, 100, 115, 117, 102, 102, 105, 120]) = false := by simpa using n5
      by_cases n6 : name = [97, 100, 100, 112, 114, 101, 102, 105, 120]
      · subst n6
        have hX : eachX [97, 100, 100, 112, 114, 101, 102, 105, 120] a b w[i] = a ++ w[i] := by simp [eachX]
        rw [hX]
        cases hz : (a ++ w[i] == []) <;> simp [p0, p1, p2, p9, p10, p11, hi, hw, hb1, L2, hz, bne]
      have n6' : (name == [97, 100, 100, 112, 114, 101, 102, 105, 120]) = false := by simpa using n6
      have hX : eachX name a b w[i] = partL name w[i] := by simp [eachX, n1, n2, n3, n4, n5, n6]
      rw [hX]
      generalize partL name w[i] = y at *
      cases hz : (y == []) <;> simp [p0, p1, p2, p9, p10, p11, hi, hw, hb1, c94, n1', n2', n3', n4', n5', n6', hz, bne])
    (fun pf h => by
      obtain ⟨p0, p1, p2, p9, p10, p11⟩ := h
      simp [p0, p1, p2, p9, p10, p11]) w.length 0 n _ r (by omega) hI (by simp [eachL]) (by omega)
  obtain ⟨p0, p1, p2, p9, p10, p11⟩ := h
  rw [List.take_length] at p10
  simp [p10]

end Go.Proofs.YtaignnlnmffiaaaGreatDoor.Ex

/- The document's answers are those of the program. -/
namespace Go.Proofs.YtaignnlnmffiaaaGreatDoor.Ex
open Go
attribute [-simp] rgn rgnD exec_seq exec_cond exec_block

theorem eachK_strip {a b w : Str} (h : w ≠ []) : eachK [115, 116, 114, 105, 112] a b w = [w] := by simp [eachK, eachX, h]
theorem each_strip {a b : Str} : ∀ {l : List Str}, (∀ w ∈ l, w ≠ []) → eachL [115, 116, 114, 105, 112] a b l = l
  | [], _ => rfl
  | x :: l, h => by
    have ih := each_strip (a := a) (b := b) (l := l) (fun w hw => h w (by simp [hw]))
    simp only [eachL, List.flatMap_cons] at ih ⊢
    rw [ih, eachK_strip (h x (by simp))]; rfl
theorem each_keep {name a b : Str} {g : Str → Str × Bool} : ∀ {l : List Str}, (∀ w ∈ l, eachK name a b w = keepL g w) → eachL name a b l = l.flatMap (keepL g)
  | [], _ => rfl
  | x :: l, h => by
    have ih := each_keep (l := l) (fun w hw => h w (by simp [hw]))
    simp only [eachL, List.flatMap_cons] at ih ⊢
    rw [ih, h x (by simp)]
theorem someG_sub (a b : Nat) : ∀ (l : List Str) (i : Nat), List.Sublist (someG a b i l) l
  | [], _ => by simp [someG]
  | x :: r, i => by
    have ih := someG_sub a b r (i + 1)
    rw [someG]; split
    · exact ih.cons_cons x
    · exact ih.cons x

theorem bnd_keep {g : Str → Str × Bool} {t : Str} (ht : t.length ≤ 600) (h : ∀ w ∈ wordsL t, (g w).1.length ≤ w.length + 610) : sumLen ((wordsL t).flatMap (keepL g)) + ((wordsL t).flatMap (keepL g)).length ≤ 1000000 := by
  have h1 := keep_sum g 610 (wordsL t) h
  have h2 := wordsL_sum t
  have h3 := wordsL_len t
  have h4 : 610 * (wordsL t).length ≤ 610 * 601 := Nat.mul_le_mul (by omega) (by omega)
  omega
theorem bnd_sub {l : List Str} {t : Str} (ht : t.length ≤ 600) (h : List.Sublist l (wordsL t)) : sumLen l + l.length ≤ 1000000 := by
  have h1 := sumLen_sub h
  have h2 := wordsL_sum t
  omega

section
variable [XX] {n : Nat}
theorem r25 (hn : 2300000 < n) (l : List Str) (hb : sumLen l + l.length ≤ 1000000) : callP (F n) (.f 25) [.sl 1 (l.map .str)] = some (.str (joinL [32] l)) := by
  obtain ⟨m, rfl⟩ : ∃ m, n = m + 1 := ⟨n - 1, by omega⟩
  exact cp25 m l hb (by omega)
theorem r53 (hn : 2300000 < n) (t : Str) (h : t.length ≤ 1000) : callP (F n) (.f 53) [.str t] = some (.sl 1 ((wordsL t).map .str)) := by
  obtain ⟨m, rfl⟩ : ∃ m, n = m + 1 := ⟨n - 1, by omega⟩
  exact cp53 m t (by omega) (by omega)
theorem r54 (hn : 2300000 < n) (a b t : Str) (h1 : a.length ≤ 1000) (h2 : b.length ≤ 1000) (h3 : t.length ≤ 1000) : callP (F n) (.f 54) [.str a, .str b, .str t] = some (.str (if a = [] then t else repL a b t)) := by
  obtain ⟨m, rfl⟩ : ∃ m, n = m + 1 := ⟨n - 1, by omega⟩
  exact cp54 m a b t h1 h2 h3 (by omega)
theorem r55 (hn : 2300000 < n) (name a b t : Str) (h1 : a.length ≤ 1000) (h2 : b.length ≤ 1000) (h3 : t.length ≤ 1000) : callP (F n) (.f 55) [.str name, .str a, .str b, .str t] = some (.sl 1 ((eachL name a b (wordsL t)).map .str)) := by
  obtain ⟨m, rfl⟩ : ∃ m, n = m + 1 := ⟨n - 1, by omega⟩
  exact cp55 m name a b t h1 h2 h3 (by omega)
theorem r56 (hn : 2300000 < n) (a t : Str) (h1 : a.length ≤ 1000) (h3 : t.length ≤ 1000) : callP (F n) (.f 56) [.str a, .str t] = some (.bool (hasSub a t)) := by
  obtain ⟨m, rfl⟩ : ∃ m, n = m + 1 := ⟨n - 1, by omega⟩
  exact cp56 m a t (by omega) (by omega) (by omega)
theorem r57 (hn : 2300000 < n) (w : List Str) (h : w.length ≤ 10000) : callP (F n) (.f 57) [.sl 1 (w.map .str)] = some (.sl 1 ((sortU w).map .str)) := by
  obtain ⟨m, rfl⟩ : ∃ m, n = m + 1 := ⟨n - 1, by omega⟩
  exact cp57 m w (by omega) (by omega)
theorem r58 (hn : 2300000 < n) (s : Str) (least : Int) (h : s.length ≤ 1000) : callP (F n) (.f 58) [.str s, .int .i64 least] = some (.tup [.int .i64 (numberL s least).1, .bool (numberL s least).2]) := by
  obtain ⟨m, rfl⟩ : ∃ m, n = m + 1 := ⟨n - 1, by omega⟩
  exact cp58 m s least (by omega) (by omega)
theorem r59 (hn : 2300000 < n) (a b : Nat) (t : Str) (h : t.length ≤ 1000) : callP (F n) (.f 59) [.int .i64 a, .int .i64 b, .str t] = some (.sl 1 ((someG a b 0 (wordsL t)).map .str)) := by
  obtain ⟨m, rfl⟩ : ∃ m, n = m + 1 := ⟨n - 1, by omega⟩
  exact cp59 m a b t (by omega) (by omega)
theorem r60 (hn : 2300000 < n) (k : Nat) (h : k ≤ 10000) : callP (F n) (.f 60) [.int .i64 k] = some (.str (decL k)) := by
  obtain ⟨m, rfl⟩ : ∃ m, n = m + 1 := ⟨n - 1, by omega⟩
  exact cp60 m k (by omega) (by omega)
theorem r61 (hn : 2300000 < n) (s t : Str) (h1 : s.length ≤ 1000) (h2 : t.length ≤ 1000) : callP (F n) (.f 61) [.str s, .str t] = some (.sl 1 ((zipAdd (wordsL s) (wordsL t)).map .str)) := by
  obtain ⟨m, rfl⟩ : ∃ m, n = m + 1 := ⟨n - 1, by omega⟩
  exact cp61 m s t (by omega) (by omega) (by omega)

end

theorem wr0 : IntKind.wrap .i64 0 = 0 := wrap64 (by omega) (by omega)
theorem wr1 : IntKind.wrap .i64 1 = 1 := wrap64 (by omega) (by omega)
theorem wr2 : IntKind.wrap .i64 2 = 2 := wrap64 (by omega) (by omega)

theorem num_ok {s : Str} {least : Int} (h : (numberL s least).2 = true) : least ≤ ((numberL s least).1 : Int) := by
  simp only [numberL, Bool.and_eq_true, decide_eq_true_eq] at h ⊢
  exact h.2

set_option maxHeartbeats 4000000 in
theorem ans_strip [XX] (n : Nat) (hn : 2300000 < n) (t : Str) (ht : t.length ≤ 600) : ∃ y, CP (F (n + 1)) 29 [.str [115, 116, 114, 105, 112], .sl 1 [.str t]] (.tup [.str y, .bool (ansL [115, 116, 114, 105, 112] [t]).2]) ∧ ((ansL [115, 116, 114, 105, 112] [t]).2 = true → y = (ansL [115, 116, 114, 105, 112] [t]).1) := by
  have h53 := r53 hn t (by omega)
  have hne : ∀ w ∈ wordsL t, w ≠ [] := fun w hw => (okW_iff.1 (wordsL_okW t w hw)).1
  have h55 := r55 hn [115, 116, 114, 105, 112] t [] t (by omega) (by simp) (by omega)
  rw [each_strip hne] at h55
  have h25 := r25 hn (wordsL t) (bnd_sub ht (List.Sublist.refl _))
  have hans : ansL [115, 116, 114, 105, 112] [t] = (joinL [32] (wordsL t), true) := by simp [ansL, oneL]
  rw [hans]
  refine ⟨joinL [32] (wordsL t), F_cp (rs := [.str (joinL [32] (wordsL t)), .bool true]) (S := []) rfl rfl ?_, fun _ => rfl⟩
  rw [F_fn rfl rfl Tryz.func29 rfl]
  simp [runFn, Tryz.f29, wr0, wr1, wr2, h53, h55, h25]

set_option maxHeartbeats 4000000 in
theorem ans_sort [XX] (n : Nat) (hn : 2300000 < n) (t : Str) (ht : t.length ≤ 600) : ∃ y, CP (F (n + 1)) 29 [.str [115, 111, 114, 116], .sl 1 [.str t]] (.tup [.str y, .bool (ansL [115, 111, 114, 116] [t]).2]) ∧ ((ansL [115, 111, 114, 116] [t]).2 = true → y = (ansL [115, 111, 114, 116] [t]).1) := by
  have h53 := r53 hn t (by omega)
  have hl := wordsL_len t
  have h57 := r57 hn (wordsL t) (by omega)
  have h25 := r25 hn (sortU (wordsL t)) (by have := sortU_sum (wordsL t); have := wordsL_sum t; omega)
  have hans : ansL [115, 111, 114, 116] [t] = (joinL [32] (sortU (wordsL t)), true) := by simp [ansL, oneL]
  rw [hans]
  refine ⟨joinL [32] (sortU (wordsL t)), F_cp (rs := [.str (joinL [32] (sortU (wordsL t))), .bool true]) (S := []) rfl rfl ?_, fun _ => rfl⟩
  rw [F_fn rfl rfl Tryz.func29 rfl]
  simp [runFn, Tryz.f29, wr0, wr1, wr2, h53, h57, h25]

set_option maxHeartbeats 4000000 in
theorem ans_words [XX] (n : Nat) (hn : 2300000 < n) (t : Str) (ht : t.length ≤ 600) : ∃ y, CP (F (n + 1)) 29 [.str [119, 111, 114, 100, 115], .sl 1 [.str t]] (.tup [.str y, .bool (ansL [119, 111, 114, 100, 115] [t]).2]) ∧ ((ansL [119, 111, 114, 100, 115] [t]).2 = true → y = (ansL [119, 111, 114, 100, 115] [t]).1) := by
  have h53 := r53 hn t (by omega)
  have hl := wordsL_len t
  have h60 := r60 hn (wordsL t).length (by omega)
  have hans : ansL [119, 111, 114, 100, 115] [t] = (decL (wordsL t).length, true) := by simp [ansL, oneL]
  rw [hans]
  refine ⟨decL (wordsL t).length, F_cp (rs := [.str (decL (wordsL t).length), .bool true]) (S := []) rfl rfl ?_, fun _ => rfl⟩
  rw [F_fn rfl rfl Tryz.func29 rfl]
  simp [runFn, Tryz.f29, wr0, wr1, wr2, h53, h60]

set_option maxHeartbeats 4000000 in
theorem ans_firstword [XX] (n : Nat) (hn : 2300000 < n) (t : Str) (ht : t.length ≤ 600) : ∃ y, CP (F (n + 1)) 29 [.str [102, 105, 114, 115, 116, 119, 111, 114, 100], .sl 1 [.str t]] (.tup [.str y, .bool (ansL [102, 105, 114, 115, 116, 119, 111, 114, 100] [t]).2]) ∧ ((ansL [102, 105, 114, 115, 116, 119, 111, 114, 100] [t]).2 = true → y = (ansL [102, 105, 114, 115, 116, 119, 111, 114, 100] [t]).1) := by
  have h53 := r53 hn t (by omega)
  have h59 := r59 hn 1 1 t (by omega)
  have h59 : callP (F n) (.f 59) [.int .i64 1, .int .i64 1, .str t] = _ := h59
  have h25 := r25 hn (someG 1 1 0 (wordsL t)) (bnd_sub ht (someG_sub _ _ _ _))
  rw [some_span (wordsL t) 1 1 (.inl (Nat.le_refl _))] at h25
  have hans : ansL [102, 105, 114, 115, 116, 119, 111, 114, 100] [t] = (spanL (wordsL t) ((1 : Nat) : Int) ((1 : Nat) : Int), true) := by simp [ansL, oneL]
  rw [hans]
  refine ⟨spanL (wordsL t) ((1 : Nat) : Int) ((1 : Nat) : Int), F_cp (rs := [.str (spanL (wordsL t) ((1 : Nat) : Int) ((1 : Nat) : Int)), .bool true]) (S := []) rfl rfl ?_, fun _ => rfl⟩
  rw [F_fn rfl rfl Tryz.func29 rfl]
  simp [runFn, Tryz.f29, wr0, wr1, wr2, h53, h59, h25]

set_option maxHeartbeats 4000000 in
theorem ans_lastword [XX] (n : Nat) (hn : 2300000 < n) (t : Str) (ht : t.length ≤ 600) : ∃ y, CP (F (n + 1)) 29 [.str [108, 97, 115, 116, 119, 111, 114, 100], .sl 1 [.str t]] (.tup [.str y, .bool (ansL [108, 97, 115, 116, 119, 111, 114, 100] [t]).2]) ∧ ((ansL [108, 97, 115, 116, 119, 111, 114, 100] [t]).2 = true → y = (ansL [108, 97, 115, 116, 119, 111, 114, 100] [t]).1) := by
  have h53 := r53 hn t (by omega)
  have h59 := r59 hn (wordsL t).length (wordsL t).length t (by omega)
  have h25 := r25 hn (someG (wordsL t).length (wordsL t).length 0 (wordsL t)) (bnd_sub ht (someG_sub _ _ _ _))
  rw [some_span (wordsL t) (wordsL t).length (wordsL t).length (by by_cases h : wordsL t = []; exact .inr h; exact .inl (List.length_pos_iff.2 h))] at h25
  have hans : ansL [108, 97, 115, 116, 119, 111, 114, 100] [t] = (spanL (wordsL t) (((wordsL t).length : Nat) : Int) (((wordsL t).length : Nat) : Int), true) := by simp [ansL, oneL]
  rw [hans]
  refine ⟨spanL (wordsL t) (((wordsL t).length : Nat) : Int) (((wordsL t).length : Nat) : Int), F_cp (rs := [.str (spanL (wordsL t) (((wordsL t).length : Nat) : Int) (((wordsL t).length : Nat) : Int)), .bool true]) (S := []) rfl rfl ?_, fun _ => rfl⟩
  rw [F_fn rfl rfl Tryz.func29 rfl]
  simp [runFn, Tryz.f29, wr0, wr1, wr2, h53, h59, h25]

set_option maxHeartbeats 4000000 in
theorem ans_dir [XX] (n : Nat) (hn : 2300000 < n) (t : Str) (ht : t.length ≤ 600) : ∃ y, CP (F (n + 1)) 29 [.str [100, 105, 114], .sl 1 [.str t]] (.tup [.str y, .bool (ansL [100, 105, 114] [t]).2]) ∧ ((ansL [100, 105, 114] [t]).2 = true → y = (ansL [100, 105, 114] [t]).1) := by
  have h53 := r53 hn t (by omega)
  have hne : ∀ w ∈ wordsL t, w ≠ [] := fun w hw => (okW_iff.1 (wordsL_okW t w hw)).1
  have h55 := r55 hn [100, 105, 114] t [] t (by omega) (by simp) (by omega)
  rw [each_keep (g := gPart [100, 105, 114]) (fun w hw => by simp [eachK, eachX, keepL, gPart])] at h55
  have h25 := r25 hn ((wordsL t).flatMap (keepL (gPart [100, 105, 114]))) (bnd_keep ht fun w hw => by have h1 := partL_len [100, 105, 114] w; have h2 := wordsL_mem t w hw; show (partL [100, 105, 114] w).length ≤ _; omega)
  have hans : ansL [100, 105, 114] [t] = (joinL [32] ((wordsL t).flatMap (keepL (gPart [100, 105, 114]))), true) := by simp [ansL, oneL, told_eq]
  rw [hans]
  refine ⟨joinL [32] ((wordsL t).flatMap (keepL (gPart [100, 105, 114]))), F_cp (rs := [.str (joinL [32] ((wordsL t).flatMap (keepL (gPart [100, 105, 114])))), .bool true]) (S := []) rfl rfl ?_, fun _ => rfl⟩
  rw [F_fn rfl rfl Tryz.func29 rfl]
  simp [runFn, Tryz.f29, wr0, wr1, wr2, h53, h55, h25]

set_option maxHeartbeats 4000000 in
theorem ans_notdir [XX] (n : Nat) (hn : 2300000 < n) (t : Str) (ht : t.length ≤ 600) : ∃ y, CP (F (n + 1)) 29 [.str [110, 111, 116, 100, 105, 114], .sl 1 [.str t]] (.tup [.str y, .bool (ansL [110, 111, 116, 100, 105, 114] [t]).2]) ∧ ((ansL [110, 111, 116, 100, 105, 114] [t]).2 = true → y = (ansL [110, 111, 116, 100, 105, 114] [t]).1) := by
  have h53 := r53 hn t (by omega)
  have hne : ∀ w ∈ wordsL t, w ≠ [] := fun w hw => (okW_iff.1 (wordsL_okW t w hw)).1
  have h55 := r55 hn [110, 111, 116, 100, 105, 114] t [] t (by omega) (by simp) (by omega)
  rw [each_keep (g := gPart [110, 111, 116, 100, 105, 114]) (fun w hw => by simp [eachK, eachX, keepL, gPart])] at h55
  have h25 := r25 hn ((wordsL t).flatMap (keepL (gPart [110, 111, 116, 100, 105, 114]))) (bnd_keep ht fun w hw => by have h1 := partL_len [110, 111, 116, 100, 105, 114] w; have h2 := wordsL_mem t w hw; show (partL [110, 111, 116, 100, 105, 114] w).length ≤ _; omega)
  have hans : ansL [110, 111, 116, 100, 105, 114] [t] = (joinL [32] ((wordsL t).flatMap (keepL (gPart [110, 111, 116, 100, 105, 114]))), true) := by simp [ansL, oneL, told_eq]
  rw [hans]
  refine ⟨joinL [32] ((wordsL t).flatMap (keepL (gPart [110, 111, 116, 100, 105, 114]))), F_cp (rs := [.str (joinL [32] ((wordsL t).flatMap (keepL (gPart [110, 111, 116, 100, 105, 114])))), .bool true]) (S := []) rfl rfl ?_, fun _ => rfl⟩
  rw [F_fn rfl rfl Tryz.func29 rfl]
  simp [runFn, Tryz.f29, wr0, wr1, wr2, h53, h55, h25]

set_option maxHeartbeats 4000000 in
theorem ans_suffix [XX] (n : Nat) (hn : 2300000 < n) (t : Str) (ht : t.length ≤ 600) : ∃ y, CP (F (n + 1)) 29 [.str [115, 117, 102, 102, 105, 120], .sl 1 [.str t]] (.tup [.str y, .bool (ansL [115, 117, 102, 102, 105, 120] [t]).2]) ∧ ((ansL [115, 117, 102, 102, 105, 120] [t]).2 = true → y = (ansL [115, 117, 102, 102, 105, 120] [t]).1) := by
  have h53 := r53 hn t (by omega)
  have hne : ∀ w ∈ wordsL t, w ≠ [] := fun w hw => (okW_iff.1 (wordsL_okW t w hw)).1
  have h55 := r55 hn [115, 117, 102, 102, 105, 120] t [] t (by omega) (by simp) (by omega)
  rw [each_keep (g := gPart [115, 117, 102, 102, 105, 120]) (fun w hw => by simp [eachK, eachX, keepL, gPart])] at h55
  have h25 := r25 hn ((wordsL t).flatMap (keepL (gPart [115, 117, 102, 102, 105, 120]))) (bnd_keep ht fun w hw => by have h1 := partL_len [115, 117, 102, 102, 105, 120] w; have h2 := wordsL_mem t w hw; show (partL [115, 117, 102, 102, 105, 120] w).length ≤ _; omega)
  have hans : ansL [115, 117, 102, 102, 105, 120] [t] = (joinL [32] ((wordsL t).flatMap (keepL (gPart [115, 117, 102, 102, 105, 120]))), true) := by simp [ansL, oneL, told_eq]
  rw [hans]
  refine ⟨joinL [32] ((wordsL t).flatMap (keepL (gPart [115, 117, 102, 102, 105, 120]))), F_cp (rs := [.str (joinL [32] ((wordsL t).flatMap (keepL (gPart [115, 117, 102, 102, 105, 120])))), .bool true]) (S := []) rfl rfl ?_, fun _ => rfl⟩
  rw [F_fn rfl rfl Tryz.func29 rfl]
  simp [runFn, Tryz.f29, wr0, wr1, wr2, h53, h55, h25]

set_option maxHeartbeats 4000000 in
theorem ans_basename [XX] (n : Nat) (hn : 2300000 < n) (t : Str) (ht : t.length ≤ 600) : ∃ y, CP (F (n + 1)) 29 [.str [98, 97, 115, 101, 110, 97, 109, 101], .sl 1 [.str t]] (.tup [.str y, .bool (ansL [98, 97, 115, 101, 110, 97, 109, 101] [t]).2]) ∧ ((ansL [98, 97, 115, 101, 110, 97, 109, 101] [t]).2 = true → y = (ansL [98, 97, 115, 101, 110, 97, 109, 101] [t]).1) := by
  have h53 := r53 hn t (by omega)
  have hne : ∀ w ∈ wordsL t, w ≠ [] := fun w hw => (okW_iff.1 (wordsL_okW t w hw)).1
  have h55 := r55 hn [98, 97, 115, 101, 110, 97, 109, 101] t [] t (by omega) (by simp) (by omega)
  rw [each_keep (g := gPart [98, 97, 115, 101, 110, 97, 109, 101]) (fun w hw => by simp [eachK, eachX, keepL, gPart])] at h55
  have h25 := r25 hn ((wordsL t).flatMap (keepL (gPart [98, 97, 115, 101, 110, 97, 109, 101]))) (bnd_keep ht fun w hw => by have h1 := partL_len [98, 97, 115, 101, 110, 97, 109, 101] w; have h2 := wordsL_mem t w hw; show (partL [98, 97, 115, 101, 110, 97, 109, 101] w).length ≤ _; omega)
  have hans : ansL [98, 97, 115, 101, 110, 97, 109, 101] [t] = (joinL [32] ((wordsL t).flatMap (keepL (gPart [98, 97, 115, 101, 110, 97, 109, 101]))), true) := by simp [ansL, oneL, told_eq]
  rw [hans]
  refine ⟨joinL [32] ((wordsL t).flatMap (keepL (gPart [98, 97, 115, 101, 110, 97, 109, 101]))), F_cp (rs := [.str (joinL [32] ((wordsL t).flatMap (keepL (gPart [98, 97, 115, 101, 110, 97, 109, 101])))), .bool true]) (S := []) rfl rfl ?_, fun _ => rfl⟩
  rw [F_fn rfl rfl Tryz.func29 rfl]
  simp [runFn, Tryz.f29, wr0, wr1, wr2, h53, h55, h25]

set_option maxHeartbeats 4000000 in
theorem ans_findstring [XX] (n : Nat) (hn : 2300000 < n) (a t : Str) (ha : a.length ≤ 600) (ht : t.length ≤ 600) : ∃ y, CP (F (n + 1)) 29 [.str [102, 105, 110, 100, 115, 116, 114, 105, 110, 103], .sl 1 [.str a, .str t]] (.tup [.str y, .bool (ansL [102, 105, 110, 100, 115, 116, 114, 105, 110, 103] [a, t]).2]) ∧ ((ansL [102, 105, 110, 100, 115, 116, 114, 105, 110, 103] [a, t]).2 = true → y = (ansL [102, 105, 110, 100, 115, 116, 114, 105, 110, 103] [a, t]).1) := by
  have h53 := r53 hn t (by omega)
  have h56 := r56 hn a t (by omega) (by omega)
  have hans : ansL [102, 105, 110, 100, 115, 116, 114, 105, 110, 103] [a, t] = (if hasSub a t = true then a else [], true) := by simp only [ansL, twoL, if_true]; split <;> rfl
  rw [hans]
  refine ⟨if hasSub a t = true then a else [], F_cp (rs := [.str (if hasSub a t = true then a else []), .bool true]) (S := []) rfl rfl ?_, fun _ => rfl⟩
  rw [F_fn rfl rfl Tryz.func29 rfl]
  cases hb : hasSub a t with
  | true => rw [hb] at h56; simp [runFn, Tryz.f29, wr0, wr1, wr2, h53, h56]
  | false =>
  rw [hb] at h56
  simp [runFn, Tryz.f29, wr0, wr1, wr2, h53, h56]

set_option maxHeartbeats 4000000 in
theorem ans_filter [XX] (n : Nat) (hn : 2300000 < n) (a t : Str) (ha : a.length ≤ 600) (ht : t.length ≤ 600) : ∃ y, CP (F (n + 1)) 29 [.str [102, 105, 108, 116, 101, 114], .sl 1 [.str a, .str t]] (.tup [.str y, .bool (ansL [102, 105, 108, 116, 101, 114] [a, t]).2]) ∧ ((ansL [102, 105, 108, 116, 101, 114] [a, t]).2 = true → y = (ansL [102, 105, 108, 116, 101, 114] [a, t]).1) := by
  have h53 := r53 hn t (by omega)
  have hne : ∀ w ∈ wordsL t, w ≠ [] := fun w hw => (okW_iff.1 (wordsL_okW t w hw)).1
  have h55 := r55 hn [102, 105, 108, 116, 101, 114] a [] t (by omega) (by simp) (by omega)
  rw [each_keep (g := gFil (wordsL a) true) (fun w hw => by cases h : anyL (wordsL a) w <;> simp [eachK, eachX, keepL, gFil, h, hne w hw])] at h55
  have h25 := r25 hn ((wordsL t).flatMap (keepL (gFil (wordsL a) true))) (bnd_keep ht fun w hw => by simp [gFil, gSuf, gPre] <;> omega)
  have hans : ansL [102, 105, 108, 116, 101, 114] [a, t] = (joinL [32] ((wordsL t).flatMap (keepL (gFil (wordsL a) true))), true) := by simp [ansL, twoL, told_eq]
  rw [hans]
  refine ⟨joinL [32] ((wordsL t).flatMap (keepL (gFil (wordsL a) true))), F_cp (rs := [.str (joinL [32] ((wordsL t).flatMap (keepL (gFil (wordsL a) true)))), .bool true]) (S := []) rfl rfl ?_, fun _ => rfl⟩
  rw [F_fn rfl rfl Tryz.func29 rfl]
  simp [runFn, Tryz.f29, wr0, wr1, wr2, h53, h55, h25]

set_option maxHeartbeats 4000000 in
theorem ans_filterout [XX] (n : Nat) (hn : 2300000 < n) (a t : Str) (ha : a.length ≤ 600) (ht : t.length ≤ 600) : ∃ y, CP (F (n + 1)) 29 [.str [102, 105, 108, 116, 101, 114, 45, 111, 117, 116], .sl 1 [.str a, .str t]] (.tup [.str y, .bool (ansL [102, 105, 108, 116, 101, 114, 45, 111, 117, 116] [a, t]).2]) ∧ ((ansL [102, 105, 108, 116, 101, 114, 45, 111, 117, 116] [a, t]).2 = true → y = (ansL [102, 105, 108, 116, 101, 114, 45, 111, 117, 116] [a, t]).1) := by
  have h53 := r53 hn t (by omega)
  have hne : ∀ w ∈ wordsL t, w ≠ [] := fun w hw => (okW_iff.1 (wordsL_okW t w hw)).1
  have h55 := r55 hn [102, 105, 108, 116, 101, 114, 45, 111, 117, 116] a [] t (by omega) (by simp) (by omega)
  rw [each_keep (g := gFil (wordsL a) false) (fun w hw => by cases h : anyL (wordsL a) w <;> simp [eachK, eachX, keepL, gFil, h, hne w hw])] at h55
  have h25 := r25 hn ((wordsL t).flatMap (keepL (gFil (wordsL a) false))) (bnd_keep ht fun w hw => by simp [gFil, gSuf, gPre] <;> omega)
  have hans : ansL [102, 105, 108, 116, 101, 114, 45, 111, 117, 116] [a, t] = (joinL [32] ((wordsL t).flatMap (keepL (gFil (wordsL a) false))), true) := by simp [ansL, twoL, told_eq]
  rw [hans]
  refine ⟨joinL [32] ((wordsL t).flatMap (keepL (gFil (wordsL a) false))), F_cp (rs := [.str (joinL [32] ((wordsL t).flatMap (keepL (gFil (wordsL a) false)))), .bool true]) (S := []) rfl rfl ?_, fun _ => rfl⟩
  rw [F_fn rfl rfl Tryz.func29 rfl]
  simp [runFn, Tryz.f29, wr0, wr1, wr2, h53, h55, h25]

set_option maxHeartbeats 4000000 in
theorem ans_word [XX] (n : Nat) (hn : 2300000 < n) (a t : Str) (ha : a.length ≤ 600) (ht : t.length ≤ 600) : ∃ y, CP (F (n + 1)) 29 [.str [119, 111, 114, 100], .sl 1 [.str a, .str t]] (.tup [.str y, .bool (ansL [119, 111, 114, 100] [a, t]).2]) ∧ ((ansL [119, 111, 114, 100] [a, t]).2 = true → y = (ansL [119, 111, 114, 100] [a, t]).1) := by
  have h53 := r53 hn t (by omega)
  have h58 := r58 hn a 1 (by omega)
  have h59 := r59 hn (numberL a 1).1 (numberL a 1).1 t (by omega)
  have h25 := r25 hn (someG (numberL a 1).1 (numberL a 1).1 0 (wordsL t)) (bnd_sub ht (someG_sub _ _ _ _))
  have hans : ansL [119, 111, 114, 100] [a, t] = (spanL (wordsL t) (numberL a 1).1 (numberL a 1).1, (numberL a 1).2) := by simp [ansL, twoL]
  have hok := num_ok (s := a) (least := 1)
  have hsp := fun h => some_span (wordsL t) (numberL a 1).1 (numberL a 1).1 (.inl h)
  rw [hans]
  generalize numberL a 1 = nb at *
  obtain ⟨k, ok⟩ := nb
  simp only at h58 h59 h25 hok hsp ⊢
  refine ⟨joinL [32] (someG k k 0 (wordsL t)), F_cp (rs := [.str (joinL [32] (someG k k 0 (wordsL t))), .bool ok]) (S := []) rfl rfl ?_, fun h => hsp (by have := hok h; omega)⟩
  rw [F_fn rfl rfl Tryz.func29 rfl]
  simp [runFn, Tryz.f29, wr0, wr1, wr2, h53, h58, h59, h25]

set_option maxHeartbeats 4000000 in
theorem ans_addsuffix [XX] (n : Nat) (hn : 2300000 < n) (a t : Str) (ha : a.length ≤ 600) (ht : t.length ≤ 600) : ∃ y, CP (F (n + 1)) 29 [.str [97, 100, 100, 115, 117, 102, 102, 105, 120], .sl 1 [.str a, .str t]] (.tup [.str y, .bool (ansL [97, 100, 100, 115, 117, 102, 102, 105, 120] [a, t]).2]) ∧ ((ansL [97, 100, 100, 115, 117, 102, 102, 105, 120] [a, t]).2 = true → y = (ansL [97, 100, 100, 115, 117, 102, 102, 105, 120] [a, t]).1) := by
  have h53 := r53 hn t (by omega)
  have hne : ∀ w ∈ wordsL t, w ≠ [] := fun w hw => (okW_iff.1 (wordsL_okW t w hw)).1
  have h55 := r55 hn [97, 100, 100, 115, 117, 102, 102, 105, 120] a [] t (by omega) (by simp) (by omega)
  rw [each_keep (g := gSuf a) (fun w hw => by simp [eachK, eachX, keepL, gSuf, hne w hw])] at h55
  have h25 := r25 hn ((wordsL t).flatMap (keepL (gSuf a))) (bnd_keep ht fun w hw => by simp [gFil, gSuf, gPre] <;> omega)
  have hans : ansL [97, 100, 100, 115, 117, 102, 102, 105, 120] [a, t] = (joinL [32] ((wordsL t).flatMap (keepL (gSuf a))), true) := by simp [ansL, twoL, told_eq]
  rw [hans]
  refine ⟨joinL [32] ((wordsL t).flatMap (keepL (gSuf a))), F_cp (rs := [.str (joinL [32] ((wordsL t).flatMap (keepL (gSuf a)))), .bool true]) (S := []) rfl rfl ?_, fun _ => rfl⟩
  rw [F_fn rfl rfl Tryz.func29 rfl]
  simp [runFn, Tryz.f29, wr0, wr1, wr2, h53, h55, h25]

set_option maxHeartbeats 4000000 in
theorem ans_addprefix [XX] (n : Nat) (hn : 2300000 < n) (a t : Str) (ha : a.length ≤ 600) (ht : t.length ≤ 600) : ∃ y, CP (F (n + 1)) 29 [.str [97, 100, 100, 112, 114, 101, 102, 105, 120], .sl 1 [.str a, .str t]] (.tup [.str y, .bool (ansL [97, 100, 100, 112, 114, 101, 102, 105, 120] [a, t]).2]) ∧ ((ansL [97, 100, 100, 112, 114, 101, 102, 105, 120] [a, t]).2 = true → y = (ansL [97, 100, 100, 112, 114, 101, 102, 105, 120] [a, t]).1) := by
  have h53 := r53 hn t (by omega)
  have hne : ∀ w ∈ wordsL t, w ≠ [] := fun w hw => (okW_iff.1 (wordsL_okW t w hw)).1
  have h55 := r55 hn [97, 100, 100, 112, 114, 101, 102, 105, 120] a [] t (by omega) (by simp) (by omega)
  rw [each_keep (g := gPre a) (fun w hw => by simp [eachK, eachX, keepL, gPre, hne w hw])] at h55
  have h25 := r25 hn ((wordsL t).flatMap (keepL (gPre a))) (bnd_keep ht fun w hw => by simp [gFil, gSuf, gPre] <;> omega)
  have hans : ansL [97, 100, 100, 112, 114, 101, 102, 105, 120] [a, t] = (joinL [32] ((wordsL t).flatMap (keepL (gPre a))), true) := by simp [ansL, twoL, told_eq]
  rw [hans]
  refine ⟨joinL [32] ((wordsL t).flatMap (keepL (gPre a))), F_cp (rs := [.str (joinL [32] ((wordsL t).flatMap (keepL (gPre a)))), .bool true]) (S := []) rfl rfl ?_, fun _ => rfl⟩
  rw [F_fn rfl rfl Tryz.func29 rfl]
  simp [runFn, Tryz.f29, wr0, wr1, wr2, h53, h55, h25]

set_option maxHeartbeats 4000000 in
theorem ans_join [XX] (n : Nat) (hn : 2300000 < n) (a t : Str) (ha : a.length ≤ 600) (ht : t.length ≤ 600) : ∃ y, CP (F (n + 1)) 29 [.str [106, 111, 105, 110], .sl 1 [.str a, .str t]] (.tup [.str y, .bool (ansL [106, 111, 105, 110] [a, t]).2]) ∧ ((ansL [106, 111, 105, 110] [a, t]).2 = true → y = (ansL [106, 111, 105, 110] [a, t]).1) := by
  have h53 := r53 hn t (by omega)
  have h61 := r61 hn a t (by omega) (by omega)
  have h25 := r25 hn (zipAdd (wordsL a) (wordsL t)) (by have h1 := zip_sum (wordsL a) (wordsL t); have := wordsL_sum a; have := wordsL_sum t; omega)
  have hans : ansL [106, 111, 105, 110] [a, t] = (joinL [32] (zipAdd (wordsL a) (wordsL t)), true) := by simp [ansL, twoL]
  rw [hans]
  refine ⟨joinL [32] (zipAdd (wordsL a) (wordsL t)), F_cp (rs := [.str (joinL [32] (zipAdd (wordsL a) (wordsL t))), .bool true]) (S := []) rfl rfl ?_, fun _ => rfl⟩
  rw [F_fn rfl rfl Tryz.func29 rfl]
  simp [runFn, Tryz.f29, wr0, wr1, wr2, h53, h61, h25]

set_option maxHeartbeats 4000000 in
theorem ans_subst [XX] (n : Nat) (hn : 2300000 < n) (a b t : Str) (ha : a.length ≤ 600) (hb : b.length ≤ 600) (ht : t.length ≤ 600) : ∃ y, CP (F (n + 1)) 29 [.str [115, 117, 98, 115, 116], .sl 1 [.str a, .str b, .str t]] (.tup [.str y, .bool (ansL [115, 117, 98, 115, 116] [a, b, t]).2]) ∧ ((ansL [115, 117, 98, 115, 116] [a, b, t]).2 = true → y = (ansL [115, 117, 98, 115, 116] [a, b, t]).1) := by
  have h53 := r53 hn t (by omega)
  have h54 := r54 hn a b t (by omega) (by omega) (by omega)
  have hans : ansL [115, 117, 98, 115, 116] [a, b, t] = (if a = [] then t else repL a b t, true) := by simp only [ansL, threeL, if_true]; split <;> rfl
  rw [hans]
  generalize (if a = [] then t else repL a b t) = y at *
  refine ⟨y, F_cp (rs := [.str (y), .bool true]) (S := []) rfl rfl ?_, fun _ => rfl⟩
  rw [F_fn rfl rfl Tryz.func29 rfl]
  simp [runFn, Tryz.f29, wr0, wr1, wr2, h53, h54]

set_option maxHeartbeats 4000000 in
theorem ans_patsubst [XX] (n : Nat) (hn : 2300000 < n) (a b t : Str) (ha : a.length ≤ 600) (hb : b.length ≤ 600) (ht : t.length ≤ 600) : ∃ y, CP (F (n + 1)) 29 [.str [112, 97, 116, 115, 117, 98, 115, 116], .sl 1 [.str a, .str b, .str t]] (.tup [.str y, .bool (ansL [112, 97, 116, 115, 117, 98, 115, 116] [a, b, t]).2]) ∧ ((ansL [112, 97, 116, 115, 117, 98, 115, 116] [a, b, t]).2 = true → y = (ansL [112, 97, 116, 115, 117, 98, 115, 116] [a, b, t]).1) := by
  have h53 := r53 hn t (by omega)
  have h55 := r55 hn [112, 97, 116, 115, 117, 98, 115, 116] a b t (by omega) (by omega) (by omega)
  rw [each_keep (g := gSub a b) (fun w hw => by simp [eachK, eachX, keepL, gSub])] at h55
  have h25 := r25 hn ((wordsL t).flatMap (keepL (gSub a b))) (bnd_keep ht fun w hw => by have := substL_len2 a b w; show (substL a b w).length ≤ _; omega)
  have hans : ansL [112, 97, 116, 115, 117, 98, 115, 116] [a, b, t] = (joinL [32] ((wordsL t).flatMap (keepL (gSub a b))), true) := by simp [ansL, threeL, told_eq]
  rw [hans]
  refine ⟨joinL [32] ((wordsL t).flatMap (keepL (gSub a b))), F_cp (rs := [.str (joinL [32] ((wordsL t).flatMap (keepL (gSub a b)))), .bool true]) (S := []) rfl rfl ?_, fun _ => rfl⟩
  rw [F_fn rfl rfl Tryz.func29 rfl]
  simp [runFn, Tryz.f29, wr0, wr1, wr2, h53, h55, h25]

set_option maxHeartbeats 4000000 in
theorem ans_wordlist [XX] (n : Nat) (hn : 2300000 < n) (a b t : Str) (ha : a.length ≤ 600) (hb : b.length ≤ 600) (ht : t.length ≤ 600) : ∃ y, CP (F (n + 1)) 29 [.str [119, 111, 114, 100, 108, 105, 115, 116], .sl 1 [.str a, .str b, .str t]] (.tup [.str y, .bool (ansL [119, 111, 114, 100, 108, 105, 115, 116] [a, b, t]).2]) ∧ ((ansL [119, 111, 114, 100, 108, 105, 115, 116] [a, b, t]).2 = true → y = (ansL [119, 111, 114, 100, 108, 105, 115, 116] [a, b, t]).1) := by
  have h53 := r53 hn t (by omega)
  have h58 := r58 hn a 1 (by omega)
  have h58b := r58 hn b 0 (by omega)
  have h59 := r59 hn (numberL a 1).1 (numberL b 0).1 t (by omega)
  have h25 := r25 hn (someG (numberL a 1).1 (numberL b 0).1 0 (wordsL t)) (bnd_sub ht (someG_sub _ _ _ _))
  have hans : ansL [119, 111, 114, 100, 108, 105, 115, 116] [a, b, t] = (spanL (wordsL t) (numberL a 1).1 (numberL b 0).1, (numberL a 1).2 && (numberL b 0).2) := by simp [ansL, threeL]
  have hok := num_ok (s := a) (least := 1)
  have hsp := fun h => some_span (wordsL t) (numberL a 1).1 (numberL b 0).1 (.inl h)
  rw [hans]
  generalize numberL a 1 = nb at *
  generalize numberL b 0 = nb2 at *
  obtain ⟨k, ok⟩ := nb
  obtain ⟨k2, ok2⟩ := nb2
  simp only at h58 h58b h59 h25 hok hsp ⊢
  refine ⟨joinL [32] (someG k k2 0 (wordsL t)), F_cp (rs := [.str (joinL [32] (someG k k2 0 (wordsL t))), .bool (ok && ok2)]) (S := []) rfl rfl ?_, fun h => hsp (by have := hok (by simp at h; exact h.1); omega)⟩
  rw [F_fn rfl rfl Tryz.func29 rfl]
  cases ok <;>
  simp [runFn, Tryz.f29, wr0, wr1, wr2, h53, h58, h58b, h59, h25]

end Go.Proofs.YtaignnlnmffiaaaGreatDoor.Ex

/- How many arguments a function has, its answer, or what is wrong: the document's and the program's are one. -/
namespace Go.Proofs.YtaignnlnmffiaaaGreatDoor.Ex
open Go
attribute [-simp] rgn rgnD exec_seq exec_cond exec_block

theorem cp29 [XX] (n : Nat) (hn : 2300000 < n) (name : Str) (args : List Str) (h0 : manyL name ≠ 0) (h1 : args.length = manyL name) (ha : ∀ a ∈ args, a.length ≤ 600) :
    ∃ y, CP (F (n + 1)) 29 [.str name, .sl 1 (args.map .str)] (.tup [.str y, .bool (ansL name args).2]) ∧ ((ansL name args).2 = true → y = (ansL name args).1) := by
  unfold manyL at h0 h1
  split at h1
  · rename_i h
    obtain ⟨t, rfl⟩ := List.length_eq_one_iff.1 h1
    have ht := ha t (by simp)
    have hm : name ∈ ones := by simpa using h
    simp only [ones, List.mem_cons, List.not_mem_nil, or_false] at hm
    rcases hm with rfl | rfl | rfl | rfl | rfl | rfl | rfl | rfl | rfl
    · exact ans_strip n hn t ht
    · exact ans_sort n hn t ht
    · exact ans_words n hn t ht
    · exact ans_firstword n hn t ht
    · exact ans_lastword n hn t ht
    · exact ans_dir n hn t ht
    · exact ans_notdir n hn t ht
    · exact ans_suffix n hn t ht
    · exact ans_basename n hn t ht
  split at h1
  · rename_i h
    obtain ⟨a, t, rfl⟩ : ∃ a t, args = [a, t] := by
      match args, h1 with
      | [a, t], _ => exact ⟨a, t, rfl⟩
    have hta := ha a (by simp)
    have ht := ha t (by simp)
    have hm : name ∈ twos := by simpa using h
    simp only [twos, List.mem_cons, List.not_mem_nil, or_false] at hm
    rcases hm with rfl | rfl | rfl | rfl | rfl | rfl | rfl
    · exact ans_findstring n hn a t hta ht
    · exact ans_filter n hn a t hta ht
    · exact ans_filterout n hn a t hta ht
    · exact ans_word n hn a t hta ht
    · exact ans_addsuffix n hn a t hta ht
    · exact ans_addprefix n hn a t hta ht
    · exact ans_join n hn a t hta ht
  split at h1
  · rename_i h
    obtain ⟨a, b, t, rfl⟩ : ∃ a b t, args = [a, b, t] := by
      match args, h1 with
      | [a, b, t], _ => exact ⟨a, b, t, rfl⟩
    have hta := ha a (by simp)
    have htb := ha b (by simp)
    have ht := ha t (by simp)
    have hm : name ∈ threes := by simpa using h
    simp only [threes, List.mem_cons, List.not_mem_nil, or_false] at hm
    rcases hm with rfl | rfl | rfl
    · exact ans_subst n hn a b t hta htb ht
    · exact ans_patsubst n hn a b t hta htb ht
    · exact ans_wordlist n hn a b t hta htb ht
  · rename_i g1 g2 g3
    rw [if_neg g1, if_neg g2, if_neg g3] at h0
    exact absurd rfl h0

set_option maxHeartbeats 4000000 in
theorem cp15 [XX] (n : Nat) (hn : 2400000 < n) (name : Str) (args : List Str) (ha : ∀ a ∈ args, a.length ≤ 600) (hl : args.length ≤ 6) :
    CP (F (n + 1)) 15 [.str name, .sl 1 (args.map .str)] (.tup [.str (callL name args).1, .int .i64 (callL name args).2]) := by
  refine F_cp (rs := [.str (callL name args).1, .int .i64 (callL name args).2]) (S := []) (by simp [noBoxL, noBox]) rfl ?_
  rw [F_fn rfl rfl Tryz.func15 rfl]
  obtain ⟨m, rfl⟩ : ∃ m, n = m + 1 := ⟨n - 1, by omega⟩
  have h17 := cp17 m name
  simp only [CP] at h17
  by_cases h0 : manyL name = 0
  · have e : callL name args = ([], 4) := by simp [callL, h0]
    rw [e]
    rw [h0] at h17
    generalize m + 1 = n at *
    simp [runFn, Tryz.f15, h17]
  have z0 : ((manyL name : Int) == 0) = false := by simpa using h0
  by_cases h1 : args.length = manyL name
  rotate_left
  · have e : callL name args = ([], 1) := by simp [callL, h0, h1]
    rw [e]
    have z1 : ((args.length : Int) != (manyL name : Int)) = true := by simpa using (by omega : ¬ (args.length : Int) = (manyL name : Int))
    generalize m + 1 = n at *
    generalize manyL name = k at *
    simp [runFn, Tryz.f15, h17, z0, z1]
  have z1 : ((args.length : Int) != (manyL name : Int)) = false := by simpa using (by omega : (args.length : Int) = (manyL name : Int))
  obtain ⟨y, h29, hy⟩ := cp29 m (by omega) name args h0 h1 ha
  simp only [CP] at h29
  have hfin := callL_fin h0 h1
  rw [hfin]
  generalize ansL name args = an at *
  obtain ⟨r, ok⟩ := an
  simp only at h29 hy ⊢
  generalize m + 1 = n at *
  generalize manyL name = k at *
  cases ok with
  | false =>
    have e : finL r false = ([], 1) := rfl
    rw [e]
    simp [runFn, Tryz.f15, h17, z0, z1, h29]
  | true =>
    have hyr := hy rfl
    subst hyr
    by_cases h4 : 4000 < y.length
    · have e : finL y true = ([], 3) := by simp [finL, h4]
      rw [e]
      have d : decide ((4000 : Int) < (y.length : Int)) = true := by simpa using (by omega : (4000 : Int) < (y.length : Int))
      simp [runFn, Tryz.f15, h17, z0, z1, h29, d]
    · have e : finL y true = (y, 0) := finL_ok (by omega)
      rw [e]
      have d : decide ((4000 : Int) < (y.length : Int)) = false := by simpa using (by omega : ¬ (4000 : Int) < (y.length : Int))
      simp [runFn, Tryz.f15, h17, z0, z1, h29, d]

def smallL (l : List Str) : Bool := decide (l.length ≤ 6) && l.all fun x => decide (x.length ≤ 600)

set_option maxHeartbeats 4000000 in
theorem cp13 [XX] (n : Nat) (hn : 100 < n) (l : List Str) : CP (F (n + 1)) 13 [.sl 1 (l.map .str)] (.bool (smallL l)) := by
  refine F_cp (rs := [.bool (smallL l)]) (S := []) (by simp [noBoxL, noBox]) rfl ?_
  rw [F_fn rfl rfl Tryz.func13 rfl]
  by_cases h6 : 6 < l.length
  · have e : smallL l = false := by simp [smallL]; omega
    rw [e]
    have d : decide ((6 : Int) < (l.length : Int)) = true := by simpa using (by omega : (6 : Int) < (l.length : Int))
    simp [runFn, Tryz.f13, d]
  have d : decide ((6 : Int) < (l.length : Int)) = false := by simpa using (by omega : ¬ (6 : Int) < (l.length : Int))
  have e : smallL l = l.all fun x => decide (x.length ≤ 600) := by simp [smallL]; omega
  rw [e]
  simp [runFn, Tryz.f13, d]
  generalize hI : iter _ _ _ = r
  obtain ⟨x, pf', rfl, hx⟩ := iter_gen (fun i : Nat => l.length - i) (fun i pf => pf 0 = .sl 1 (l.map .str) ∧ pf 3 = .int .i64 i ∧ i ≤ l.length ∧ (l.drop i).all (fun x => decide (x.length ≤ 600)) = l.all (fun x => decide (x.length ≤ 600)))
    (fun x pf => (x = .ret ∧ pf 2 = .bool false ∧ l.all (fun x => decide (x.length ≤ 600)) = false) ∨ (x = .ex 0 ∧ l.all (fun x => decide (x.length ≤ 600)) = true))
    (fun i pf h => by
      obtain ⟨p0, p3, hi, hinv⟩ := h
      by_cases hlt : i < l.length
      · have hd : l.drop i = l[i] :: l.drop (i + 1) := List.drop_eq_getElem_cons hlt
        rw [hd, List.all_cons] at hinv
        have hw := w64 (i := i) (by omega)
        by_cases hz : 600 < l[i].length
        · right
          have d1 : decide ((600 : Int) < (l[i].length : Int)) = true := by simpa using (by omega : (600 : Int) < (l[i].length : Int))
          have d2 : decide (l[i].length ≤ 600) = false := by simp; omega
          rw [d2, Bool.false_and] at hinv
          refine ⟨.ret, ?_⟩
          generalize l.all (fun x => decide (x.length ≤ 600)) = b at *
          simp [p0, p3, hlt, d1, ← hinv]
        · left
          have d1 : decide ((600 : Int) < (l[i].length : Int)) = false := by simpa using (by omega : ¬ (600 : Int) < (l[i].length : Int))
          have d2 : decide (l[i].length ≤ 600) = true := by simp; omega
          rw [d2, Bool.true_and] at hinv
          have hmeas : l.length - (i + 1) < l.length - i := by omega
          have hi1 : i + 1 ≤ l.length := hlt
          refine ⟨i + 1, ?_⟩
          rw [← hinv]
          simp [p0, p3, hlt, d1, hw, hmeas, hi1]
      · right
        have hz : l.drop i = [] := List.drop_of_length_le (by omega)
        rw [hz, List.all_nil] at hinv
        refine ⟨.ex 0, ?_⟩
        generalize l.all (fun x => decide (x.length ≤ 600)) = b at *
        simp [p0, p3, hlt, ← hinv]) n 0 _ r hI ⟨by simp, by simp, by omega, rfl⟩ (by omega)
  rcases hx with ⟨rfl, p2, hb⟩ | ⟨rfl, hb⟩
  · rw [hb]; simp [p2]
  · rw [hb]; simp

set_option maxHeartbeats 4000000 in
theorem law3 [XX] (hX : Full) (n : Nat) (hn : deep n) (name : Str) (l : List Str) : CP (F (n + 1)) 3 [.str name, .sl 1 (l.map .str)] (.bool true) := by
  have h12 := a12 hn hX
  have hdn : 3000000 ≤ n := hn
  have h13 : callP (F n) (.f 13) [.sl 1 (l.map .str)] = some (.bool (smallL l)) := by
    obtain ⟨m, rfl⟩ : ∃ m, n = m + 1 := ⟨n - 1, by omega⟩
    exact cp13 m (by omega) l
  refine F_cp (rs := [.bool true]) (S := []) (by simp [noBoxL, noBox]) rfl ?_
  rw [F_fn rfl rfl Tryz.func3 rfl]
  cases hs : smallL l with
  | false =>
    rw [hs] at h13
    simp [runFn, Tryz.f3, h12, h13]
  | true =>
    rw [hs] at h13
    by_cases h5 : 50 < name.length
    · have e : decide ((50 : Int) < (name.length : Int)) = true := by simpa using (by omega : (50 : Int) < (name.length : Int))
      simp [runFn, Tryz.f3, h12, h13, e]
    have e5 : decide ((50 : Int) < (name.length : Int)) = false := by simpa using (by omega : ¬ (50 : Int) < (name.length : Int))
    have hsm : l.length ≤ 6 ∧ ∀ a ∈ l, a.length ≤ 600 := by simpa [smallL] using hs
    have h14 := a14 hn hX name l (fun a ha => by have := hsm.2 a ha; omega)
    have h15 : callP (F n) (.f 15) [.str name, .sl 1 (l.map .str)] = some (.tup [.str (callL name l).1, .int .i64 (callL name l).2]) := by
      obtain ⟨m, rfl⟩ : ∃ m, n = m + 1 := ⟨n - 1, by omega⟩
      exact cp15 m (by omega) name l hsm.2 hsm.1
    have h16 := a16 hn name
    have h17 := a17 hn name
    generalize callL name l = ce at *
    generalize manyL name = k at *
    simp [runFn, Tryz.f3, h12, h13, e5, h14, h15, h16, h17]

end Go.Proofs.YtaignnlnmffiaaaGreatDoor.Ex

namespace Go.Proofs.YtaignnlnmffiaaaGreatDoor.callAnswers
open Go Go.RowKit Go.Shelf Go.ChangeShapes Go.WideShapes Go.ChangeAt Go.Proofs.YtaignnlnmffiaaaGreatDoor.Ex
open Go.ChangeMaps (open_string shut_string)

theorem cells9 : Tryz.prog.cellsOf 9 = 1 := by kernel_rfl
theorem laidOut0 : laidOutB Tryz.prog = true := by kernel_rfl
/-- A row of strings. -/
theorem vr_strs {W : World} {a : Addr} {len cap : Nat} {ss : List ByteArray} (hl : len ≤ cap) (hlen : ss.length = cap) (hcell : ∀ i, i < ss.length → W.cell? (a.add i) = some (.string (ss.getD i ByteArray.empty))) :
    VR (Mem W) [] (.slice (some a) len cap) (.sl 1 (((ss.take len).map fun s => s.data.toList).map .str)) := by
  have hxl : (((ss.take len).map fun s => s.data.toList).map AV.str).length = len := by simp; omega
  have hxe : ∀ i (h : i < (((ss.take len).map fun s => s.data.toList).map AV.str).length), ∃ hi : i < ss.length, (((ss.take len).map fun s => s.data.toList).map AV.str)[i] = .str (ss[i].data.toList) := by
    intro i h
    exact ⟨by omega, by simp⟩
  generalize ((ss.take len).map fun s => s.data.toList).map AV.str = xs at *
  refine VR.sl a len cap 1 xs (fun i _ => .string (ss.getD i ByteArray.empty)) hxl.symm hl ?_ ?_ ?_
  · intro i h
    obtain ⟨_, e⟩ := hxe i h
    rw [e]; rfl
  · intro i j h hj
    obtain ⟨hi, _⟩ := hxe i h
    have hj0 : i * 1 + j = i := by omega
    rw [hj0]
    exact ⟨hcell i hi, rfl⟩
  · intro i j h hj
    obtain ⟨hi, e⟩ := hxe i h
    generalize xs[i] = x at *
    subst e
    have hj0 : j = 0 := by
      have : j < 1 := hj
      omega
    subst hj0
    show VR (Mem W) [] (.string (ss.getD i ByteArray.empty)) (.str (ss[i].data.toList))
    have hd : ss.getD i ByteArray.empty = ss[i] := by simp [List.getD, List.getElem?_eq_getElem hi]
    rw [hd]
    exact vr_string _

theorem reads (os : Os) {H : Type} (enc : TypeId × Value → H) : ∃ places, DataW.whole enc Tryz.prog ((laidWorld os).forCall (fun _ _ => 0) ⟨#[], #[.string ⟨#[]⟩, .slice none 0 0], []⟩).memory Tryz.f3.params.toList Rows.callAnswersSpec.vars false (#[.string ⟨#[]⟩, .slice none 0 0] : Array Value).toList 8 = some ([.lit (.string []), .nil], [], places) :=
  ⟨[], by kernel_rfl⟩

set_option maxRecDepth 100000 in
set_option maxHeartbeats 2000000 in
theorem contract (H : Type) (enc : TypeId × Value → H) (W : World) (base : Nat) (args : Array Value) (ds gs : List (DataW H)) (before : List MemPlace)
    (hval : ∀ (j : Nat) t v, Tryz.f3.params[j]? = some t → args[j]? = some v → Value.okWide Tryz.prog W .any base t v)
    (hW : DataW.Whole enc Tryz.prog Tryz.f3.params.toList Rows.callAnswersSpec.vars false W args.toList ds gs before) (hL : laidMetH Tryz.prog Rows.callAnswersRow.laid W) (hsh : W.ShapedOpen Tryz.prog) :
    Calls Tryz.prog 3 args W fun e W' => ∃ v, e = .returned v ∧ Rows.callAnswersSpec.post enc Tryz.prog Tryz.f3 false true false false W args v W' := by
  have hG : Ex.Good W := good_of hL hsh
  have hW' := hW
  obtain ⟨p, q, hA0, hV, rfl, hfz, hnd⟩ := hW
  have hA : DataW.TrodAll enc Tryz.prog W 0 (fun _ => true) true Tryz.f3.params.toList args.toList ds p := hA0
  rw [Tryz.params3] at hA hval
  obtain ⟨v0, vs0, d0, ds0, p0, q0, hargs0, hds0, hp0, h0, r0⟩ := trodAll_cons hA
  obtain ⟨v1, vs1, d1, ds1, p1, q1, hargs1, hds1, hp1, h1, r1⟩ := trodAll_cons r0
  obtain ⟨hn1, hn2, hn3⟩ := trodAll_nil r1
  subst hn1 hn2 hn3
  subst hargs1 hds1 hp1
  subst hds0 hp0
  obtain rfl : args = #[v0, v1] := by cases args; simp_all
  obtain ⟨rfl, rfl⟩ := trodVars_none hV
  obtain ⟨s0, rfl, rfl, rfl, ws0⟩ := open_string Tryz.underlying9 (hval 0 9 v0 rfl rfl) h0
  obtain ⟨a0, len0, cap0, rfl⟩ := Go.WideShapes.okWide_slice Tryz.underlying22 (hval 1 22 _ rfl rfl)
  have hlt : ∀ x ∈ p1, x.block < W.heap.size := fun x hx => hA0.lt x (by simp [hx])
  have hkeep := h1
  obtain ⟨fuel, hf⟩ := h1
  have hvr : ∃ l : List Str, VR (Mem W) [] (.slice a0 len0 cap0) (.sl 1 (l.map .str)) := by
    rcases Go.ChangeShapes.open_strings Tryz.underlying22 Tryz.underlying9 cells9 hf with ⟨hcs, hx⟩ | ⟨ad, len', cap', ss, hcs, _, hl, hm, hlen, hx, hcell, hsz⟩
    · simp [Value.cells] at hcs
      obtain ⟨rfl, rfl, rfl⟩ := hcs
      exact ⟨[], .slnil 1⟩
    · simp [Value.cells] at hcs
      obtain ⟨rfl, rfl, rfl⟩ := hcs
      exact ⟨_, vr_strs hl (by simpa using hlen) hcell⟩
  obtain ⟨l, hvr⟩ := hvr
  clear hA0
  simp only [List.append_nil] at hW'
  obtain ⟨n, hn⟩ : ∃ n, deep n := deep_some
  have walk := law_calls hG (R := Mem W) (@law3 X1 full1 n hn s0.data.toList l) (Mem.stab W) (vrs_cons (vr_string s0) (vrs_one hvr))
  refine walk.mono fun e W' ⟨he, hbel⟩ => ?_
  subst he
  refine ⟨_, rfl, _, _, _, [], [] ++ (p1 ++ []), [], hW', ?_, ?_, ?_, hbel.frame _, fun h => by cases h⟩
  · exact trodAll_cons_mk (shut_bool Tryz.underlying4 _) trodAll_mk0
  · exact trodAll_cons_mk (shut_string Tryz.underlying9 ws0) (trodAll_cons_mk (Below.trod laidOut0 (by kernel_rfl) (of_decide_eq_true (by kernel_rfl)) hkeep hbel hlt) trodAll_mk0)
  · rfl

set_option maxRecDepth 100000 in
theorem lifted (os : Os) (started : os.Started) (H : Type) (enc : TypeId × Value → H) (F : Stop.Interp) :
    ReturnsInHanded {} Tryz.checked os 3 .any ((OpenSpec.ofChange Rows.callAnswersSpec).preRow enc Tryz.prog Tryz.f3 Rows.callAnswersRow.domain false Rows.callAnswersRow.laid) (((OpenSpec.ofChange Rows.callAnswersSpec).at F).post enc Tryz.prog Tryz.f3 false true false false) := by
  obtain ⟨places, hx⟩ := reads os enc
  refine returnsInHanded_of_row (C := Tryz.checked) (s := (OpenSpec.ofChange Rows.callAnswersSpec)) own0 started (by kernel_rfl) Tryz.func3
    (witness_row_atRef (enc := enc) (C := Tryz.checked) false (laidWorld os) #[.string ⟨#[]⟩, .slice none 0 0] rfl (by kernel_rfl) (by kernel_rfl) (by kernel_rfl)
      (OpenSpec.preRow_of_cond 8 hx (by kernel_rfl) (fun k hk => by cases hk) (by kernel_rfl) (laid_met os _))) ?_
  intro W base args ds gs before hval hW _ hcond _ hL hsh _
  exact contract H enc W base args ds gs before hval hW hL hsh

set_option maxRecDepth 100000 in
theorem said : Rows.CallAnswersSaid :=
  OpenClaim.holds_of_cond 3 Tryz.f3 rfl rfl rfl rfl rfl rfl rfl ⟨rfl, rfl, rfl, rfl, rfl⟩ rfl rfl rfl rfl rfl (by kernel_rfl) Tryz.func3 (by kernel_rfl)
    (of_decide_eq_true (by kernel_rfl)) (by unfold Func.isWrapper; first | (rw [if_pos (by decide +kernel)]; kernel_rfl) | (rw [if_neg (by decide +kernel)]; exact ⟨rfl, rfl⟩))
    (fun os started H enc _ F => by rw [OpenClaim.pre_eq_preRow]; exact lifted os started H enc F)

theorem plain (f : FuncId) (fn : Func) (hf : Tryz.pinned.checked.prog.funcNamed "cooperage/cooperagelaw10.CallAnswers" = some f) (hfn : Tryz.pinned.checked.prog.funcs[f]? = some fn) :
    true = Tryz.pinned.checked.prog.looks [] ∧ ∀ (j : Nat) t, fn.params[j]? = some t → Tryz.pinned.checked.prog.wantsStandIn t = false := by
  obtain rfl : f = 3 := Option.some.inj ((show Tryz.prog.funcNamed "cooperage/cooperagelaw10.CallAnswers" = some 3 by kernel_rfl).symm.trans hf) |>.symm
  obtain rfl : fn = Tryz.f3 := (Option.some.inj (Tryz.func3.symm.trans hfn)).symm
  refine ⟨by kernel_rfl, fun j t ht => ?_⟩
  rw [Tryz.params3] at ht
  have hm := Array.mem_of_getElem? ht
  simp at hm
  rcases hm with rfl | rfl
  · exact (show Tryz.prog.wantsStandIn 9 = false by kernel_rfl)
  · exact (show Tryz.prog.wantsStandIn 22 = false by kernel_rfl)

/-- The card. -/
theorem card : Rows.CallAnswersCardSaid :=
  Claim7.holds_tied_plain_at .later [] _ _ _ _ said (fun _ h => by cases h) (by kernel_rfl) (fun _ h => by cases h) callAnswers_row_tie rfl ⟨rfl, rfl⟩ (by kernel_rfl) rfl plain (by kernel_rfl)
end Go.Proofs.YtaignnlnmffiaaaGreatDoor.callAnswers
