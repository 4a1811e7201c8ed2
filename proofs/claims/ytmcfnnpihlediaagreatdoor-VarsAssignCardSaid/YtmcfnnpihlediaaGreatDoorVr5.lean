/- Part 5 of the proof: what is walked and what is not, the pure interpreter over the code and its soundness, plain laws. -/
import Derived.Test.YtmcfnnpihlediaaGreatDoorVr4
import Derived.Lib.Hide
import Derived.LoopTactic
import Derived.Handy
import Derived.Test.YtmcfnnpihlediaaGreatDoorCards
import Derived.Test.YtmcfnnpihlediaaGreatDoorTie
import Derived.OpenShut
import Derived.ProofKit
import Derived.ChangeMaps5
import Derived.Deep.DeepHandedRow
import Derived.Deep.DeepWitnessRowRef
import Derived.Lib.LaidTab
import Derived.Lib.LaidIn
import Derived.Stop.LaidErr
import Derived.Carry
import Derived.Deep.Strs
import Derived.Deep.Slices
set_option linter.unusedSimpArgs false
set_option linter.unusedVariables false
set_option linter.unusedSectionVars false

/- A variable is set: what the machine makes is what the plain word says. -/
namespace Go.Proofs.YtmcfnnpihlediaaGreatDoor.Ex
open Go Go.RowKit Go.Shelf

theorem varsOf_inv : ∀ {xs : List AV} {V : Vs}, varsOf xs = some V → xs = V.map varAV
  | [], V, h => by simp [varsOf] at h; subst h; rfl
  | x :: r, V, h => by
    unfold varsOf at h
    split at h
    · injection h with h; subst h; rename_i e; cases e
    · rename_i n t b r' e
      cases e
      simp only [Option.map_eq_some_iff] at h
      obtain ⟨V', hV, rfl⟩ := h
      rw [varsOf_inv hV]; rfl
    · cases h

def vcells (x : VL) : List Value := [.string ⟨x.1.toArray⟩, .string ⟨x.2.1.toArray⟩, .bool x.2.2]
def vrow (V : Vs) : List Value := V.flatMap vcells

theorem vrow_len : ∀ V : Vs, (vrow V).length = V.length * 3
  | [] => rfl
  | x :: r => by have := vrow_len r; simp only [vrow, List.flatMap_cons, List.length_append, List.length_cons] at this ⊢; rw [this]; simp [vcells]; omega
theorem vrow_cons (x : VL) (V : Vs) : vrow (x :: V) = vcells x ++ vrow V := rfl
theorem vrow_app (A B : Vs) : vrow (A ++ B) = vrow A ++ vrow B := List.flatMap_append
theorem vrow_take (V : Vs) (k : Nat) (hk : k ≤ V.length) : vrow (V.take k) = (vrow V).take (k * 3) := by
  have h : vrow V = vrow (V.take k) ++ vrow (V.drop k) := by rw [← vrow_app, List.take_append_drop]
  rw [h, List.take_left']
  rw [vrow_len, List.length_take]; omega
theorem vrow_drop (V : Vs) (k : Nat) (hk : k ≤ V.length) : vrow (V.drop k) = (vrow V).drop (k * 3) := by
  have h : vrow V = vrow (V.take k) ++ vrow (V.drop k) := by rw [← vrow_app, List.take_append_drop]
  rw [h, List.drop_left']
  rw [vrow_len, List.length_take]; omega
theorem vrow_one (V : Vs) : ∀ v ∈ vrow V, v.oneCell' = true := by
  intro v hv
  simp only [vrow, List.mem_flatMap, vcells, List.mem_cons, List.not_mem_nil, or_false] at hv
  obtain ⟨x, _, rfl | rfl | rfl⟩ := hv <;> rfl
theorem vrow_at : ∀ (V : Vs) (i j : Nat) (hi : i < V.length), j < 3 → (vrow V)[i * 3 + j]? = (vcells V[i])[j]?
  | [], i, j, hi, _ => by simp at hi
  | x :: r, 0, j, _, hj => by
    rw [vrow_cons, List.getElem?_append_left (by simp [vcells]; omega)]
    simp
  | x :: r, i + 1, j, hi, hj => by
    rw [vrow_cons, List.getElem?_append_right (by simp [vcells]; omega)]
    rw [show (i + 1) * 3 + j - (vcells x).length = i * 3 + j by simp [vcells]; omega, vrow_at r i j (by simpa using hi) hj]
    simp

theorem vrow_set (x : VL) (V : Vs) : vrow (setV x V) = (vrow V).take (lbV x.1 V * 3) ++ vcells x ++ (vrow V).drop ((lbV x.1 V + if fdV x.1 V then 1 else 0) * 3) := by
  have h1 := lbV_le x.1 V
  have h2 : lbV x.1 V + (if fdV x.1 V then 1 else 0) ≤ V.length := by
    cases hf : fdV x.1 V with
    | false => simpa using h1
    | true => have := fdV_lt x.1 V hf; simp; omega
  rw [setV_eq, vrow_app, vrow_app, vrow_take _ _ h1, vrow_drop _ _ h2]
  simp [vrow]

theorem set3 (a b c : Value) : ∀ (o : Nat) (l : List Value), o + 3 ≤ l.length → ((l.set o a).set (o + 1) b).set (o + 2) c = l.take o ++ [a, b, c] ++ l.drop (o + 3)
  | 0, l, h => by
    match l, h with
    | x :: y :: z :: r, _ => simp
  | o + 1, [], h => by simp at h
  | o + 1, x :: r, h => by
    have := set3 a b c o r (by simpa using h)
    simp only [List.set_cons_succ, List.take_succ_cons, List.drop_succ_cons, List.cons_append, this]

/-- What a row of variables is on the machine. -/
theorem row_cells {R : Reads} {w : World} (hs : Stab R w) {v : Value} {V : Vs} (hv : VR R [] v (rowAV V)) :
    ∃ A c, v = .slice A V.length c ∧ V.length ≤ c ∧ (∀ a, A = some a → ∀ j u, (vrow V)[j]? = some u → R (a.add j) u) ∧ (A = none → V = [] ∧ c = 0) := by
  obtain ⟨A, m, c, rfl, hm, hmc⟩ := hv.slice_inv
  obtain ⟨vals, f, hvl, hn, hc2, hone, hz, hat, hvr, hR, hnil⟩ := hv.list hs (by decide)
  have hm' : m = V.length := by rw [hm]; simp
  have hvals : vals = vrow V := by
    apply List.ext_getElem?
    intro k
    rcases Nat.lt_or_ge k (V.length * 3) with hk | hk
    · have hi : k / 3 < V.length := by omega
      have hi' : k / 3 < (V.map varAV).length := by simpa using hi
      have hj : k % 3 < 3 := Nat.mod_lt _ (by omega)
      have h1 := hat (k / 3) (k % 3) hi' hj
      have h2 := hvr (k / 3) (k % 3) hi' (by simp [varAV, AV.cells]; omega)
      have h3 := vrow_at V (k / 3) (k % 3) hi hj
      rw [Nat.div_add_mod' k 3] at h1 h3
      rw [h1, h3]
      have key : ∀ (x : VL) (j : Nat) (hj : j < 3) (hj' : j < (varAV x).cells.length) (u : Value), VR R [] u ((varAV x).cells[j]) → some u = (vcells x)[j]? := fun x j hj hj' u hu => by
        match j, hj with
        | 0, _ => simp only [varAV, AV.cells, List.getElem_cons_zero] at hu; rw [hu.str_inv]; rfl
        | 1, _ => simp only [varAV, AV.cells, List.getElem_cons_succ, List.getElem_cons_zero] at hu; rw [hu.str_inv]; rfl
        | 2, _ => simp only [varAV, AV.cells, List.getElem_cons_succ, List.getElem_cons_zero] at hu; rw [hu.bool_inv]; rfl
      simp only [List.getElem_map] at h2
      exact key _ _ hj (by simp [varAV, AV.cells]; omega) _ h2
    · rw [List.getElem?_eq_none (by omega), List.getElem?_eq_none (by rw [vrow_len]; omega)]
  subst hvals hm'
  exact ⟨A, c, rfl, hmc, hR, fun h => ⟨List.eq_nil_of_length_eq_zero (hnil h).1, (hnil h).2⟩⟩

theorem w3of_size (w : World) (v : Value) (s1 s2 : ByteArray) (b : Bool) : (w3of w v s1 s2 b).heap.size = w.heap.size + 3 := by
  simp [w3of]

theorem w3of_below (w : World) (v : Value) (s1 s2 : ByteArray) (b : Bool) : Below w.heap.size w (w3of w v s1 s2 b) :=
  (((Below.refl _ w).alloc (Nat.le_refl _) _).alloc (by simp) _).alloc (by simp; omega) _

theorem own3_of (w : World) (v : Value) (s1 s2 : ByteArray) (b : Bool) {wk : World} (h : Below (w.heap.size + 3) (w3of w v s1 s2 b) wk) : Own3 w v s1 s2 b (.slice none 0 0) wk := by
  have e0 : wk.heap[w.heap.size]? = some (.cells #[v] 25 (0, 0)) := by
    rw [h.block _ (by omega)]
    unfold w3of
    rw [heap_alloc_old _ _ (by simp; omega), heap_alloc_old _ _ (by simp)]
    exact heap_alloc_new w _
  have e1 : wk.heap[w.heap.size + 1]? = some (.cells #[.string s1, .string s2, .bool b] 36 (0, 0)) := by
    rw [h.block _ (by omega)]
    unfold w3of
    rw [heap_alloc_old _ _ (by simp)]
    have hsz : (w.alloc (.cells #[v] 25)).heap.size = w.heap.size + 1 := by simp
    rw [← hsz]
    exact heap_alloc_new _ _
  have e2 : wk.heap[w.heap.size + 1 + 1]? = some (.cells #[.slice none 0 0] 25 (0, 0)) := by
    rw [h.block _ (by omega)]
    unfold w3of
    have hsz : ((w.alloc (.cells #[v] 25)).alloc (.cells #[.string s1, .string s2, .bool b] 36)).heap.size = w.heap.size + 1 + 1 := by simp
    rw [← hsz]
    exact heap_alloc_new _ _
  refine ⟨?_, ?_, ?_, ?_, ?_, ?_⟩
  · rw [cells_of_block e0]; rfl
  · rw [cells_of_block e1]; rfl
  · rw [cells_of_block e1]; rfl
  · rw [cells_of_block e1]; rfl
  · rw [cells_of_block e2]; rfl
  · simp [World.frozen?, e2]

theorem resAV_len {P : Program} {S : Obs} {pf : PF} : ∀ {rs : List ResultVar} {xs : List AV}, resAV P S pf rs = some xs → xs.length = rs.length
  | [], xs, h => by simp [resAV] at h; subst h; rfl
  | r :: rs, xs, h => by
    cases r with
    | tmp t =>
      simp only [resAV, Option.map_eq_some_iff] at h
      obtain ⟨ys, hy, rfl⟩ := h
      simp [resAV_len hy]
    | cell a t =>
      simp only [resAV] at h
      split at h
      · simp only [Option.map_eq_some_iff] at h
        obtain ⟨ys, hy, rfl⟩ := h
        simp [resAV_len hy]
      · cases h
theorem finFn_len {P : Program} {rs : List ResultVar} {c : Cfg} {xs : List AV} {S : Obs} (h : finFn P rs c = some (xs, S)) : xs.length = rs.length := by
  unfold finFn at h
  split at h
  · split at h
    · rename_i r h1
      injection h with h; injection h with e1 e2
      rw [← e1]; exact resAV_len h1
    · cases h
  · cases h
theorem runFn_len {P : Program} {own : FuncId → Bool} {call : CallT} {n : Nat} {fn : Func} {c : Code} {avs xs : List AV} {S S' : Obs} (h : runFn P own call n fn c avs S = some (xs, S')) (hnp : isPan xs = false) : xs.length = fn.results.toList.length := by
  unfold runFn at h
  split at h
  · split at h
    · exact finFn_len h
    · exact finFn_len h
    · split at h
      · injection h with h; injection h with h1 h2; subst h1; simp [isPan, isPan1] at hnp
      · cases h
    · cases h
  · cases h

/-- Where a name stands: the machine's call. -/
theorem place_calls {W w : World} (hW : Good W) (hb : Below W.heap.size W w) (V : Vs) (nm : Str) (ho : ordV V = true) (hl : V.length ≤ 1000000) {R : Reads} (hs : Stab R w) {v : Value} (hv : VR R [] v (rowAV V)) :
    Calls Tryz.prog 28 #[.agg #[v], .string ⟨nm.toArray⟩] w fun e w' => e = .returned (.tuple #[.int .i64 (lbV nm V), .bool (fdV nm V)]) ∧ Below w.heap.size w w' := by
  letI : XX := X0
  have h := v28 (V.length + 6) V nm ho hl (by omega)
  simp only [CP, callP] at h
  split at h
  case isFalse => cases h
  split at h
  case h_2 => cases h
  rename_i rs S hF
  split at h
  case isFalse => cases h
  rename_i hnr
  injection h with h
  have hlen : rs.length = 2 := by
    have hF' := hF
    rw [F_fn rfl rfl rfl Tryz.func28 rfl] at hF'
    exact runFn_len hF' (noPan_of hnr)
  have hva : VR R [] (.agg #[v]) (varsAV V) := .agg #[v] [rowAV V] rfl fun i h1 h2 => by
    have : i = 0 := by simpa using h1
    subst this; exact hv
  refine (calls_of (ext_0 hW) hb hs (vrs_cons hva (vrs_one (.str nm))) hF (noPan_of hnr)).mono fun e w' hp => ?_
  obtain ⟨vs, R', bl, rfl, hv', hst, hsr, ho⟩ := hp
  refine ⟨?_, stp_below hst⟩
  match rs, vs, hv', h with
  | [r1, r2], [u1, u2], hv', h =>
    have h1 := hv'.2 0 (by simp) (by simp)
    have h2 := hv'.2 1 (by simp) (by simp)
    simp only [packAV, AV.tup.injEq, List.cons.injEq, and_true] at h
    obtain ⟨rfl, rfl⟩ := h
    simp only [List.getElem_cons_zero, List.getElem_cons_succ] at h1 h2
    rw [h1.int_inv, h2.bool_inv]; rfl
  | [], vs, hv', h => cases h
  | [r], vs, hv', h => exact absurd hlen (by simp)
  | _ :: _ :: _ :: _, _, _, h => simp [packAV] at h
  | [_, _], [], hv', h => exact absurd hv'.1 (by simp)
  | [_, _], [_], hv', h => exact absurd hv'.1 (by simp)
  | [_, _], _ :: _ :: _ :: _, hv', h => exact absurd hv'.1 (by simp)

end Go.Proofs.YtmcfnnpihlediaaGreatDoor.Ex

/- Sorted words: one, of sort. -/
namespace Go.Proofs.YtmcfnnpihlediaaGreatDoor.Ex
open Go Go.RowKit Go.Shelf

def sortB : ByteArray := ⟨#[115, 111, 114, 116]⟩

theorem sort_below {W w1 : World} (h : Below W.heap.size W w1) {b : Nat} (hb : W.heap.size ≤ b) (n : Nat) (d : Array (List UInt8)) (os : Array Obj) :
    Below W.heap.size W (Sort.grow (Sort.putRow encStr (Sort.ahead w1 n) b 0 d) os) := by
  refine ⟨h.os, h.tape, h.output, ?_, fun k hk => ?_⟩
  · have := h.size; simp [Sort.grow, Sort.putRow, Sort.mapBlock, Sort.ahead]; omega
  · have h1 : k < (Sort.putRow encStr (Sort.ahead w1 n) b 0 d).heap.size := by have := h.size; simp [Sort.putRow, Sort.mapBlock, Sort.ahead]; omega
    rw [Sort.heap_grow_old _ _ h1]
    simp only [Sort.putRow, Sort.mapBlock, Sort.ahead, Array.getElem?_modify]
    rw [if_neg (by omega)]
    exact h.block k hk
theorem put_below {W w1 : World} (h : Below W.heap.size W w1) {b : Nat} (hb : W.heap.size ≤ b) (n : Nat) (d : Array (List UInt8)) :
    Below W.heap.size W (Sort.putRow encStr (Sort.ahead w1 n) b 0 d) := by
  have := sort_below h hb n d #[]
  simpa using this

/-- A row that holds texts: the sort's word for it. -/
theorem holds_own {w : World} {b c : Nat} {cur : Array Value} {e : TypeId} {l : List Str} (hb : w.heap[b]? = some (.cells cur e (0, 0))) (hc : ∀ (i : Nat) (hi : i < l.length), cur[i]? = some (.string ⟨l[i].toArray⟩)) :
    Sort.Holds encStr w b 0 l.toArray := by
  intro j hj
  have hj' : j < l.length := by simpa using hj
  rw [Nat.zero_add]
  refine ⟨?_, ?_⟩
  · rw [cells_of_block hb, hc j hj']
    simp [encStr, hj']
  · simp [World.frozen?, hb]

theorem insL_len (x : Str) : ∀ l : List Str, (insL' x l).length ≤ l.length + 1
  | [] => by simp [insL']
  | z :: r => by
    have := insL_len x r
    simp only [insL']
    split
    · simp
    · split
      · simp
      · simp; omega
theorem sortGo_len : ∀ (l acc : List Str), (l.foldl (fun acc x => insL' x acc) acc).length ≤ l.length + acc.length
  | [], acc => by simp
  | x :: r, acc => by
    have h1 := sortGo_len r (insL' x acc)
    have h2 := insL_len x acc
    simp at h1 ⊢; omega
theorem sortU_len (l : List Str) : (sortU l).length ≤ l.length := by
  have := sortGo_len l []; simpa [sortU] using this

/-- Sorted, each once: what the two calls make of a row. -/
theorem sorted_calls {W w : World} {v : Value} {l : List Str} (hl : l.length ≤ 1000000000) (hb : Below W.heap.size W w) (ho : OwnStrs W.heap.size w v l) :
    Calls Tryz.prog 133 #[v] w fun e w1 => e = .returned (.tuple #[]) ∧ Below W.heap.size W w1 ∧
      Calls Tryz.prog 134 #[v] w1 fun e w2 => ∃ v2, e = .returned v2 ∧ Below W.heap.size W w2 ∧
        ((sortU l = [] ∧ (v2 = .slice none 0 0 ∨ ∃ a c, v2 = .slice (some a) 0 c)) ∨ (sortU l ≠ [] ∧ ∃ b c, v2 = .slice (some ⟨b, 0, none⟩) (sortU l).length c ∧ (sortU l).length ≤ c ∧
          ∀ (i : Nat) (hi : i < (sortU l).length), w2.cell? ⟨b, i, none⟩ = some (.string ⟨(sortU l)[i].toArray⟩))) := by
  have none0 : ∀ p c, l = [] → v = .slice p 0 c → (v = .slice none 0 0 ∨ ∃ a c, v = .slice (some a) 0 c) → _ := fun p c hl0 hv hor =>
    (show Calls Tryz.prog 133 #[v] w fun e w1 => e = .returned (.tuple #[]) ∧ Below W.heap.size W w1 ∧
      Calls Tryz.prog 134 #[v] w1 fun e w2 => ∃ v2, e = .returned v2 ∧ Below W.heap.size W w2 ∧
        ((sortU l = [] ∧ (v2 = .slice none 0 0 ∨ ∃ a c, v2 = .slice (some a) 0 c)) ∨ (sortU l ≠ [] ∧ ∃ b c, v2 = .slice (some ⟨b, 0, none⟩) (sortU l).length c ∧ (sortU l).length ≤ c ∧
          ∀ (i : Nat) (hi : i < (sortU l).length), w2.cell? ⟨b, i, none⟩ = some (.string ⟨(sortU l)[i].toArray⟩))) from by
      subst hl0 hv
      refine (Tryz.slices_Sort_string_none p c w).mono fun e w1 ⟨h1, h2⟩ => ⟨h1, h2 ▸ hb, ?_⟩
      refine (Tryz.slices_Compact_string_empty p c w1).mono fun e w2 ⟨h3, h4⟩ => ⟨_, h3, by rw [h4, h2]; exact hb, .inl ⟨rfl, hor⟩⟩)
  rcases ho with ⟨hl0, hv0⟩ | ⟨b, c, cur, e, hv0, hbase, hlt, hblk, hc, hcm, hcs, hcell⟩
  · exact none0 none 0 hl0 hv0 (.inl hv0)
  by_cases hne : l = []
  · exact none0 (some ⟨b, 0, none⟩) c hne (by rw [hv0, hne]; rfl) (.inr ⟨_, c, by rw [hv0, hne]; rfl⟩)
  · subst hv0
    have hH := holds_own (c := c) hblk hcell
    refine (Tryz.slices_Sort_string b 0 c l w hH hlt (by omega)).mono fun e w1 ⟨h1, n, os, h2⟩ => ?_
    have hb1 : Below W.heap.size W w1 := h2 ▸ sort_below hb hbase n _ os
    refine ⟨h1, hb1, ?_⟩
    have hH0 : Sort.Holds encStr (Sort.ahead w n) b 0 l.toArray := hH
    have hH1 : Sort.Holds encStr w1 b 0 (l.mergeSort fun x y => decide (x ≤ y)).toArray := by
      rw [h2]
      refine Sort.holds_grow _ _ _ _ _ _ (by simpa [Sort.putRow, Sort.mapBlock, Sort.ahead] using hlt) ?_
      exact Sort.holds_putRow encStr _ b 0 l.toArray _ hH0 (by simp)
    have hlen : (l.mergeSort fun x y => decide (x ≤ y)).length = l.length := by simp
    have hc2 := Tryz.slices_Compact_string b 0 c (l.mergeSort fun x y => decide (x ≤ y)) w1 hH1 (by rw [hlen]; omega) (by rw [hlen]; exact hc)
    rw [hlen, lib_sorted] at hc2
    refine hc2.mono fun e w2 ⟨h3, q, h4⟩ => ?_
    have hsl : (sortU l).length ≤ l.length := by
      have := sortU_len l; exact this
    have hsn : sortU l ≠ [] := fun e => hne (by
      cases l with
      | nil => rfl
      | cons x r => have := (sortU_mem (x :: r) x).2 (by simp); rw [e] at this; cases this)
    refine ⟨_, h3, h4 ▸ put_below hb1 hbase q _, .inr ⟨hsn, b, c, rfl, by omega, fun i hi => ?_⟩⟩
    rw [h4]
    have h5 := Sort.cell?_putRow encStr (Sort.ahead w1 q) b 0 (l.mergeSort fun x y => decide (x ≤ y)).toArray (sortU l ++ List.replicate (l.length - (sortU l).length) []).toArray hH1 (by simp; omega) i (by simp; omega)
    rw [Nat.zero_add] at h5
    rw [h5]
    simp only [encStr, List.getElem!_toArray, List.getElem!_eq_getElem?_getD]
    rw [List.getElem?_append_left hi, List.getElem?_eq_getElem hi]
    rfl

theorem sort_room (t : Str) (ht : t.length ≤ 100000) : (joinL [32] (sortU (wordsL t))).length ≤ lim := by
  have := sort_len t; unfold lim; omega

set_option maxHeartbeats 1000000 in
theorem sort_walk (t r : ByteArray) (w : World) (P1 P2 P3 : Value → World → Prop) (P4 : World → Prop)
    (c19 : Calls Tryz.prog 110 #[.string t] w fun e w1 => ∃ v, e = .returned v ∧ P1 v w1)
    (c36 : ∀ v w1, P1 v w1 → Calls Tryz.prog 133 #[v] w1 fun e w2 => e = .returned (.tuple #[]) ∧ P2 v w2)
    (c37 : ∀ v w2, P2 v w2 → Calls Tryz.prog 134 #[v] w2 fun e w3 => ∃ v2, e = .returned v2 ∧ P3 v2 w3)
    (c21 : ∀ v2 w3, P3 v2 w3 → Calls Tryz.prog 111 #[v2] w3 fun e w4 => e = .returned (.string r) ∧ P4 w4) :
    Calls Tryz.prog 112 #[.string sortB, .string t] w fun e w' => e = .returned (.tuple #[.string r, .bool true]) ∧ P4 w' := by
  have e1 : (sortB.toList == [115, 116, 114, 105, 112]) = false := by rw [Lib.toList_data]; rfl
  have e2 : (sortB.toList == [115, 111, 114, 116]) = true := by rw [Lib.toList_data]; rfl
  go_enter Tryz.func112, Tryz.ntmps112
  go_wp2_with (first
    | (go_at_call 110; refine c19.mono ?_; rintro e w1 ⟨v, rfl, h1⟩)
    | (go_at_call 133; refine (c36 _ _ (by assumption)).mono ?_; rintro e w2 ⟨rfl, h2⟩)
    | (go_at_call 134; refine (c37 _ _ (by assumption)).mono ?_; rintro e w3 ⟨v2, rfl, h3⟩)
    | (go_at_call 111; refine (c21 _ _ (by assumption)).mono ?_; rintro e w4 ⟨rfl, h4⟩)
    | fail)
  go_ret2
  exact ⟨rfl, h4⟩

theorem one_sort {W w : World} (hW : Good W) (hP : Below W.heap.size W w) (t : Str) (ht : t.length ≤ 100000) :
    Calls Tryz.prog 112 #[.string sortB, .string ⟨t.toArray⟩] w fun e w' => e = .returned (.tuple #[.string ⟨(joinL [32] (sortU (wordsL t))).toArray⟩, .bool true]) ∧ Below w.heap.size w w' := by
  have hl := wordsL_len t
  refine sort_walk _ _ w (fun v w1 => Below w.heap.size w w1 ∧ OwnStrs w.heap.size w1 v (wordsL t))
    (fun v w2 => Below w.heap.size w w2 ∧ Calls Tryz.prog 134 #[v] w2 fun e w3 => ∃ v2, e = .returned v2 ∧ Below w.heap.size w w3 ∧
        ((sortU (wordsL t) = [] ∧ (v2 = .slice none 0 0 ∨ ∃ a c, v2 = .slice (some a) 0 c)) ∨ (sortU (wordsL t) ≠ [] ∧ ∃ b c, v2 = .slice (some ⟨b, 0, none⟩) (sortU (wordsL t)).length c ∧ (sortU (wordsL t)).length ≤ c ∧
          ∀ (i : Nat) (hi : i < (sortU (wordsL t)).length), w3.cell? ⟨b, i, none⟩ = some (.string ⟨(sortU (wordsL t))[i].toArray⟩))))
    (fun v2 w3 => Below w.heap.size w w3 ∧
        ((sortU (wordsL t) = [] ∧ (v2 = .slice none 0 0 ∨ ∃ a c, v2 = .slice (some a) 0 c)) ∨ (sortU (wordsL t) ≠ [] ∧ ∃ b c, v2 = .slice (some ⟨b, 0, none⟩) (sortU (wordsL t)).length c ∧ (sortU (wordsL t)).length ≤ c ∧
          ∀ (i : Nat) (hi : i < (sortU (wordsL t)).length), w3.cell? ⟨b, i, none⟩ = some (.string ⟨(sortU (wordsL t))[i].toArray⟩))))
    (fun w4 => Below w.heap.size w w4) ?_ ?_ ?_ ?_
  · exact (words_calls hW hP t (by omega)).mono fun e w1 ⟨v, h1, h2, h3⟩ => ⟨v, h1, h2, h3⟩
  · rintro v w1 ⟨h1, h2⟩
    exact (sorted_calls (W := w) (w := w1) (by omega) h1 h2).mono fun e w2 ⟨h3, h4, h5⟩ => ⟨h3, h4, h5⟩
  · rintro v w2 ⟨h1, h2⟩
    exact h2
  · rintro v2 w3 ⟨h1, h2⟩
    exact (join_calls hW (hP.trans (h1.mono hP.size)) _ (sort_room t ht) v2 h2).mono fun e w4 ⟨h3, h4⟩ => ⟨h3, h1.trans (h4.mono h1.size)⟩

/-- A function of one, whatever its name. -/
theorem ok26 {W : World} (hW : Good W) : FnOK Tryz.prog (GW W) own1 112 gOne := by
  refine ext_ok rfl fun R w args avs rs hP hs hargs hg => ?_
  unfold gOne at hg
  split at hg
  · rename_i name t
    split at hg
    · rename_i ht
      injection hg with hg; subst hg
      refine ⟨[.string ⟨(oneL name t).toArray⟩, .bool true], fun R' M => vrs_cons (.str _) (vrs_one (.bool _)), ?_⟩
      by_cases hn : name = [115, 111, 114, 116]
      · subst hn
        rw [hargs.str2]
        have := one_sort hW hP t ht
        exact this
      · letI : XX := X0
        have h := cp26 rfl (t.length + 1) t ht (by omega) name hn
        simp only [CP, callP] at h
        split at h
        case isFalse => cases h
        split at h
        case h_2 => cases h
        rename_i rs S hF
        split at h
        case isFalse => cases h
        rename_i hnr
        injection h with h
        have hlen : rs.length = 2 := by
          have hF' := hF
          rw [F_fn rfl rfl rfl Tryz.func112 rfl] at hF'
          exact runFn_len hF' (noPan_of hnr)
        refine (calls_of (ext_0 hW) hP hs hargs hF (noPan_of hnr)).mono fun e w' hp => ?_
        obtain ⟨vs, R', bl, rfl, hv', hst, hsr, ho⟩ := hp
        refine ⟨?_, stp_below hst⟩
        match rs, vs, hv', h with
        | [r1, r2], [u1, u2], hv', h =>
          have h1 := hv'.2 0 (by simp) (by simp)
          have h2 := hv'.2 1 (by simp) (by simp)
          simp only [packAV, AV.tup.injEq, List.cons.injEq, and_true] at h
          obtain ⟨rfl, rfl⟩ := h
          simp only [List.getElem_cons_zero, List.getElem_cons_succ] at h1 h2
          rw [h1.str_inv, h2.bool_inv]
        | [], vs, hv', h => cases h
        | [r], vs, hv', h => exact absurd hlen (by simp)
        | _ :: _ :: _ :: _, _, _, h => simp [packAV] at h
        | [_, _], [], hv', h => exact absurd hv'.1 (by simp)
        | [_, _], [_], hv', h => exact absurd hv'.1 (by simp)
        | [_, _], _ :: _ :: _ :: _, hv', h => exact absurd hv'.1 (by simp)
    · cases hg
  · cases hg
end Go.Proofs.YtmcfnnpihlediaaGreatDoor.Ex

/- Two lists put together word by word: joined. -/
namespace Go.Proofs.YtmcfnnpihlediaaGreatDoor.Ex
open Go Go.RowKit Go.Shelf

/-- What an append to a row may turn. -/
structure Grew (w : World) (v : Value) (w' : World) (v' : Value) : Prop where
  os : w'.os = w.os
  tape : w'.tape = w.tape
  output : w'.output = w.output
  size : w.heap.size ≤ w'.heap.size
  blk : ∀ k, k < w.heap.size → some k ≠ blockOf v → w'.heap[k]? = w.heap[k]?
  row : ∀ b, blockOf v' = some b → blockOf v = some b ∨ w.heap.size ≤ b

theorem app_run {w : World} {base : Nat} {v : Value} {l : List Str} {y : Str} {ad : Addr} {c : Nat} (hown : OwnStrs base w v l) (hbase : base ≤ w.heap.size) (hc1 : 1 ≤ c) (hc : w.cell? ad = some (.string ⟨y.toArray⟩)) (hab : blockOf v ≠ some ad.block)
    (hlen : l.length ≤ 1000000000) (d : Option Nat) (ty : TypeId) (p : String) (af : Array Edge) :
    ∃ v' w', (execOp (Act.eval ⟨#[v, .slice (some ad) 1 c], []⟩) ⟨d, .call { callee := .builtin .append, args := #[.tmp 0, .tmp 1], argTypes := #[98, 98] }, ty, p, af, none⟩).run Tryz.prog w = .ok (.value v') w' ∧
      OwnStrs base w' v' (l ++ [y]) ∧ Grew w v w' v' := by
  let R : Reads := fun a u => (∃ (i : Nat) (hi : i < l.length), (∃ b, blockOf v = some b ∧ a = ⟨b, i, none⟩) ∧ u = .string ⟨l[i].toArray⟩) ∨ (a = ad ∧ u = .string ⟨y.toArray⟩)
  have hs : Stab R w := by
    rintro a u (⟨i, hi, ⟨b, hb, rfl⟩, rfl⟩ | ⟨rfl, rfl⟩)
    · rcases hown with ⟨hl, hv⟩ | ⟨b', c', cur, e, rfl, h1, h2, h3, h4, h5, h6, h7⟩
      · rw [hl] at hi; simp at hi
      · injection hb with hb
        subst hb
        exact ⟨by rw [cells_of_block h3]; exact h7 i hi, rfl⟩
    · exact ⟨hc, rfl⟩
  have hv : VR R [] v (.sl 1 (l.map .str)) := by
    rcases hown with ⟨rfl, rfl⟩ | ⟨b', c', cur, e, rfl, h1, h2, h3, h4, h5, h6, h7⟩
    · exact .slnil 1
    · refine .sl _ _ _ _ _ (fun i _ => .string ⟨(l[i]?.getD []).toArray⟩) (by simp) h4 (by simp [AV.cells]) ?_ ?_
      · intro i j hi hj
        have hi' : i < l.length := by simpa using hi
        have : j = 0 := by omega
        subst this
        rw [add_plain, List.getElem?_eq_getElem hi', Nat.mul_one, Nat.add_zero]
        exact .inl ⟨i, hi', ⟨b', rfl, rfl⟩, rfl⟩
      · intro i j hi hj
        have hi' : i < l.length := by simpa using hi
        simp only [List.getElem_map, AV.cells, List.length_singleton] at hj ⊢
        have : j = 0 := by omega
        subst this
        rw [List.getElem?_eq_getElem hi']
        exact .str _
  have hx : VR R [] (.slice (some ad) 1 c) (.sl 1 [.str y]) := by
    refine .sl _ _ _ _ _ (fun _ _ => .string ⟨y.toArray⟩) rfl hc1 (by simp [AV.cells]) ?_ ?_
    · intro i j hi hj
      have h1 : i = 0 := by simpa using hi
      have h2 : j = 0 := by omega
      subst h1 h2
      exact .inr ⟨by simp [Addr.add], rfl⟩
    · intro i j hi hj
      have h1 : i = 0 := by simpa using hi
      subst h1
      simp only [List.getElem_cons_zero, AV.cells, List.length_singleton] at hj ⊢
      have : j = 0 := by omega
      subst this
      exact .str _
  have hO : OwnV R base w v 1 := by
    rcases hown with ⟨rfl, rfl⟩ | ⟨b', c', cur, e, rfl, h1, h2, h3, h4, h5, h6, h7⟩
    · exact .inl rfl
    · refine .inr ⟨b', _, c', cur, e, rfl, h1, h3, h4, h5, by omega, ?_⟩
      rintro a u (⟨i, hi, ⟨b, hb, rfl⟩, rfl⟩ | ⟨rfl, rfl⟩) hab'
      · simpa using hi
      · exact absurd (by rw [← hab']; rfl) hab
  let pf : PF := fun t => if t = 0 then .sl 1 (l.map .str) else if t = 1 then .sl 1 [.str y] else .undef
  have hf : FrR R [] (Act.tmps ⟨#[v, .slice (some ad) 1 c], []⟩) pf := by
    intro t
    match t with
    | 0 => exact hv
    | 1 => exact hx
    | t + 2 => exact .undef
  have hl2 : (l.length + 1) * 16 ≤ 140737488355328 := by omega
  have hev : evApp Tryz.prog [.tmp 0, .tmp 1] [98, 98] pf = some (.sl 1 (l.map .str ++ [.str y])) := by
    simp [evApp, pf, hl2]
  obtain ⟨v', w', R', sz, xs, hr, hst, hx', hv', hO', hb'⟩ := evApp_sound (o := ⟨d, .call { callee := .builtin .append, args := #[.tmp 0, .tmp 1], argTypes := #[98, 98] }, ty, p, af, none⟩) (a := ⟨#[v, .slice (some ad) 1 c], []⟩)
    (args := #[.tmp 0, .tmp 1]) (tys := #[98, 98]) (base := base) (s := .tmp 0) (y := .tmp 1) rfl rfl hf hs hbase hev (fun sz xs h => by
      simp only [opv, pf, if_true] at h
      injection h with h; injection h with h1 h2; subst h1
      exact hO)
  injection hx' with e1 e2
  subst e1 e2
  refine ⟨v', w', hr, ?_, hst.os, hst.tape, hst.output, hst.size, fun k hk hne => hst.blk k hk hne, hb'⟩
  refine ownStrs_of hst.stab (by simpa using hv') (hO'.mono_base (Nat.zero_le _)) fun b hb => ?_
  rcases hO' with rfl | ⟨b2, n2, c2, cur, e, rfl, h2, _⟩
  · cases hb
  · injection hb with hb; subst hb; exact h2

/-- The law at the operation. -/
theorem wpList_app {ops : Array Oper} {rest : List Oper} {a : Act} {Q : Exit → Act → World → Prop} {w : World} (d : Option Nat) (s x : Nat) (ty : TypeId) (p : String) (af : Array Edge) (base : Nat) (v : Value) (l : List Str) (y : Str) (ad : Addr) (c : Nat)
    (hs : a.eval (.tmp s) = v) (hx : a.eval (.tmp x) = .slice (some ad) 1 c) (hown : OwnStrs base w v l) (hbase : base ≤ w.heap.size) (hc1 : 1 ≤ c) (hc : w.cell? ad = some (.string ⟨y.toArray⟩)) (hab : blockOf v ≠ some ad.block) (hlen : l.length ≤ 1000000000)
    (h : ∀ v' w', OwnStrs base w' v' (l ++ [y]) → Grew w v w' v' → wpList Tryz.prog ops Q rest (a.put d v') w') :
    wpList Tryz.prog ops Q (⟨d, .call { callee := .builtin .append, args := #[.tmp s, .tmp x], argTypes := #[98, 98] }, ty, p, af, none⟩ :: rest) a w := by
  refine wpList_plain rfl fun K hK => ?_
  obtain ⟨v', w', hr, h1, h2⟩ := app_run hown hbase hc1 hc hab hlen d ty p af
  have e : (execOp a.eval ⟨d, .call { callee := .builtin .append, args := #[.tmp s, .tmp x], argTypes := #[98, 98] }, ty, p, af, none⟩) =
      (execOp (Act.eval ⟨#[v, .slice (some ad) 1 c], []⟩) ⟨d, .call { callee := .builtin .append, args := #[.tmp 0, .tmp 1], argTypes := #[98, 98] }, ty, p, af, none⟩) := by
    have e0 : Act.eval ⟨#[v, .slice (some ad) 1 c], []⟩ (.tmp 0) = v := rfl
    have e1 : Act.eval ⟨#[v, .slice (some ad) 1 c], []⟩ (.tmp 1) = .slice (some ad) 1 c := rfl
    simp only [execOp, resolve, List.map_toArray, List.map_cons, List.map_nil, hs, hx, e0, e1]
  unfold Oper.wp
  rw [e, hr]
  exact hK _ _ (h v' w' h1 h2)

end Go.Proofs.YtmcfnnpihlediaaGreatDoor.Ex

/- A variable is set: the contract. -/
namespace Go.Proofs.YtmcfnnpihlediaaGreatDoor.Ex
open Go Go.RowKit Go.Shelf

/-- The clone of a row of variables. -/
theorem clone_calls {A : Option Addr} {c : Nat} {V : Vs} {w : World} (hl : V.length ≤ 1000000) (hx : ∀ a, A = some a → ∀ j u, (vrow V)[j]? = some u → w.cell? (a.add j) = some u) (hn : A = none → V = [] ∧ c = 0) :
    Calls Tryz.prog 27 #[.slice A V.length c] w fun e w' => ∃ v', e = .returned v' ∧ w'.ownsRow w.heap.size 36 3 v' V.length (vrow V) ∧ Below w.heap.size w w' := by
  cases A with
  | none =>
    obtain ⟨rfl, rfl⟩ := hn rfl
    refine (clone_none w).mono fun e w' h => ⟨_, h.1, ?_, ?_⟩
    · exact World.ownsRow_nil _ _ _ _
    · rw [h.2]; exact Below.refl _ _
  | some a => exact clone_some a V.length c (vrow V) w (vrow_len V) (vrow_one V) hl (hx a rfl)

theorem ins_calls {v : Value} {n i : Nat} {xs : List Value} {vb base : Nat} {vs : List Value} {w : World} (hown : w.ownsRow base 36 3 v n xs) (hbase : base ≤ w.heap.size) (hi : i ≤ n) (hv : w.heap[vb]? = some (.cells vs.toArray 36 (0, 0)))
    (hne : v.ownBlock ≠ some vb) (hvl : vs.length = 3) (h1v : ∀ u ∈ vs, u.oneCell' = true) (h1x : ∀ u ∈ xs, u.oneCell' = true) (hn : n ≤ 1000000) :
    Calls Tryz.prog 29 #[v, .int .i64 i, .slice (some ⟨vb, 0, none⟩) 1 1] w fun e w' => ∃ v', e = .returned v' ∧ w'.ownsRow base 36 3 v' (n + 1) (xs.take (i * 3) ++ vs ++ xs.drop (i * 3)) ∧ Below base w w' := by
  have hxl := hown.1
  by_cases he : i = n
  · subst he
    rw [List.take_of_length_le (by omega), List.drop_eq_nil_of_le (by omega), List.append_nil]
    exact ins_end v i xs vb base vs w hown hbase (fun j u hj => by rw [cells_of_block hv]; simpa using hj) hvl h1v hn
  · have hlt : i < n := by omega
    rcases hown.2 with ⟨rfl, rfl⟩ | ⟨g, cap, cur, rfl, hb, hgh, hnc, hcm, hcs, htk⟩
    · omega
    · have hvb : vb ≠ g := fun e => hne (by rw [e]; rfl)
      by_cases hroom : n + 1 ≤ cap
      · refine (ins_shift g n cap i cur xs vb vs w hgh hxl hcm hcs htk hlt hroom hvb h1x hv hvl h1v hn).mono fun e w' h => ?_
        obtain ⟨cur', rfl, rfl, h1, h2⟩ := h
        refine ⟨_, rfl, ⟨?_, .inr ⟨g, cap, cur', rfl, hb, setRow_heap w.drew g cur _ 36 _ hgh, hroom, hcm, h1, h2⟩⟩, ⟨rfl, rfl, rfl, by simp, fun k hk => ?_⟩⟩
        · rw [← h2, List.length_take]; simp [h1]; omega
        · exact setRow_other w.drew _ _ _ (by omega)
      · have hcap : cap = n := by omega
        subst hcap
        refine (ins_grow g cap i xs vb vs w hxl (fun j u hj => by
            rw [cells_of_block hgh, ← Array.getElem?_toList]
            rw [← htk, List.getElem?_take] at hj
            split at hj
            · exact hj
            · cases hj) hlt h1x hv hvl h1v hn).mono fun e w' h => ?_
        obtain ⟨G, cur', rfl, h0, h1, h2, h3, h4, h5⟩ := h
        refine ⟨_, rfl, ⟨?_, .inr ⟨_, G, cur', rfl, hbase, h0, h3, h4, h1, h2⟩⟩, h5.mono hbase⟩
        rw [← h2, List.length_take]; simp [h1]; omega

theorem ownsRow_below {w w' : World} {base B : Nat} {v : Value} {n : Nat} {xs : List Value} (h : w.ownsRow base 36 3 v n xs) (hb : Below B w w') (hB : w.heap.size ≤ B) : w'.ownsRow base 36 3 v n xs := by
  refine ⟨h.1, ?_⟩
  rcases h.2 with hn | ⟨g, cap, cur, rfl, hb', hgg, rest⟩
  · exact .inl hn
  · exact .inr ⟨g, cap, cur, rfl, hb', by rw [hb.block g (by have := (Array.getElem?_eq_some_iff.1 hgg).1; omega)]; exact hgg, rest⟩

theorem ownsRow_put {w : World} {base base' : Nat} {v : Value} {n : Nat} {xs : List Value} (h : w.ownsRow base 36 3 v n xs) (hb : base' ≤ base) (a : Addr) (u : Value) (ha : a.block < base) : (w.setCell a u).ownsRow base' 36 3 v n xs := by
  refine ⟨h.1, ?_⟩
  rcases h.2 with hn | ⟨g, cap, cur, rfl, hb', hgg, rest⟩
  · exact .inl hn
  · exact .inr ⟨g, cap, cur, rfl, by omega, by rw [Below.heap_setCell _ _ _ _ (by omega)]; exact hgg, rest⟩

theorem below_setCell {B : Nat} (w : World) (a : Addr) (v : Value) (h : B ≤ a.block) : Below B w (w.setCell a v) := (Below.refl B w).setCell h v

theorem setV_len2 (x : VL) (V : Vs) : (setV x V).length = V.length + (if fdV x.1 V then 0 else 1) := by
  have h1 := lbV_le x.1 V
  have h2 := fdV_lt x.1 V
  rw [setV_eq]
  simp only [List.length_append, List.length_take, List.length_cons, List.length_nil, List.length_drop]
  cases hf : fdV x.1 V with
  | false => simp; omega
  | true => have := h2 hf; simp; omega

theorem set_calls {W w : World} (hW : Good W) (hb : Below W.heap.size W w) (V : Vs) (x : VL) (ho : ordV V = true) (hl : V.length ≤ 1000000) {R : Reads} (hs : Stab R w) {v : Value} (hv : VR R [] v (rowAV V)) :
    Calls Tryz.prog 19 #[.agg #[v], .agg #[.string ⟨x.1.toArray⟩, .string ⟨x.2.1.toArray⟩, .bool x.2.2]] w fun e w' => ∃ u, e = .returned u ∧ ∃ v', u = .agg #[v'] ∧ w'.ownsRow w.heap.size 36 3 v' (setV x V).length (vrow (setV x V)) ∧ Below w.heap.size w w' := by
  obtain ⟨A, c, rfl, hvc, hR, hnil⟩ := row_cells hs hv
  have hlb := lbV_le x.1 V
  have hw3 := w3of_below w (.slice A V.length c) ⟨x.1.toArray⟩ ⟨x.2.1.toArray⟩ x.2.2
  have hsz := w3of_size w (.slice A V.length c) ⟨x.1.toArray⟩ ⟨x.2.1.toArray⟩ x.2.2
  generalize hw1 : w3of w (.slice A V.length c) ⟨x.1.toArray⟩ ⟨x.2.1.toArray⟩ x.2.2 = w1 at hw3 hsz
  have hown3 : ∀ wk, Below w1.heap.size w1 wk → Own3 w (.slice A V.length c) ⟨x.1.toArray⟩ ⟨x.2.1.toArray⟩ x.2.2 (.slice none 0 0) wk := fun wk h => own3_of _ _ _ _ _ (by rw [hw1, ← hsz]; exact h)
  have hR1 : ∀ wk, Below w.heap.size w wk → Stab R wk := fun wk h a u hu => by
    have := hs a u hu
    exact ⟨by rw [cell_same (h.block _ (cell_lt this.1))]; exact this.1, this.2⟩
  have hcl := clone_calls (A := A) (c := c) (V := V) (w := w1) hl (fun a ha j u hj => (hR1 w1 hw3 _ _ (hR a ha j u hj)).1) hnil
  have hpl : ∀ wk, Below w1.heap.size w1 wk → Calls Tryz.prog 28 #[.agg #[.slice A V.length c], .string ⟨x.1.toArray⟩] wk fun e w' => e = .returned (.tuple #[.int .i64 (lbV x.1 V), .bool (fdV x.1 V)]) ∧ Below wk.heap.size wk w' := fun wk h => by
    have h2 : Below w.heap.size w wk := hw3.trans (h.mono (by omega))
    exact place_calls hW (hb.trans (h2.mono hb.size)) V x.1 ho hl (hR1 wk h2) hv
  have hvs := vrow_set x V
  have hsl := setV_len2 x V
  cases hf : fdV x.1 V with
  | false =>
    rw [hf] at hvs hsl hpl
    simp only [Bool.false_eq_true, if_false, Nat.add_zero] at hvs hsl
    refine set_new A V.length c ⟨x.1.toArray⟩ ⟨x.2.1.toArray⟩ x.2.2 w (lbV x.1 V) (fun u w' => ∃ v', u = .agg #[v'] ∧ w'.ownsRow w.heap.size 36 3 v' (setV x V).length (vrow (setV x V)) ∧ Below w.heap.size w w') ?_
    rw [hw1]
    refine hcl.mono fun e w2 h => ?_
    obtain ⟨v', rfl, hown, hb2⟩ := h
    refine ⟨v', rfl, hown3 w2 hb2, (hpl w2 hb2).mono fun e w3 h => ?_⟩
    obtain ⟨rfl, hb3⟩ := h
    have hb13 : Below w1.heap.size w1 w3 := hb2.trans (hb3.mono hb2.size)
    have hb4 : Below w3.heap.size w3 (w3.alloc (.cells #[.string ⟨x.1.toArray⟩, .string ⟨x.2.1.toArray⟩, .bool x.2.2] 36)) := (Below.refl _ w3).alloc (Nat.le_refl _) _
    refine ⟨rfl, hown3 w3 hb13, ?_⟩
    have hown4 := ownsRow_below (ownsRow_below hown hb3 (Nat.le_refl _)) hb4 (Nat.le_refl _)
    refine (ins_calls hown4 (by have := hb13.size; simp; omega) hlb (heap_alloc_new w3 _) (fun e => ?_) rfl (vrow_one [x]) (vrow_one V) hl).mono fun e w4 h => ?_
    · have := hown.lt _ e
      have := hb3.size
      omega
    · obtain ⟨v2, rfl, hown5, hb5⟩ := h
      have hb15 : Below w1.heap.size w1 w4 := hb13.trans ((hb4.mono hb13.size).trans hb5)
      obtain ⟨A2, m2, k2, rfl⟩ : ∃ A2 m2 k2, v2 = .slice A2 m2 k2 := by
        rcases hown5.2 with ⟨rfl, _⟩ | ⟨g, cap, cur, rfl, _⟩
        · exact ⟨_, _, _, rfl⟩
        · exact ⟨_, _, _, rfl⟩
      refine ⟨A2, m2, k2, rfl, hown3 w4 hb15, _, rfl, ?_, ?_⟩
      · rw [hsl, hvs]
        exact ownsRow_put hown5 (by omega) _ _ (by simp; omega)
      · exact hw3.trans ((hb15.mono (by omega)).trans (below_setCell _ _ _ (by simp; omega)))
  | true =>
    rw [hf] at hvs hsl hpl
    simp only [if_true, Nat.add_zero] at hvs hsl
    have hlt := fdV_lt x.1 V hf
    refine set_found A V.length c ⟨x.1.toArray⟩ ⟨x.2.1.toArray⟩ x.2.2 w (lbV x.1 V) V.length hlt hl (fun u w' => ∃ v', u = .agg #[v'] ∧ w'.ownsRow w.heap.size 36 3 v' (setV x V).length (vrow (setV x V)) ∧ Below w.heap.size w w') ?_
    rw [hw1]
    refine hcl.mono fun e w2 h => ?_
    obtain ⟨v', rfl, hown, hb2⟩ := h
    rcases hown.2 with ⟨_, h0⟩ | ⟨g, cap, cur, rfl, hgb, hgg, hnc, hcm, hcs, htk⟩
    · omega
    refine ⟨g, cap, rfl, hown3 w2 hb2, (hpl w2 hb2).mono fun e w3 h => ?_⟩
    obtain ⟨rfl, hb3⟩ := h
    have hb13 : Below w1.heap.size w1 w3 := hb2.trans (hb3.mono hb2.size)
    have hg3 : w3.heap[g]? = some (.cells cur 36 (0, 0)) := by rw [hb3.block g (Array.getElem?_eq_some_iff.1 hgg).1]; exact hgg
    obtain ⟨w4, hw4⟩ : ∃ w4, w4 = ((w3.setCell ⟨g, lbV x.1 V * 3, none⟩ (.string ⟨x.1.toArray⟩)).setCell ⟨g, lbV x.1 V * 3 + 1, none⟩ (.string ⟨x.2.1.toArray⟩)).setCell ⟨g, lbV x.1 V * 3 + 2, none⟩ (.bool x.2.2) := ⟨_, rfl⟩
    have hb4 : Below w1.heap.size w3 w4 := by
      rw [hw4]
      exact (((Below.refl _ w3).setCell hgb _).setCell hgb _).setCell hgb _
    have hg4 : w4.heap[g]? = some (.cells (((cur.setIfInBounds (lbV x.1 V * 3) (.string ⟨x.1.toArray⟩)).setIfInBounds (lbV x.1 V * 3 + 1) (.string ⟨x.2.1.toArray⟩)).setIfInBounds (lbV x.1 V * 3 + 2) (.bool x.2.2)) 36 (0, 0)) := by
      rw [hw4, setCell_eq_setRow w3 g _ cur 36 (0, 0) _ hg3]
      rw [setCell_eq_setRow _ g _ _ 36 (0, 0) _ (setRow_heap w3 g cur _ 36 _ hg3), setRow_setRow]
      rw [setCell_eq_setRow _ g _ _ 36 (0, 0) _ (setRow_heap w3 g cur _ 36 _ hg3), setRow_setRow]
      exact setRow_heap w3 g cur _ 36 _ hg3
    have hat : ∀ k, k < V.length * 3 → ∃ u, w3.cell? ⟨g, k, none⟩ = some u := fun k hk => by
      rw [cells_of_block hg3]
      exact ⟨_, Array.getElem?_eq_getElem (by rw [hcs]; omega)⟩
    obtain ⟨x0, e0⟩ := hat (lbV x.1 V * 3) (by omega)
    obtain ⟨x1, e1⟩ := hat (lbV x.1 V * 3 + 1) (by omega)
    obtain ⟨x2, e2⟩ := hat (lbV x.1 V * 3 + 2) (by omega)
    have hb14 : Below w1.heap.size w1 w4 := hb13.trans hb4
    refine ⟨rfl, hown3 w3 hb13, ⟨x0, x1, x2, e0, e1, e2, by simp [World.frozen?, hg3], by simp [World.frozen?, hg3], by simp [World.frozen?, hg3]⟩, ?_, ?_⟩
    · rw [← hw4]; exact hown3 w4 hb14
    · rw [← hw4]
      refine ⟨_, rfl, ?_, hw3.trans ((hb14.mono (by omega)).trans (below_setCell _ _ _ (by simp; omega)))⟩
      have hsl3 : (vrow V).length = V.length * 3 := vrow_len V
      have hown4 : w4.ownsRow w1.heap.size 36 3 (.slice (some ⟨g, 0, none⟩) V.length cap) V.length (vrow (setV x V)) := by
        refine ⟨by rw [vrow_len, hsl], .inr ⟨g, cap, _, rfl, hgb, hg4, hnc, hcm, by simp [hcs], ?_⟩⟩
        rw [hvs, show (lbV x.1 V + 1) * 3 = lbV x.1 V * 3 + 3 by omega]
        have h3 := set3 (.string ⟨x.1.toArray⟩) (.string ⟨x.2.1.toArray⟩) (.bool x.2.2) (lbV x.1 V * 3) (vrow V) (by omega)
        simp only [vcells]
        rw [← h3]
        simp only [Array.toList_setIfInBounds, List.take_set, htk]
      rw [hsl]
      exact ownsRow_put hown4 (by omega) _ _ (by simp; omega)

/-- A row of variables, new. -/
theorem vr_newrow {R : Reads} {w w' : World} (hs : Stab R w) {v : Value} {V : Vs} (hV : V ≠ []) (h : w'.ownsRow w.heap.size 36 3 v V.length (vrow V)) (hb : Below w.heap.size w w') :
    ∃ R', VR R' [] v (rowAV V) ∧ St R w R' w' none := by
  rcases h.2 with ⟨_, h0⟩ | ⟨g, cap, cur, rfl, hgb, hgg, hnc, hcm, hcs, htk⟩
  · exact absurd (List.eq_nil_of_length_eq_zero h0) hV
  refine ⟨addR R g 0 (vrow V), ?_, ⟨fun _ _ h => .inl h, fun a v hr => ?_, fun a v hr => ?_, hb.os, hb.tape, hb.output, hb.size, fun k hk _ => hb.block k hk⟩⟩
  · refine .sl _ _ _ _ _ (fun i j => ((vrow V)[i * 3 + j]?).getD Go.undef) (by simp) hnc (fun i hi => by simp [varAV, AV.cells]) ?_ ?_
    · intro i j hi hj
      have hi' : i < V.length := by simpa using hi
      rw [add_plain]
      refine .inr ⟨i * 3 + j, by simp, ?_⟩
      have hlt : i * 3 + j < (vrow V).length := by rw [vrow_len]; omega
      rw [List.getElem?_eq_getElem hlt]; rfl
    · intro i j hi hj
      have hi' : i < V.length := by simpa using hi
      have hj' : j < 3 := by simpa [varAV, AV.cells] using hj
      rw [vrow_at V i j hi' hj']
      have key : ∀ (x : VL) (j : Nat) (_ : j < 3) (hj : j < (varAV x).cells.length), VR (addR R g 0 (vrow V)) [] (((vcells x)[j]?).getD Go.undef) ((varAV x).cells[j]) := fun x j hj _ => by
        match j, hj with
        | 0, _ => exact .str _
        | 1, _ => exact .str _
        | 2, _ => exact .bool _
      simp only [List.getElem_map]
      exact key _ _ hj' (by simp [varAV, AV.cells]; omega)
  · rcases hr with hr | ⟨j, rfl, hj⟩
    · exact .inl hr
    · exact .inr (.inr hgb)
  · rcases hr with hr | ⟨j, rfl, hj⟩
    · have := hs a v hr
      exact ⟨by rw [cell_same (hb.block _ (cell_lt this.1))]; exact this.1, this.2⟩
    · refine ⟨?_, ?_⟩
      · rw [cells_of_block hgg, Nat.zero_add, ← Array.getElem?_toList]
        rw [← htk, List.getElem?_take] at hj
        split at hj
        · exact hj
        · cases hj
      · exact vrow_one V v (List.mem_of_getElem? hj)

theorem ok19 {W : World} (hW : Good W) : FnOK Tryz.prog (GW W) own1 19 gSet := by
  intro R w args avs rs hP hb hs hargs hg
  unfold gSet at hg
  split at hg
  case h_2 => cases hg
  rename_i xs n t b
  split at hg
  case h_2 => cases hg
  rename_i V hxs
  split at hg
  case isFalse => cases hg
  rename_i hc
  injection hg with hg; subst hg
  have hxs := varsOf_inv hxs
  subst hxs
  obtain ⟨v1, vs1, rfl, hv1, hvs1⟩ := hargs.cons_inv
  obtain ⟨v2, vs2, rfl, hv2, hvs2⟩ := hvs1.cons_inv
  rw [hvs2.nil_inv, hv2.agg3]
  obtain ⟨v, rfl, hv⟩ : ∃ v, v1 = .agg #[v] ∧ VR R [] v (rowAV V) := by
    cases hv1 with
    | agg cs _ hsz hall =>
      have h1 : cs.size = 1 := by simpa using hsz
      refine ⟨cs[0], ?_, hall 0 (by omega) (by simp)⟩
      congr 1
      apply Array.ext
      · simpa using h1
      · intro i h2 h3
        have : i = 0 := by omega
        subst this; rfl
  have hne : setV (n, t, b) V ≠ [] := fun e => by
    have h1 := setV_eq (n, t, b) V
    rw [e] at h1
    simp at h1
  refine (set_calls hW hP V (n, t, b) hc.1 hc.2 hs hv).mono fun e w' h => ?_
  obtain ⟨u, rfl, v', rfl, hown, hbl⟩ := h
  obtain ⟨R', hv', hst⟩ := vr_newrow hs hne hown hbl
  exact ⟨[.agg #[v']], R', rfl, vrs_one (.agg #[v'] [rowAV (setV (n, t, b) V)] rfl fun i h1 h2 => by
    have : i = 0 := by simpa using h1
    subst this; exact hv'), hst, fun ho => by cases ho⟩

end Go.Proofs.YtmcfnnpihlediaaGreatDoor.Ex

/- joined: the loop. -/
namespace Go.Proofs.YtmcfnnpihlediaaGreatDoor.Ex
open Go Go.RowKit Go.Shelf

theorem zip_len : ∀ a b : List Str, (zipAdd a b).length = max a.length b.length
  | a, [] => by cases a <;> simp [zipAdd]
  | [], y :: b => by simp [zipAdd]
  | x :: a, y :: b => by simp only [zipAdd, List.length_cons, zip_len a b]; omega
theorem zip_nil_left (b : List Str) : zipAdd [] b = b := by cases b <;> rfl
theorem zip_nil_right (a : List Str) : zipAdd a [] = a := by cases a <;> rfl
theorem zip_store : ∀ (a b : List Str) (k : Nat) (hk : k < b.length) (ha : k < (zipAdd a (b.take k)).length) (hka : k < a.length), zipAdd a (b.take (k + 1)) = (zipAdd a (b.take k)).set k ((zipAdd a (b.take k))[k] ++ b[k])
  | [], b, k, hk, ha, hka => by simp at hka
  | x :: a, [], k, hk, _, _ => by simp at hk
  | x :: a, y :: b, 0, hk, _, _ => by simp [zipAdd, zip_nil_right]
  | x :: a, y :: b, k + 1, hk, ha, hka => by
    have ih := zip_store a b k (by simpa using hk) (by simpa [zipAdd] using ha) (by simpa using hka)
    simp only [List.take_succ_cons, zipAdd, List.set_cons_succ, List.getElem_cons_succ]
    rw [ih]
theorem zip_app : ∀ (a b : List Str) (k : Nat) (hk : k < b.length) (hka : a.length ≤ k), zipAdd a (b.take (k + 1)) = zipAdd a (b.take k) ++ [b[k]]
  | [], b, k, hk, _ => by rw [zip_nil_left, zip_nil_left, List.take_succ_eq_append_getElem hk]
  | x :: a, b, 0, hk, hka => by simp at hka
  | x :: a, [], k, hk, _ => by simp at hk
  | x :: a, y :: b, k + 1, hk, hka => by
    have ih := zip_app a b k (by simpa using hk) (by simpa using hka)
    simp only [List.take_succ_cons, zipAdd, List.getElem_cons_succ, List.cons_append]
    rw [ih]

theorem OwnStrs.mono_world {base : Nat} {w w' : World} {v : Value} {l : List Str} (h : OwnStrs base w v l) (hsz : w.heap.size ≤ w'.heap.size) (hb : ∀ b, blockOf v = some b → b < w.heap.size → w'.heap[b]? = w.heap[b]?) : OwnStrs base w' v l := by
  rcases h with h | ⟨b, c, cur, e, rfl, h1, h2, h3, h4, h5, h6, h7⟩
  · exact .inl h
  · exact .inr ⟨b, c, cur, e, rfl, h1, by omega, by rw [hb b rfl h2]; exact h3, h4, h5, h6, h7⟩

def strV (s : Str) : Value := .string ⟨s.toArray⟩

/-- The loop's state: the row so far, and the other row as it was. -/
structure JJ (w : World) (bB : Nat) (LA LB : List Str) (k : Nat) (v : Value) (wr : World) : Prop where
  own : OwnStrs w.heap.size wr v (zipAdd LA (LB.take k))
  below : Below w.heap.size w wr
  ne : blockOf v ≠ some bB
  lt : bB < wr.heap.size
  base : w.heap.size ≤ bB
  cells : ∀ (i : Nat) (hi : i < LB.length), wr.cell? ⟨bB, i, none⟩ = some (strV LB[i])

section
variable {w wr : World} {bB k : Nat} {LA LB : List Str} {v : Value}

theorem JJ.len (h : JJ w bB LA LB k v wr) (hk : k ≤ LB.length) : ∃ A c, v = .slice A (max LA.length k) c := by
  have hl : (zipAdd LA (LB.take k)).length = max LA.length k := by rw [zip_len]; simp; omega
  rcases h.own with ⟨h1, rfl⟩ | ⟨b, c, cur, e, rfl, _⟩
  · refine ⟨none, 0, ?_⟩
    rw [h1] at hl; simp at hl; rw [← hl]
  · exact ⟨_, c, by rw [hl]⟩

theorem JJ.at (h : JJ w bB LA LB k v wr) (hk : k < LB.length) (hka : k < LA.length) : ∃ b c, ∃ x : Str, x ∈ zipAdd LA (LB.take k) ∧ v = .slice (some ⟨b, 0, none⟩) LA.length c ∧ wr.cell? ⟨b, k, none⟩ = some (strV x) ∧ wr.frozen? ⟨b, k, none⟩ = false ∧
    JJ w bB LA LB (k + 1) v (wr.setCell ⟨b, k, none⟩ (strV (x ++ LB[k]))) := by
  have hl : (zipAdd LA (LB.take k)).length = LA.length := by rw [zip_len]; simp; omega
  rcases h.own with ⟨h1, rfl⟩ | ⟨b, c, cur, e, rfl, h1, h2, h3, h4, h5, h6, h7⟩
  · rw [h1] at hl; simp at hl; omega
  · have hkl : k < (zipAdd LA (LB.take k)).length := by omega
    refine ⟨b, c, (zipAdd LA (LB.take k))[k], List.getElem_mem hkl, by rw [hl], by rw [cells_of_block h3]; exact h7 k hkl, by simp [World.frozen?, h3], ?_⟩
    have hblk : (wr.setCell ⟨b, k, none⟩ (strV ((zipAdd LA (LB.take k))[k] ++ LB[k]))).heap[b]? = some (.cells (cur.setIfInBounds k (strV ((zipAdd LA (LB.take k))[k] ++ LB[k]))) e (0, 0)) := by
      simp [World.setCell, Array.getElem?_modify, h3]
    have hoth : ∀ i, i ≠ b → (wr.setCell ⟨b, k, none⟩ (strV ((zipAdd LA (LB.take k))[k] ++ LB[k]))).heap[i]? = wr.heap[i]? := fun i hi => Below.heap_setCell _ _ _ _ hi
    have hbB : bB ≠ b := fun e => h.ne (by rw [e]; rfl)
    refine ⟨.inr ⟨b, c, cur.setIfInBounds k (strV ((zipAdd LA (LB.take k))[k] ++ LB[k])), e, ?_, h1, by simpa [World.setCell] using h2, hblk, ?_, h5, by simpa using h6, ?_⟩, h.below.setCell h1 _, h.ne, by simpa [World.setCell] using h.lt, h.base, ?_⟩
    · rw [zip_store LA LB k hk hkl hka, List.length_set]
    · rw [zip_store LA LB k hk hkl hka, List.length_set]; exact h4
    · intro i hi
      rw [zip_store LA LB k hk hkl hka, List.length_set] at hi
      rw [Array.getElem?_setIfInBounds]
      by_cases e : k = i
      · subst e
        rw [if_pos rfl, if_pos (by omega)]
        simp only [zip_store LA LB k hk hkl hka, List.getElem_set_self]
        rfl
      · rw [if_neg e]
        simp only [zip_store LA LB k hk hkl hka, List.getElem_set_ne e]
        exact h7 i hi
    · intro i hi
      rw [World.cell?_of_block (hoth bB hbB)]
      exact h.cells i hi

theorem JJ.alloc (h : JJ w bB LA LB k v wr) (o : Obj) : JJ w bB LA LB k v (wr.alloc o) := by
  have hsz : (wr.alloc o).heap.size = wr.heap.size + 1 := by simp
  have hold : ∀ i, i < wr.heap.size → (wr.alloc o).heap[i]? = wr.heap[i]? := fun i hi => Below.heap_alloc _ _ _ hi
  refine ⟨h.own.mono_world (by omega) (fun b _ hb => hold b hb), h.below.alloc h.below.size o, h.ne, by have := h.lt; omega, h.base, fun i hi => ?_⟩
  rw [World.cell?_of_block (hold bB h.lt)]
  exact h.cells i hi

theorem JJ.app (h : JJ w bB LA LB k v wr) (hk : k < LB.length) (hka : LA.length ≤ k) {v' : Value} {w' : World} (ho : OwnStrs w.heap.size w' v' (zipAdd LA (LB.take k) ++ [LB[k]])) (hg : Grew wr v w' v') : JJ w bB LA LB (k + 1) v' w' := by
  have hbl : ∀ b, blockOf v = some b → w.heap.size ≤ b := by
    intro b hb
    rcases h.own with ⟨_, rfl⟩ | ⟨b', c, cur, e, rfl, h1, _⟩
    · cases hb
    · have : b' = b := by simpa [blockOf] using hb
      omega
  have hbB : some bB ≠ blockOf v := fun e => h.ne e.symm
  refine ⟨by rw [zip_app LA LB k hk hka]; exact ho, h.below.trans ⟨hg.os, hg.tape, hg.output, hg.size, fun i hi => hg.blk i (by have := h.below.size; omega) fun e => by have := hbl i e.symm; omega⟩, fun e => ?_, by have := hg.size; have := h.lt; omega, h.base, fun i hi => ?_⟩
  · rcases hg.row bB e with h1 | h1
    · exact h.ne h1
    · have := h.lt; omega
  · rw [World.cell?_of_block (hg.blk bB h.lt hbB)]
    exact h.cells i hi
end

theorem new_cell (w : World) (v : Value) (t : TypeId) : (w.alloc (.cells #[v] t)).cell? ⟨w.heap.size, 0, none⟩ = some v := by
  have : (w.alloc (.cells #[v] t)).heap[w.heap.size]? = some (.cells #[v] t (0, 0)) := by
    show (w.heap.push _)[w.heap.size]? = _
    simp
  rw [cells_of_block this]; rfl

theorem JJ.fresh {w wr : World} {bB k : Nat} {LA LB : List Str} {v : Value} (h : JJ w bB LA LB k v wr) : blockOf v ≠ some wr.heap.size := by
  rcases h.own with ⟨_, rfl⟩ | ⟨b, c, cur, e, rfl, _, h2, _⟩
  · intro e; cases e
  · intro e
    have : b = wr.heap.size := by simpa [blockOf] using e
    omega

theorem wrap64n (k : Nat) (h : k ≤ 1000000000) : IntKind.wrap .i64 ((k : Int) + 1) = (k : Int) + 1 := wrap64 (by omega) (by omega)

set_option maxHeartbeats 4000000 in
theorem joined_walk (sA sB r : ByteArray) (w : World) (LA LB : List Str) (hA : LA.length ≤ 200000) (hB : LB.length ≤ 200000) (hw1 : ∀ (k : Nat) (x : Str), x ∈ zipAdd LA (LB.take k) → x.length ≤ 1000000) (hw2 : ∀ y ∈ LB, y.length ≤ 1000000) (Q1 : Value → World → Prop) (P4 : World → Prop)
    (c1 : Calls Tryz.prog 110 #[.string sA] w fun e w1 => ∃ vA, e = .returned vA ∧ Q1 vA w1)
    (c2 : ∀ vA w1, Q1 vA w1 → Calls Tryz.prog 110 #[.string sB] w1 fun e w2 => ∃ bB cB, e = .returned (.slice (some ⟨bB, 0, none⟩) LB.length cB) ∧ JJ w bB LA LB 0 vA w2)
    (c3 : ∀ bB v w3, JJ w bB LA LB LB.length v w3 → Calls Tryz.prog 111 #[v] w3 fun e w4 => e = .returned (.string r) ∧ P4 w4) :
    Calls Tryz.prog 144 #[.string sA, .string sB] w fun e w' => e = .returned (.string r) ∧ P4 w' := by
  have H1 := Lib.hid hw1
  have H2 := Lib.hid hw2
  clear hw1 hw2
  go_enter Tryz.func144, Tryz.ntmps144
  go_wp2_with (first
    | (go_at_call 110; ((with_reducible refine c1.mono ?_); rintro e w1 ⟨vA, rfl, q1⟩))
    | (go_at_call 110; ((with_reducible refine (c2 _ _ (by assumption)).mono ?_); rintro e w2 ⟨bB, cB, rfl, q2⟩))
    | fail)
  go_loopw [5, 7, 8, 15] (fun v _ _ i wr => ∃ k : Nat, k ≤ LB.length ∧ i = .int .i64 k ∧ JJ w bB LA LB k v wr) (fun _ _ _ i _ => LB.length - (Go.RowKit.intOf i).toNat)
  case atStart => exact ⟨0, Nat.zero_le _, rfl, q2⟩
  case round =>
    obtain ⟨k, hk, rfl, hJ⟩ := hrel
    by_cases hlt : k < LB.length
    · have hcB := hJ.cells k hlt
      have hy := H2.out _ (List.getElem_mem hlt)
      by_cases hka : k < LA.length
      · obtain ⟨b, c, x, hx, hv, hcA, hfA, hJ'⟩ := hJ.at hlt hka
        have hxl := H1.out k x hx
        subst hv
        generalize LB[k] = y at *
        have hcat : (⟨x.toArray⟩ : ByteArray) ++ ⟨y.toArray⟩ = ⟨(x ++ y).toArray⟩ := by
          apply ByteArray.ext; simp [ByteArray.data_append]
        have hs1 := sz x
        have hs2 := sz y
        have hn1 : ¬ ((9223372036854775807 : Int) < (x.length : Int) + (y.length : Int)) := by omega
        unfold strV at hcB hcA hJ'
        have HJ := Lib.hid hJ'
        have HX := Lib.hid hx
        clear hJ' hx hJ q2
        go_wp2
        go_roundw
        case rel => exact ⟨k + 1, by omega, by go_num, by have := HJ.out; rw [← hcat] at this; exact this⟩
        case measure => simp [Go.RowKit.intOf]; omega
      · obtain ⟨A, c, hv⟩ := hJ.len hk
        have hmax : max LA.length k = k := by omega
        rw [hmax] at hv
        subst hv
        unfold strV at hcB
        have hlenL : (zipAdd LA (LB.take k)).length ≤ 1000000000 := by rw [zip_len]; simp; omega
        have HL := Lib.hid hlenL
        clear hlenL q2 hmax
        go_wp2_with (first
          | (at_builtin; refine wpList_app _ 31 33 _ _ _ w.heap.size _ (zipAdd LA (LB.take k)) LB[k] ⟨wr.heap.size, 0, none⟩ 1 rfl rfl (hJ.alloc _).own (hJ.alloc _).below.size (Nat.le_refl _) (new_cell _ _ _) hJ.fresh HL.out ?_; intro v' w' hown' hgrew)
          | fail)
        go_roundw
        case rel => exact ⟨k + 1, by omega, by go_num, (hJ.alloc _).app hlt (by omega) hown' hgrew⟩
        case measure => simp [Go.RowKit.intOf]; omega
    · have : k = LB.length := by omega
      subst this
      obtain ⟨A, c, hv⟩ := hJ.len hk
      subst hv
      go_wp2_with (first | (go_at_call 111; refine (c3 _ _ _ hJ).mono ?_; rintro e w4 ⟨rfl, h4⟩) | fail)
      go_ret
      exact ⟨rfl, h4⟩

theorem zip_mem (M N : Nat) : ∀ (a b : List Str), (∀ x ∈ a, x.length ≤ M) → (∀ y ∈ b, y.length ≤ N) → ∀ z ∈ zipAdd a b, z.length ≤ M + N
  | a, [], ha, hb, z, hz => by rw [zip_nil_right] at hz; have := ha z hz; omega
  | [], y :: b, ha, hb, z, hz => by rw [zip_nil_left] at hz; have := hb z hz; omega
  | x :: a, y :: b, ha, hb, z, hz => by
    simp only [zipAdd, List.mem_cons] at hz
    rcases hz with rfl | hz
    · have := ha x (by simp); have := hb y (by simp); simp; omega
    · exact zip_mem M N a b (fun x hx => ha x (by simp [hx])) (fun y hy => hb y (by simp [hy])) z hz

set_option maxHeartbeats 4000000 in
theorem joined_walk0 (sA sB r : ByteArray) (w : World) (Q1 Q2 : Value → World → Prop) (P4 : World → Prop)
    (c1 : Calls Tryz.prog 110 #[.string sA] w fun e w1 => ∃ vA, e = .returned vA ∧ Q1 vA w1)
    (c2 : ∀ vA w1, Q1 vA w1 → Calls Tryz.prog 110 #[.string sB] w1 fun e w2 => ∃ A c, e = .returned (.slice A 0 c) ∧ Q2 vA w2)
    (c3 : ∀ v w3, Q2 v w3 → Calls Tryz.prog 111 #[v] w3 fun e w4 => e = .returned (.string r) ∧ P4 w4) :
    Calls Tryz.prog 144 #[.string sA, .string sB] w fun e w' => e = .returned (.string r) ∧ P4 w' := by
  go_enter Tryz.func144, Tryz.ntmps144
  go_wp2_with (first
    | (go_at_call 110; ((with_reducible refine c1.mono ?_); rintro e w1 ⟨vA, rfl, q1⟩))
    | (go_at_call 110; ((with_reducible refine (c2 _ _ (by assumption)).mono ?_); rintro e w2 ⟨A, c, rfl, q2⟩))
    | fail)
  go_loopw [5, 7, 8, 15] (fun v _ _ i wr => v = vA ∧ i = .int .i64 0 ∧ Q2 vA wr) (fun _ _ _ _ _ => 0)
  case atStart => exact ⟨rfl, rfl, q2⟩
  case round =>
    obtain ⟨rfl, rfl, hq⟩ := hrel
    go_wp2_with (first | (go_at_call 111; refine (c3 _ _ (by assumption)).mono ?_; rintro e w4 ⟨rfl, h4⟩) | fail)
    go_ret
    exact ⟨rfl, h4⟩

theorem joined_all {W w : World} (hW : Good W) (hP : Below W.heap.size W w) (s t : Str) (hs : s.length ≤ 100000) (ht : t.length ≤ 100000) :
    Calls Tryz.prog 144 #[.string ⟨s.toArray⟩, .string ⟨t.toArray⟩] w fun e w' => e = .returned (.string ⟨(joinL [32] (zipAdd (wordsL s) (wordsL t))).toArray⟩) ∧ Below w.heap.size w w' := by
  have l1 := wordsL_len s
  have l2 := wordsL_len t
  have room : (joinL [32] (zipAdd (wordsL s) (wordsL t))).length ≤ lim := by
    have h1 := zip_sum (wordsL s) (wordsL t)
    have h2 := wordsL_sum s
    have h3 := wordsL_sum t
    have h4 := join_length_le (zipAdd (wordsL s) (wordsL t))
    unfold lim; omega
  have c1 : Calls Tryz.prog 110 #[.string ⟨s.toArray⟩] w fun e w1 => ∃ vA, e = .returned vA ∧ (Below w.heap.size w w1 ∧ OwnStrs w.heap.size w1 vA (wordsL s)) :=
    (words_calls hW hP s (by omega)).mono fun e w1 ⟨v, h1, h2, h3⟩ => ⟨v, h1, h2, h3⟩
  have join : ∀ v w3 l, (joinL [32] l).length ≤ lim → Below w.heap.size w w3 → OwnStrs w.heap.size w3 v l → Calls Tryz.prog 111 #[v] w3 fun e w4 => e = .returned (.string ⟨(joinL [32] l).toArray⟩) ∧ Below w.heap.size w w4 := by
    intro v w3 l hl hb ho
    refine (join_calls hW (hP.trans (hb.mono hP.size)) l hl v ?_).mono fun e w4 ⟨h1, h2⟩ => ⟨h1, hb.trans (h2.mono hb.size)⟩
    rcases ho with ⟨h1, h2⟩ | ⟨b, c, cur, e, rfl, h1, h2, h3, h4, h5, h6, h7⟩
    · exact .inl ⟨h1, .inl h2⟩
    · by_cases hl0 : l = []
      · exact .inl ⟨hl0, .inr ⟨⟨b, 0, none⟩, c, by rw [hl0]; rfl⟩⟩
      · exact .inr ⟨hl0, b, c, rfl, h4, fun i hi => by rw [cells_of_block h3]; exact h7 i hi⟩
  have c2 : ∀ vA w1, (Below w.heap.size w w1 ∧ OwnStrs w.heap.size w1 vA (wordsL s)) → Calls Tryz.prog 110 #[.string ⟨t.toArray⟩] w1 fun e w2 => ∃ v, e = .returned v ∧ Below w.heap.size w w2 ∧ OwnStrs w.heap.size w2 vA (wordsL s) ∧
      OwnStrs w1.heap.size w2 v (wordsL t) ∧ (∀ b, blockOf vA = some b → b < w1.heap.size) := by
    rintro vA w1 ⟨hb1, ho1⟩
    refine (words_calls hW (hP.trans (hb1.mono hP.size)) t (by omega)).mono fun e w2 ⟨v, h1, h2, h3⟩ => ⟨v, h1, hb1.trans (h2.mono hb1.size), ho1.mono_world h2.size (fun b _ hb => h2.block b hb), h3, fun b hb => ?_⟩
    rcases ho1 with ⟨_, rfl⟩ | ⟨b', c, cur, e, rfl, _, h4, _⟩
    · cases hb
    · have : b' = b := by simpa [blockOf] using hb
      omega
  by_cases hB : wordsL t = []
  · rw [hB, zip_nil_right] at room ⊢
    refine joined_walk0 _ _ _ w _ (fun v w2 => Below w.heap.size w w2 ∧ OwnStrs w.heap.size w2 v (wordsL s)) (fun w4 => Below w.heap.size w w4) c1 (fun vA w1 h => (c2 vA w1 h).mono fun e w2 ⟨v, h1, h2, h3, h4, _⟩ => ?_) (fun v w3 ⟨h1, h2⟩ => join v w3 _ room h1 h2)
    rw [hB] at h4
    rcases h4 with ⟨_, rfl⟩ | ⟨b, c, cur, e, rfl, _⟩
    · exact ⟨none, 0, h1, h2, h3⟩
    · exact ⟨_, c, h1, h2, h3⟩
  · refine joined_walk _ _ _ w (wordsL s) (wordsL t) (by omega) (by omega) (fun k x hx => ?_) (fun y hy => by have := wordsL_mem t y hy; omega) _ (fun w4 => Below w.heap.size w w4) c1 (fun vA w1 h => (c2 vA w1 h).mono fun e w2 ⟨v, h1, h2, h3, h4, h5⟩ => ?_)
      (fun bB v w3 h => join v w3 _ room h.below (by have := h.own; rwa [List.take_length] at this))
    · have := zip_mem s.length t.length (wordsL s) ((wordsL t).take k) (fun x hx => wordsL_mem s x hx) (fun y hy => wordsL_mem t y (List.mem_of_mem_take hy)) x hx
      omega
    · rcases h4 with ⟨h, _⟩ | ⟨b, c, cur, e, rfl, g1, g2, g3, g4, g5, g6, g7⟩
      · exact absurd h hB
      · refine ⟨b, c, h1, by rw [List.take_zero, zip_nil_right]; exact h3, h2, fun e => ?_, g2, by have := h.1.size; omega, fun i hi => by rw [cells_of_block g3]; exact g7 i hi⟩
        have := h5 b e; omega

theorem ok47 {W : World} (hW : Good W) : FnOK Tryz.prog (GW W) own1 144 gJoined := by
  refine ext_ok rfl fun R w args avs rs hP hs hargs hg => ?_
  unfold gJoined at hg
  split at hg
  · rename_i s t
    split at hg
    · rename_i hl
      injection hg with hg; subst hg
      rw [hargs.str2]
      exact ⟨[.string ⟨(joinL [32] (zipAdd (wordsL s) (wordsL t))).toArray⟩], fun R' M => vrs_one (.str _), joined_all hW hP s t hl.1 hl.2⟩
    · cases hg
  · cases hg

/-- What the laws are walked over. -/
@[reducible] def X1 : XX := ⟨some gOne, some gJoined, some gSet, none, none, none⟩
theorem full1 : @Full X1 := ⟨rfl, rfl⟩
theorem ext_1 {W : World} (hW : Good W) : ∀ f g, @ext0 X1 f = some g → callable Tryz.prog f = true ∧ FnOK Tryz.prog (GW W) own1 f g :=
  @ext_all W X1 hW (@XOK.mk X1 W (fun g h => by injection h with h; subst h; exact ⟨by kernel_rfl, ok26 hW⟩) (fun g h => by injection h with h; subst h; exact ⟨by kernel_rfl, ok47 hW⟩)
    (fun g h => by injection h with h; subst h; exact ⟨by kernel_rfl, ok19 hW⟩) (fun g h => by cases h) (fun g h => by cases h) (fun g h => by cases h))
end Go.Proofs.YtmcfnnpihlediaaGreatDoor.Ex

/- The rows' frame: what is laid, a world that fits, what a walked law comes to. -/
namespace Go.Proofs.YtmcfnnpihlediaaGreatDoor.Ex
open Go Go.RowKit Go.Shelf Go.ChangeShapes Go.WideShapes Go.ChangeAt

theorem own0 : ownKnob Tryz.prog.godebug = none := by kernel_rfl
theorem star0 : "*" ++ "errors.errorString" = "*errors.errorString" := by decide
theorem row222 (u : TypeId) (h : Tryz.prog.typeName? 3 u = some "*errors.errorString") : u = 222 :=
  typeName_ptr_named (nm := "errors.errorString") (by rw [star0]; kernel_rfl) (by kernel_rfl) (by decide) u (by rw [star0]; exact h)

/-- A table's cells. -/
def flatD (d : DataW Unit) : List Value :=
  match d with
  | .agg l => l.flatMap fun x => match x with
    | .lit (.int k n) => [.int k n]
    | .agg m => m.flatMap fun y => match y with
      | .lit (.int k n) => [.int k n]
      | _ => []
    | _ => []
  | _ => []

/-- A world for the witness: the settled one, the two errors' structs behind it, the variables holding what their initialisers lay. -/
noncomputable def laidWorld (os : Os) : World :=
  let N := (World.settled Tryz.prog os).heap.size
  let w0 := World.holding Tryz.prog os ⟨#[.cells #[.string ⟨#[105, 110, 118, 97, 108, 105, 100, 32, 115, 121, 110, 116, 97, 120]⟩] 224, .cells #[.string ⟨#[118, 97, 108, 117, 101, 32, 111, 117, 116, 32, 111, 102, 32, 114, 97, 110, 103, 101]⟩] 224], #[], []⟩
  let put (h : Array Obj) (g : Nat) (cs : Array Value) : Array Obj := h.modify g fun
    | .cells _ t frozen => .cells cs t frozen
    | o => o
  let h0 := put (put w0.heap 6 #[.iface 222 (.pointer (some ⟨N, 0, none⟩))]) 7 #[.iface 222 (.pointer (some ⟨N + 1, 0, none⟩))]
  let h1 := put h0 3 (flatD Rows.laid_internal_strconv_uint64pow10).toArray
  let h2 := put h1 1 (flatD Rows.laid_unicode_utf8_first).toArray
  let h3 := put h2 2 (flatD Rows.laid_unicode_utf8_acceptRanges).toArray
  let h4 := put h3 4 (flatD Rows.laid_math_bits_deBruijn32tab).toArray
  let h5 := put h4 5 (flatD Rows.laid_math_bits_deBruijn64tab).toArray
  { w0 with heap := h5 }

/-- What all the rows of this seat list. -/
noncomputable abbrev laidL : List (String × DataW Unit) := Rows.varsSetsRow.laid

theorem laid_met (os : Os) (args : Array Value) : laidMet Tryz.prog laidL ((laidWorld os).forCall (fun _ _ => 0) ⟨#[], args, []⟩).memory :=
  laidMet_of_run' 8 (by kernel_rfl) (by kernel_rfl)

theorem tab_eq : Rows.laid_internal_strconv_uint64pow10 = Lib.tabData (H := Unit) .u64 Lib.pow10Tab := by kernel_rfl

/-- What the row's list gives. -/
theorem good_of {W : World} (hL : laidMetH Tryz.prog laidL W) (hsh : W.ShapedOpen Tryz.prog) : Good W := by
  have hL' : laidMet Tryz.prog laidL W := hL
  have ml : ∃ m, W.cell? ⟨0, 0, none⟩ = some (.int .i64 m) :=
    Go.Proofs.cell_of_shapedOpen_int (zero := #[.int .i64 0]) (t := 3) hsh (of_decide_eq_true (by kernel_rfl)) (by kernel_rfl) rfl (by kernel_rfl) (by kernel_rfl) Tryz.underlying3
  have h3 : laidMet Tryz.prog (("internal/strconv.uint64pow10", Lib.tabData .u64 Lib.pow10Tab) :: [("unicode/utf8.acceptRanges", Rows.laid_unicode_utf8_acceptRanges), ("strconv.ErrRange", Rows.laid_strconv_ErrRange), ("strconv.ErrSyntax", Rows.laid_strconv_ErrSyntax), ("unicode/utf8.first", Rows.laid_unicode_utf8_first)]) W := by
    have := hL'.tail.tail
    rw [tab_eq] at this
    exact this
  obtain ⟨a1, t1, hv1, hc1, ht1, _⟩ := laid_sentinel (g := 7) h3.tail.tail (by kernel_rfl) (by kernel_rfl) Tryz.underlying81 row222 Tryz.underlying222 Tryz.underlying224 rfl rfl Tryz.underlying9 (by kernel_rfl) (by kernel_rfl)
  obtain ⟨a0, t0, hv0, hc0, ht0, _⟩ := laid_sentinel (g := 6) h3.tail.tail.tail (by kernel_rfl) (by kernel_rfl) Tryz.underlying81 row222 Tryz.underlying222 Tryz.underlying224 rfl rfl Tryz.underlying9 (by kernel_rfl) (by kernel_rfl)
  refine ⟨ml, ?_, ?_, Lib.tabIs_of_head (rest := _) (g := 3) (t := 200) (e := 181) (n := 20) (by kernel_rfl) (by kernel_rfl) Tryz.underlying200 Tryz.underlying181 (by kernel_rfl) (by kernel_rfl) h3⟩
  · exact ⟨222, _, by simpa using World.var?_cell (by kernel_rfl) hv0 0⟩
  · exact ⟨222, _, by simpa using World.var?_cell (by kernel_rfl) hv1 0⟩

/-- A walked law: the machine's call. -/
theorem law_calls {W : World} (hW : Good W) {n : Nat} {f : FuncId} {avs : List AV} {R : Reads} {args : List Value} (h : CP (@F X1 n) f avs (.bool true)) (hs : Stab R W) (ha : VRs R [] args avs) :
    Calls Tryz.prog f args.toArray W fun e w' => e = .returned (.bool true) ∧ Below W.heap.size W w' := by
  simp only [CP, callP] at h
  split at h
  case isFalse => cases h
  split at h
  case h_2 => cases h
  rename_i rs S hF
  split at h
  case isFalse => cases h
  rename_i hnr
  injection h with h
  refine (@calls_of W X1 (ext_1 hW) n f R W args avs rs S (Below.refl _ _) hs ha hF (noPan_of hnr)).mono fun e w' hp => ?_
  obtain ⟨vs, R', bl, rfl, hv', hst, hsr, ho⟩ := hp
  refine ⟨?_, stp_below hst⟩
  match rs, vs, hv', h with
  | [r], [u], hv', h =>
    have h1 := hv'.2 0 (by simp) (by simp)
    simp only [packAV] at h
    subst h
    simp only [List.getElem_cons_zero] at h1
    rw [h1.bool_inv]; rfl
  | [], vs, hv', h => cases h
  | _ :: _ :: _, _, _, h => cases h
  | [r], [], hv', h => exact absurd hv'.1 (by simp)
  | [r], _ :: _ :: _, hv', h => exact absurd hv'.1 (by simp)

theorem vr_string {R : Reads} {M : List Nat} (s : ByteArray) : VR R M (.string s) (.str s.data.toList) := by
  have : s = ⟨s.data.toList.toArray⟩ := by cases s; simp
  conv => lhs; rw [this]
  exact .str _

theorem fullV1 : @FullV X1 := ⟨full1, rfl⟩
theorem laidOut : laidOutB Tryz.prog = true := by kernel_rfl

set_option maxRecDepth 100000

theorem vr_var {R : Reads} {M : List Nat} (s t : ByteArray) (b : Bool) : VR R M (.agg #[.string s, .string t, .bool b]) (varAV (s.data.toList, t.data.toList, b)) :=
  .agg _ _ rfl fun i h1 h2 => by
    have hi : i < 3 := by simpa using h1
    match i, hi with
    | 0, _ => exact vr_string s
    | 1, _ => exact vr_string t
    | 2, _ => exact .bool b

section
variable {H : Type} {enc : TypeId × Value → H} {w : World} {base : Nat} {spare : Nat → Bool} {held : Bool}

/-- The three cells of a variable. -/
theorem cells_var {fuel : Nat} {cs : List Value} {x : DataW H × List MemPlace} (h : DataW.trod enc Tryz.prog w base spare held fuel 36 cs = some x) : ∃ s t b, cs = [.string s, .string t, .bool b] := by
  obtain ⟨y0, y1, y2, n, rfl, hl, h0, h1, h2⟩ := Deep.trod_struct3 Tryz.underlying36 h
  have c36 : Tryz.prog.cellsOf 36 = 3 := by kernel_rfl
  have c9 : Tryz.prog.cellsOf 9 = 1 := by kernel_rfl
  have c4 : Tryz.prog.cellsOf 4 = 1 := by kernel_rfl
  rw [c36] at hl
  match cs, hl with
  | [v0, v1, v2], _ =>
    simp only [c9, c4, List.drop_zero, List.drop_succ_cons, List.take_succ_cons, List.take_zero] at h0 h1 h2
    obtain ⟨s, e0, _⟩ := DataW.trod_string Tryz.underlying9 h0
    obtain ⟨t, e1, _⟩ := DataW.trod_string Tryz.underlying9 h1
    obtain ⟨b, e2, _⟩ := DataW.trod_bool Tryz.underlying4 h2
    simp only [List.cons.injEq, and_true] at e0 e1 e2
    exact ⟨s, t, b, by rw [e0, e1, e2]⟩

theorem open_var {r : Reach} {b0 : Nat} {v : Value} {d : DataW H} {ps : List MemPlace} (hval : Value.okWide Tryz.prog w r b0 36 v) (hd : DataW.Trod enc Tryz.prog w base spare held 36 v d ps) :
    ∃ s t b, v = .agg #[.string s, .string t, .bool b] := by
  obtain ⟨cs, rfl, hsz⟩ := okWide_struct Tryz.underlying36 hval
  obtain ⟨fuel, hf⟩ := hd
  obtain ⟨s, t, b, hcs⟩ := cells_var hf
  refine ⟨s, t, b, ?_⟩
  simp only [Value.cells] at hcs
  congr 1
  apply Array.toList_inj.1
  simpa using hcs

theorem open_vars {r : Reach} {b0 : Nat} {v : Value} {d : DataW H} {ps : List MemPlace} (hval : Value.okWide Tryz.prog w r b0 22 v) (hd : DataW.Trod enc Tryz.prog w base spare held 22 v d ps) :
    ∃ V : Vs, VR (Mem w) [] v (rowAV V) := by
  obtain ⟨a', len', cap', rfl⟩ := okWide_slice Tryz.underlying22 hval
  obtain ⟨fuel, hf⟩ := hd
  rcases Deep.open_slice Tryz.underlying22 hf with ⟨hcs, _⟩ | ⟨a, len, cap, m, n, D, Pl, hcs, hb, hlc, hcm, hm, _, hx⟩
  · simp [Value.cells] at hcs
    obtain ⟨rfl, rfl, rfl⟩ := hcs
    exact ⟨[], .slnil 3⟩
  · simp [Value.cells] at hcs
    obtain ⟨rfl, rfl, rfl⟩ := hcs
    have hlm : len' ≤ m := by rw [hm]; split <;> omega
    have c36 : Tryz.prog.cellsOf 36 = 3 := by kernel_rfl
    have each : ∀ i, i < len' → ∃ x : VL, w.cell? (a.add (i * 3)) = some (.string ⟨x.1.toArray⟩) ∧ w.cell? (a.add (i * 3 + 1)) = some (.string ⟨x.2.1.toArray⟩) ∧ w.cell? (a.add (i * 3 + 2)) = some (.bool x.2.2) := fun i hi => by
      obtain ⟨cs', h1, h2⟩ := hx i (by omega)
      rw [c36] at h1
      obtain ⟨_, hlen, hcell⟩ := World.cells?_some h1
      obtain ⟨s, t, b, rfl⟩ := cells_var h2
      refine ⟨(s.data.toList, t.data.toList, b), ?_, ?_, ?_⟩
      · have := hcell 0 (by omega)
        rw [Deep.add_add] at this
        simpa using this
      · have := hcell 1 (by omega)
        rw [Deep.add_add] at this
        simpa using this
      · have := hcell 2 (by omega)
        rw [Deep.add_add] at this
        simpa using this
    haveI : Inhabited VL := ⟨([], [], false)⟩
    obtain ⟨X, hX⟩ := Deep.choose_lt each
    refine ⟨(List.range len').map X, .sl a len' cap' 3 _ (fun i j => ((vrow [X i])[j]?).getD Go.undef) (by simp) hlc (fun i hi => by simp [varAV, AV.cells]) ?_ ?_⟩
    · intro i j hi hj
      have hi' : i < len' := by simpa using hi
      obtain ⟨h0, h1, h2⟩ := hX i hi'
      match j, hj with
      | 0, _ => exact ⟨h0, rfl⟩
      | 1, _ => exact ⟨h1, rfl⟩
      | 2, _ => exact ⟨h2, rfl⟩
    · intro i j hi hj
      have hj' : j < 3 := by simpa [varAV, AV.cells] using hj
      have key : ∀ (x : VL) (j : Nat) (_ : j < 3) (hj : j < (varAV x).cells.length), VR (Mem w) [] (((vrow [x])[j]?).getD Go.undef) ((varAV x).cells[j]) := fun x j hj _ => by
        match j, hj with
        | 0, _ => exact .str _
        | 1, _ => exact .str _
        | 2, _ => exact .bool _
      simp only [List.getElem_map, List.getElem_range]
      exact key _ _ hj' (by simp [varAV, AV.cells]; omega)
end

end Go.Proofs.YtmcfnnpihlediaaGreatDoor.Ex

/- Names, in plain Lean. -/
namespace Go.Proofs.YtmcfnnpihlediaaGreatDoor.Ex
open Go
def nameN (n : Int) : Bool := (decide (65 ≤ n) && decide (n ≤ 90)) || (decide (97 ≤ n) && decide (n ≤ 122)) || (decide (48 ≤ n) && decide (n ≤ 57)) || decide (n = 95) || decide (n = 45) || decide (n = 46)
def nameC (c : UInt8) : Bool := nameN c.toNat
def nameL (s : Str) : Bool := !(s == []) && decide (s.length ≤ 40) && s.all nameC
def gName (avs : List AV) : Option (List AV) :=
  match avs with
  | [.str s] => if s.length ≤ 9223372036854775807 then some [.bool (nameL s)] else none
  | _ => none
end Go.Proofs.YtmcfnnpihlediaaGreatDoor.Ex

/- parse.Name on the machine. -/
namespace Go.Proofs.YtmcfnnpihlediaaGreatDoor.Ex
open Go Go.RowKit Go.Shelf

theorem row_byte (s : ByteArray) (cap j : Nat) (w : World) (fz : Nat × Nat) (hj : j < s.data.size) : (w.alloc (.cells (bytesRow s cap) 5 fz)).cell? ⟨w.heap.size, j, none⟩ = some (.int .u8 (s.data[j].toNat : Int)) := by
  rw [cells_of_block (heap_alloc_new w _)]
  exact bytesRow_at s cap j hj

theorem wp_convert_run {P : Program} {w w' : World} {o : Oper} {a : Act} {K : Act → World → Prop} {Q : Exit → Act → World → Prop} {src dst : TypeId} {x : Operand} {v v' : Value}
    (ho : o.op = .convert src dst x) (hx : a.eval x = v) (hr : (convert src dst v).run P w = .ok v' w') (h : K (a.put o.dst v') w') : o.wp P a w K Q := by
  unfold Oper.wp execOp
  simp only [ho, hx, Sem.run_bind, hr, Result.andThen_ok, Sem.run_pure]
  exact h

theorem wpList_convert_run {P : Program} {w w' : World} {ops : Array Oper} {rest : List Oper} {o : Oper} {a : Act} {Q : Exit → Act → World → Prop} {src dst : TypeId} {x : Operand} {v v' : Value} (hgd : o.guard = none)
    (ho : o.op = .convert src dst x) (hx : a.eval x = v) (hr : (convert src dst v).run P w = .ok v' w') (h : wpList P ops Q rest (a.put o.dst v') w') : wpList P ops Q (o :: rest) a w :=
  wpList_plain hgd fun _ hK => wp_convert_run ho hx hr (hK _ _ h)

set_option maxHeartbeats 8000000 in
set_option maxRecDepth 100000 in
theorem name_walk (l : Str) (w : World) (hl : l.length ≤ 9223372036854775807) :
    Calls Tryz.prog 30 #[.string ⟨l.toArray⟩] w fun e w' => e = .returned (.bool (nameL l)) ∧ Below w.heap.size w w' := by
  obtain ⟨cap, hcap⟩ : ∃ cap, cap = grownCap w (⟨l.toArray⟩ : ByteArray).size 0 5 := ⟨_, rfl⟩
  obtain ⟨w1, hw1⟩ : ∃ w1, w1 = w.drew.alloc (.cells (bytesRow ⟨l.toArray⟩ cap) 5 ((bytesRow ⟨l.toArray⟩ cap).size, (bytesRow ⟨l.toArray⟩ cap).size + 1)) := ⟨_, rfl⟩
  have hcv : (convert 9 75 (.string ⟨l.toArray⟩)).run Tryz.prog w = .ok (.slice (some ⟨w.heap.size, 0, none⟩) l.length cap) w1 := by
    rw [hw1, hcap]
    exact run_bytes_of_string (P := Tryz.prog) w 9 75 5 ⟨l.toArray⟩ Tryz.underlying9 Tryz.underlying75 Tryz.underlying5
  have hcell : ∀ j (hj : j < l.length), w1.cell? ⟨w.heap.size, j, none⟩ = some (.int .u8 (l[j].toNat : Int)) := fun j hj => by
    rw [hw1]; exact row_byte ⟨l.toArray⟩ cap j w.drew _ (by simpa using hj)
  have hbel : Below w.heap.size w w1 := by
    rw [hw1]; exact (Below.refl _ w).drew.alloc (by simp) _
  have hlc : l.length ≤ cap := by rw [hcap]; exact grownCap_ge w _ 0 5
  clear hw1 hcap
  have hl2 : (l.length : Int) ≤ 9223372036854775807 := by omega
  have HC := Lib.hid hcell
  clear hcell
  go_enter Tryz.func30, Tryz.ntmps30
  go_wp2_with (refine wpList_convert_run rfl rfl rfl hcv ?_)
  go_loopw [4, 8, 12] (fun _ i _ wr => ∃ k : Nat, k ≤ l.length ∧ i = .int .i64 k ∧ (l.take k).all nameC = true ∧ wr = w1) (fun _ i _ _ => l.length - (Go.RowKit.intOf i).toNat)
  case atStart => exact ⟨0, Nat.zero_le _, rfl, by simp, rfl⟩
  case round =>
    obtain ⟨k, hk, rfl, hall, rfl⟩ := hrel
    by_cases hlt : k < l.length
    · have hc := HC.out k hlt
      have hat := List.take_succ_eq_append_getElem hlt
      obtain ⟨n, hn⟩ : ∃ n : Int, n = (l[k].toNat : Int) := ⟨_, rfl⟩
      have h0 : 0 ≤ n := by omega
      have hnc : nameC l[k] = nameN n := by rw [hn]; rfl
      rw [← hn] at hc
      have h255 : n ≤ 255 := by have := l[k].toNat_lt; omega
      have hw1 : IntKind.i64.wrap ((k : Int) + 1) = (k : Int) + 1 := wrap64 (by omega) (by omega)
      have hk0 : (0 : Int) ≤ (k : Int) := by omega
      clear hn hl hlc
      rcases (show (0 ≤ n ∧ n ≤ 44) ∨ (45 ≤ n ∧ n ≤ 45) ∨ (46 ≤ n ∧ n ≤ 46) ∨ (47 ≤ n ∧ n ≤ 47) ∨ (48 ≤ n ∧ n ≤ 57) ∨ (58 ≤ n ∧ n ≤ 64) ∨ (65 ≤ n ∧ n ≤ 90) ∨ (91 ≤ n ∧ n ≤ 94) ∨ (95 ≤ n ∧ n ≤ 95) ∨ (96 ≤ n ∧ n ≤ 96) ∨ (97 ≤ n ∧ n ≤ 122) ∨ (123 ≤ n ∧ n ≤ 255) by omega) with hr | hr | hr | hr | hr | hr | hr | hr | hr | hr | hr | hr
      · obtain ⟨r1, r2⟩ := hr
        have f0 : ¬ ((65 : Int) ≤ n) := by omega
        have f1 : (n ≤ (90 : Int)) := by omega
        have f2 : ¬ ((97 : Int) ≤ n) := by omega
        have f3 : (n ≤ (122 : Int)) := by omega
        have f4 : ¬ ((48 : Int) ≤ n) := by omega
        have f5 : (n ≤ (57 : Int)) := by omega
        have f6 : ¬ (n = (95 : Int)) := by omega
        have f7 : ¬ (n = (45 : Int)) := by omega
        have f8 : ¬ (n = (46 : Int)) := by omega
        have hN : nameN n = false := by unfold nameN; simp only [f0, f1, f2, f3, f4, f5, f6, f7, f8, decide_true, decide_false]; rfl
        clear r1 r2
        go_wp2
        go_ret
        refine ⟨?_, hbel⟩
        have : l.all nameC = false := by
          rw [← Bool.not_eq_true, List.all_eq_true]
          intro h
          have := h l[k] (List.getElem_mem hlt)
          rw [hnc, hN] at this; cases this
        rw [nameL, this, Bool.and_false]
        rfl
      · obtain ⟨r1, r2⟩ := hr
        have f0 : ¬ ((65 : Int) ≤ n) := by omega
        have f1 : (n ≤ (90 : Int)) := by omega
        have f2 : ¬ ((97 : Int) ≤ n) := by omega
        have f3 : (n ≤ (122 : Int)) := by omega
        have f4 : ¬ ((48 : Int) ≤ n) := by omega
        have f5 : (n ≤ (57 : Int)) := by omega
        have f6 : ¬ (n = (95 : Int)) := by omega
        have f7 : (n = (45 : Int)) := by omega
        have f8 : ¬ (n = (46 : Int)) := by omega
        have hN : nameN n = true := by unfold nameN; simp only [f0, f1, f2, f3, f4, f5, f6, f7, f8, decide_true, decide_false]; rfl
        clear r1 r2
        go_wp2
        go_roundw
        case rel => exact ⟨k + 1, by omega, by go_num, by rw [hat, List.all_append, hall, List.all_cons, hnc, hN]; rfl, trivial⟩
        case measure => simp [Go.RowKit.intOf]; omega
      · obtain ⟨r1, r2⟩ := hr
        have f0 : ¬ ((65 : Int) ≤ n) := by omega
        have f1 : (n ≤ (90 : Int)) := by omega
        have f2 : ¬ ((97 : Int) ≤ n) := by omega
        have f3 : (n ≤ (122 : Int)) := by omega
        have f4 : ¬ ((48 : Int) ≤ n) := by omega
        have f5 : (n ≤ (57 : Int)) := by omega
        have f6 : ¬ (n = (95 : Int)) := by omega
        have f7 : ¬ (n = (45 : Int)) := by omega
        have f8 : (n = (46 : Int)) := by omega
        have hN : nameN n = true := by unfold nameN; simp only [f0, f1, f2, f3, f4, f5, f6, f7, f8, decide_true, decide_false]; rfl
        clear r1 r2
        go_wp2
        go_roundw
        case rel => exact ⟨k + 1, by omega, by go_num, by rw [hat, List.all_append, hall, List.all_cons, hnc, hN]; rfl, trivial⟩
        case measure => simp [Go.RowKit.intOf]; omega
      · obtain ⟨r1, r2⟩ := hr
        have f0 : ¬ ((65 : Int) ≤ n) := by omega
        have f1 : (n ≤ (90 : Int)) := by omega
        have f2 : ¬ ((97 : Int) ≤ n) := by omega
        have f3 : (n ≤ (122 : Int)) := by omega
        have f4 : ¬ ((48 : Int) ≤ n) := by omega
        have f5 : (n ≤ (57 : Int)) := by omega
        have f6 : ¬ (n = (95 : Int)) := by omega
        have f7 : ¬ (n = (45 : Int)) := by omega
        have f8 : ¬ (n = (46 : Int)) := by omega
        have hN : nameN n = false := by unfold nameN; simp only [f0, f1, f2, f3, f4, f5, f6, f7, f8, decide_true, decide_false]; rfl
        clear r1 r2
        go_wp2
        go_ret
        refine ⟨?_, hbel⟩
        have : l.all nameC = false := by
          rw [← Bool.not_eq_true, List.all_eq_true]
          intro h
          have := h l[k] (List.getElem_mem hlt)
          rw [hnc, hN] at this; cases this
        rw [nameL, this, Bool.and_false]
        rfl
      · obtain ⟨r1, r2⟩ := hr
        have f0 : ¬ ((65 : Int) ≤ n) := by omega
        have f1 : (n ≤ (90 : Int)) := by omega
        have f2 : ¬ ((97 : Int) ≤ n) := by omega
        have f3 : (n ≤ (122 : Int)) := by omega
        have f4 : ((48 : Int) ≤ n) := by omega
        have f5 : (n ≤ (57 : Int)) := by omega
        have f6 : ¬ (n = (95 : Int)) := by omega
        have f7 : ¬ (n = (45 : Int)) := by omega
        have f8 : ¬ (n = (46 : Int)) := by omega
        have hN : nameN n = true := by unfold nameN; simp only [f0, f1, f2, f3, f4, f5, f6, f7, f8, decide_true, decide_false]; rfl
        clear r1 r2
        go_wp2
        go_roundw
        case rel => exact ⟨k + 1, by omega, by go_num, by rw [hat, List.all_append, hall, List.all_cons, hnc, hN]; rfl, trivial⟩
        case measure => simp [Go.RowKit.intOf]; omega
      · obtain ⟨r1, r2⟩ := hr
        have f0 : ¬ ((65 : Int) ≤ n) := by omega
        have f1 : (n ≤ (90 : Int)) := by omega
        have f2 : ¬ ((97 : Int) ≤ n) := by omega
        have f3 : (n ≤ (122 : Int)) := by omega
        have f4 : ((48 : Int) ≤ n) := by omega
        have f5 : ¬ (n ≤ (57 : Int)) := by omega
        have f6 : ¬ (n = (95 : Int)) := by omega
        have f7 : ¬ (n = (45 : Int)) := by omega
        have f8 : ¬ (n = (46 : Int)) := by omega
        have hN : nameN n = false := by unfold nameN; simp only [f0, f1, f2, f3, f4, f5, f6, f7, f8, decide_true, decide_false]; rfl
        clear r1 r2
        go_wp2
        go_ret
        refine ⟨?_, hbel⟩
        have : l.all nameC = false := by
          rw [← Bool.not_eq_true, List.all_eq_true]
          intro h
          have := h l[k] (List.getElem_mem hlt)
          rw [hnc, hN] at this; cases this
        rw [nameL, this, Bool.and_false]
        rfl
      · obtain ⟨r1, r2⟩ := hr
        have f0 : ((65 : Int) ≤ n) := by omega
        have f1 : (n ≤ (90 : Int)) := by omega
        have f2 : ¬ ((97 : Int) ≤ n) := by omega
        have f3 : (n ≤ (122 : Int)) := by omega
        have f4 : ((48 : Int) ≤ n) := by omega
        have f5 : ¬ (n ≤ (57 : Int)) := by omega
        have f6 : ¬ (n = (95 : Int)) := by omega
        have f7 : ¬ (n = (45 : Int)) := by omega
        have f8 : ¬ (n = (46 : Int)) := by omega
        have hN : nameN n = true := by unfold nameN; simp only [f0, f1, f2, f3, f4, f5, f6, f7, f8, decide_true, decide_false]; rfl
        clear r1 r2
        go_wp2
        go_roundw
        case rel => exact ⟨k + 1, by omega, by go_num, by rw [hat, List.all_append, hall, List.all_cons, hnc, hN]; rfl, trivial⟩
        case measure => simp [Go.RowKit.intOf]; omega
      · obtain ⟨r1, r2⟩ := hr
        have f0 : ((65 : Int) ≤ n) := by omega
        have f1 : ¬ (n ≤ (90 : Int)) := by omega
        have f2 : ¬ ((97 : Int) ≤ n) := by omega
        have f3 : (n ≤ (122 : Int)) := by omega
        have f4 : ((48 : Int) ≤ n) := by omega
        have f5 : ¬ (n ≤ (57 : Int)) := by omega
        have f6 : ¬ (n = (95 : Int)) := by omega
        have f7 : ¬ (n = (45 : Int)) := by omega
        have f8 : ¬ (n = (46 : Int)) := by omega
        have hN : nameN n = false := by unfold nameN; simp only [f0, f1, f2, f3, f4, f5, f6, f7, f8, decide_true, decide_false]; rfl
        clear r1 r2
        go_wp2
        go_ret
        refine ⟨?_, hbel⟩
        have : l.all nameC = false := by
          rw [← Bool.not_eq_true, List.all_eq_true]
          intro h
          have := h l[k] (List.getElem_mem hlt)
          rw [hnc, hN] at this; cases this
        rw [nameL, this, Bool.and_false]
        rfl
      · obtain ⟨r1, r2⟩ := hr
        have f0 : ((65 : Int) ≤ n) := by omega
        have f1 : ¬ (n ≤ (90 : Int)) := by omega
        have f2 : ¬ ((97 : Int) ≤ n) := by omega
        have f3 : (n ≤ (122 : Int)) := by omega
        have f4 : ((48 : Int) ≤ n) := by omega
        have f5 : ¬ (n ≤ (57 : Int)) := by omega
        have f6 : (n = (95 : Int)) := by omega
        have f7 : ¬ (n = (45 : Int)) := by omega
        have f8 : ¬ (n = (46 : Int)) := by omega
        have hN : nameN n = true := by unfold nameN; simp only [f0, f1, f2, f3, f4, f5, f6, f7, f8, decide_true, decide_false]; rfl
        clear r1 r2
        go_wp2
        go_roundw
        case rel => exact ⟨k + 1, by omega, by go_num, by rw [hat, List.all_append, hall, List.all_cons, hnc, hN]; rfl, trivial⟩
        case measure => simp [Go.RowKit.intOf]; omega
      · obtain ⟨r1, r2⟩ := hr
        have f0 : ((65 : Int) ≤ n) := by omega
        have f1 : ¬ (n ≤ (90 : Int)) := by omega
        have f2 : ¬ ((97 : Int) ≤ n) := by omega
        have f3 : (n ≤ (122 : Int)) := by omega
        have f4 : ((48 : Int) ≤ n) := by omega
        have f5 : ¬ (n ≤ (57 : Int)) := by omega
        have f6 : ¬ (n = (95 : Int)) := by omega
        have f7 : ¬ (n = (45 : Int)) := by omega
        have f8 : ¬ (n = (46 : Int)) := by omega
        have hN : nameN n = false := by unfold nameN; simp only [f0, f1, f2, f3, f4, f5, f6, f7, f8, decide_true, decide_false]; rfl
        clear r1 r2
        go_wp2
        go_ret
        refine ⟨?_, hbel⟩
        have : l.all nameC = false := by
          rw [← Bool.not_eq_true, List.all_eq_true]
          intro h
          have := h l[k] (List.getElem_mem hlt)
          rw [hnc, hN] at this; cases this
        rw [nameL, this, Bool.and_false]
        rfl
      · obtain ⟨r1, r2⟩ := hr
        have f0 : ((65 : Int) ≤ n) := by omega
        have f1 : ¬ (n ≤ (90 : Int)) := by omega
        have f2 : ((97 : Int) ≤ n) := by omega
        have f3 : (n ≤ (122 : Int)) := by omega
        have f4 : ((48 : Int) ≤ n) := by omega
        have f5 : ¬ (n ≤ (57 : Int)) := by omega
        have f6 : ¬ (n = (95 : Int)) := by omega
        have f7 : ¬ (n = (45 : Int)) := by omega
        have f8 : ¬ (n = (46 : Int)) := by omega
        have hN : nameN n = true := by unfold nameN; simp only [f0, f1, f2, f3, f4, f5, f6, f7, f8, decide_true, decide_false]; rfl
        clear r1 r2
        go_wp2
        go_roundw
        case rel => exact ⟨k + 1, by omega, by go_num, by rw [hat, List.all_append, hall, List.all_cons, hnc, hN]; rfl, trivial⟩
        case measure => simp [Go.RowKit.intOf]; omega
      · obtain ⟨r1, r2⟩ := hr
        have f0 : ((65 : Int) ≤ n) := by omega
        have f1 : ¬ (n ≤ (90 : Int)) := by omega
        have f2 : ((97 : Int) ≤ n) := by omega
        have f3 : ¬ (n ≤ (122 : Int)) := by omega
        have f4 : ((48 : Int) ≤ n) := by omega
        have f5 : ¬ (n ≤ (57 : Int)) := by omega
        have f6 : ¬ (n = (95 : Int)) := by omega
        have f7 : ¬ (n = (45 : Int)) := by omega
        have f8 : ¬ (n = (46 : Int)) := by omega
        have hN : nameN n = false := by unfold nameN; simp only [f0, f1, f2, f3, f4, f5, f6, f7, f8, decide_true, decide_false]; rfl
        clear r1 r2
        go_wp2
        go_ret
        refine ⟨?_, hbel⟩
        have : l.all nameC = false := by
          rw [← Bool.not_eq_true, List.all_eq_true]
          intro h
          have := h l[k] (List.getElem_mem hlt)
          rw [hnc, hN] at this; cases this
        rw [nameL, this, Bool.and_false]
        rfl
    · have hkl : k = l.length := by omega
      subst hkl
      rw [List.take_length] at hall
      by_cases h0 : l = []
      · subst h0
        go_wp2
        go_ret
        exact ⟨rfl, hbel⟩
      · have hne : ¬ (l.toArray = #[]) := by simpa using h0
        have hbe : (l == []) = false := by simpa using h0
        by_cases h40 : l.length ≤ 40
        · have h40' : (l.length : Int) ≤ 40 := by omega
          go_wp2
          go_ret
          refine ⟨?_, hbel⟩
          have : nameL l = true := by rw [nameL, hbe, hall, decide_eq_true h40]; rfl
          rw [this]
          rfl
        · have h40' : ¬ (l.length : Int) ≤ 40 := by omega
          go_wp2
          go_ret
          refine ⟨?_, hbel⟩
          have : nameL l = false := by rw [nameL, decide_eq_false h40]; simp
          rw [this]
          rfl

theorem ok30 {W : World} : FnOK Tryz.prog (GW W) own1 30 gName := by
  refine ext_ok rfl fun R w args avs rs hP hs hargs hg => ?_
  unfold gName at hg
  split at hg
  · rename_i s
    split at hg
    · rename_i hl
      injection hg with hg; subst hg
      refine ⟨[.bool (nameL s)], fun R' M => vrs_one (.bool _), ?_⟩
      obtain ⟨v1, vs1, rfl, hv1, hvs1⟩ := hargs.cons_inv
      rw [hvs1.nil_inv, hv1.str_inv]
      exact name_walk s w hl
    · cases hg
  · cases hg

end Go.Proofs.YtmcfnnpihlediaaGreatDoor.Ex

/- The document's own Set and Get. -/
namespace Go.Proofs.YtmcfnnpihlediaaGreatDoor.Ex
open Go
attribute [-simp] rgn rgnD exec_seq exec_cond exec_block keepS

def leS (a b : Str) : Bool := Op.bytesLess a b || a == b
/-- The document's Set, from a place on: was it put? -/
def setR (x : VL) : Bool → Vs → Vs
  | fl, [] => if fl then [] else [x]
  | fl, y :: r => (if !fl && leS x.1 y.1 then [x] else []) ++ ((if y.1 == x.1 then [] else [y]) ++ setR x (fl || leS x.1 y.1) r)

theorem setR_true (x : VL) : ∀ r : Vs, (∀ z ∈ r, z.1 ≠ x.1) → setR x true r = r
  | [], _ => rfl
  | y :: r, h => by
    have h1 : (y.1 == x.1) = false := by simpa using h y (by simp)
    simp only [setR, Bool.not_true, Bool.false_and, Bool.true_or, h1]
    rw [setR_true x r fun z hz => h z (by simp [hz])]
    simp

theorem setR_eq (x : VL) : ∀ {V : Vs}, ordV V = true → setR x false V = setV x V
  | [], _ => rfl
  | y :: r, ho => by
    have hne : ∀ {a b : Str}, Op.bytesLess a b = true → a ≠ b := fun h e => by subst e; rw [less_irrefl] at h; cases h
    by_cases h1 : x.1 = y.1
    · have e1 : leS x.1 y.1 = true := by simp [leS, h1]
      have e2 : (y.1 == x.1) = true := by simp [h1]
      simp only [setR, setV, Bool.not_false, Bool.true_and, Bool.false_or, e1, e2, if_pos h1, if_true]
      rw [setR_true x r fun z hz => h1 ▸ (hne (ordV_all ho z hz)).symm]
      simp
    · have e2 : (y.1 == x.1) = false := by simpa using fun e : y.1 = x.1 => h1 e.symm
      by_cases h2 : Op.bytesLess x.1 y.1 = true
      · have e1 : leS x.1 y.1 = true := by simp [leS, h2]
        simp only [setR, setV, Bool.not_false, Bool.true_and, Bool.false_or, e1, e2, if_neg h1, if_pos h2, if_true]
        rw [setR_true x r fun z hz => (hne (less_trans h2 (ordV_all ho z hz))).symm]
        simp
      · have e1 : leS x.1 y.1 = false := by
          have : Op.bytesLess x.1 y.1 = false := by simpa using h2
          have h3 : (x.1 == y.1) = false := by simpa using h1
          simp [leS, this, h3]
        simp only [setR, setV, Bool.not_false, Bool.true_and, Bool.false_or, e1, e2, if_neg h1, if_neg h2]
        rw [setR_eq x (ordV_tail ho)]
        simp

@[simp] theorem zc28 : zeroCells Tryz.prog 6 28 = some [.sl 3 []] := by kernel_rfl
@[simp] theorem zc25 : zeroCells Tryz.prog 6 25 = some [.sl 3 []] := by kernel_rfl
@[simp] theorem zc36 : zeroCells Tryz.prog 6 36 = some [.str [], .str [], .bool false] := by kernel_rfl
@[simp] theorem zc39 : zeroCells Tryz.prog 6 39 = some [.str [], .str [], .bool false] := by kernel_rfl

section
variable [XX]

def stI (V : Vs) (x : VL) (i : Nat) (pf : PF) : Prop :=
  pf 2 = .box 0 0 ∧ pf 3 = .box 1 0 ∧ pf 4 = .box 2 0 ∧ pf 7 = .int .i64 i ∧ ∃ acc fl, pf 5 = rowAV acc ∧ pf 6 = .bool fl ∧ acc.length ≤ i + fl.toNat ∧ acc ++ setR x fl (V.drop i) = setR x false V

set_option maxHeartbeats 4000000 in
theorem v22 (n : Nat) (V : Vs) (x : VL) (ho : ordV V = true) (hl : V.length ≤ 1000000) (hn : V.length + 5 < n) :
    CP (F (n + 1)) 22 [varsAV V, varAV x] (varsAV (setV x V)) := by
  refine F_cp (rs := [varsAV (setV x V)]) (S := [.cells [rowAV V], .cells [.str x.1, .str x.2.1, .bool x.2.2], .cells [rowAV (setV x V)]]) (by simp only [noBoxL, noBox, varsAV, noBox_row, noBox_var, Bool.and_self]) (by simp only [noBoxL, noBox, varsAV, noBox_row, Bool.and_self]) ?_
  rw [F_fn rfl rfl rfl Tryz.func22 rfl]
  simp [runFn, Tryz.f22, rowAV, varsAV, varAV]
  generalize hI : iter _ _ _ = r
  obtain ⟨pf', rfl, hx⟩ := iter_count 0 (stI V x) V.length
    (fun i pf hi h => by
      obtain ⟨p2, p3, p4, p7, acc, fl, p5, p6, hal, hacc⟩ := h
      rw [rowAV] at p5
      have hat : V[i]? = some V[i] := List.getElem?_eq_getElem hi
      have hd : V.drop i = V[i] :: V.drop (i + 1) := List.drop_eq_getElem_cons hi
      rw [hd] at hacc
      simp only [setR] at hacc
      have w1 : IntKind.wrap .i64 ((i : Int) + 1) = (i : Int) + 1 := wrap64 (by omega) (by omega)
      have hfl : fl.toNat ≤ 1 := Bool.toNat_le fl
      have hb1 : (acc.length + 1) * 40 ≤ 140737488355328 := Nat.le_trans (Nat.mul_le_mul_right 40 (show acc.length + 1 ≤ 1000002 by omega)) (by decide)
      have hb2 : (acc.length + 1 + 1) * 40 ≤ 140737488355328 := Nat.le_trans (Nat.mul_le_mul_right 40 (show acc.length + 1 + 1 ≤ 1000003 by omega)) (by decide)
      have hneg : ¬ (i : Int) < 0 := by omega
      obtain ⟨le, hle⟩ : ∃ le, leS x.1 V[i].1 = le := ⟨_, rfl⟩
      obtain ⟨ne, hne⟩ : ∃ ne, (V[i].1 == x.1) = ne := ⟨_, rfl⟩
      rw [hle, hne] at hacc
      unfold leS at hle
      cases fl <;> cases le <;> cases ne
      all_goals
        simp only [Bool.not_false, Bool.not_true, Bool.true_and, Bool.false_and, Bool.or_true, Bool.or_false, Bool.false_eq_true, if_true, if_false, List.nil_append, ← List.append_assoc, List.append_nil, Bool.or_self] at hacc
        refine ⟨_, by simp [p2, p3, p4, p5, p6, p7, hi, hat, hle, hne, w1, hb1, hb2, varAV]; rfl, ?_⟩
        refine ⟨by simp [p2], by simp [p3], by simp [p4], by simp, _, _, ?_, by simp [p6], ?_, hacc⟩
        · simp [rowAV, varAV, p5]
        · simp only [List.length_append, List.length_cons, List.length_nil, Bool.toNat_true, Bool.toNat_false] at hal ⊢; omega)
    (fun pf h => by
      obtain ⟨p2, p3, p4, p7, acc, fl, p5, p6, hal, hacc⟩ := h
      rw [rowAV] at p5
      refine ⟨_, by simp [p2, p3, p4, p5, p6, p7]; rfl, ?_⟩
      refine ⟨by simp [p2], by simp [p3], by simp [p4], by simp [p7], acc, fl, by simp [p5, rowAV], by simp [p6], hal, hacc⟩)
    V.length 0 n _ r (by omega) hI (by simp [stI, rowAV]) (by omega)
  obtain ⟨p2, p3, p4, p7, acc, fl, p5, p6, hal, hacc⟩ := hx
  rw [List.drop_length, setR_eq x ho] at hacc
  rw [rowAV] at p5
  have hfl : fl.toNat ≤ 1 := Bool.toNat_le fl
  have hb1 : (acc.length + 1) * 40 ≤ 140737488355328 := Nat.le_trans (Nat.mul_le_mul_right 40 (show acc.length + 1 ≤ 1000002 by omega)) (by decide)
  rw [← hacc]
  cases fl
  · simp [p2, p3, p4, p5, p6, setR, rowAV, varAV, hb1]
  · simp [p2, p3, p4, p5, p6, setR, rowAV, varAV, hb1]

end
end Go.Proofs.YtmcfnnpihlediaaGreatDoor.Ex

/- The rows of a law's variables: both, the program's and the document's. -/
namespace Go.Proofs.YtmcfnnpihlediaaGreatDoor.Ex
open Go
attribute [-simp] rgn rgnD exec_seq exec_cond exec_block keepS

def bigV (x : VL) : Bool := decide (60 < x.1.length) || decide (600 < x.2.1.length)
def rowsGo : Vs → Vs → Vs × Bool
  | acc, [] => (acc, true)
  | acc, x :: r => if bigV x then (acc, false) else rowsGo (setV x acc) r
def rowsL (V : Vs) : Vs × Bool := if 30 < V.length then ([], false) else rowsGo [] V

def rwS (a : Vs) : Obs := [.cells [.sl 3 []], .cells [.sl 3 []], .cells [rowAV a], .cells [rowAV a]]
def rwE (a : Vs) : Obs := [.cells [rowAV a], .cells [rowAV a], .cells [rowAV a], .cells [rowAV a]]

def rwI (V : Vs) (x : Nat × Vs) (c : Cfg) : Prop :=
  c.D = [] ∧ c.S = rwS x.2 ∧ c.pf 0 = rowAV V ∧ c.pf 2 = .box 0 0 ∧ c.pf 3 = .box 1 0 ∧ c.pf 5 = .box 2 0 ∧ c.pf 6 = .box 3 0 ∧ c.pf 7 = .int .i64 x.1 ∧ x.1 ≤ V.length ∧ ordV x.2 = true ∧ x.2.length ≤ x.1 ∧ rowsGo x.2 (V.drop x.1) = rowsGo [] V
def rwQ (V : Vs) (x : PX) (c : Cfg) : Prop :=
  c.D = [] ∧ ((x = .ret ∧ (rowsGo [] V).2 = false ∧ c.S = rwE (rowsGo [] V).1 ∧ c.pf 4 = .bool false ∧ c.pf 2 = .box 0 0 ∧ c.pf 3 = .box 1 0) ∨
    (x = .ex 0 ∧ (rowsGo [] V).2 = true ∧ c.S = rwS (rowsGo [] V).1 ∧ c.pf 2 = .box 0 0 ∧ c.pf 3 = .box 1 0 ∧ c.pf 5 = .box 2 0 ∧ c.pf 6 = .box 3 0))

section
variable [XX]

set_option maxHeartbeats 4000000 in
theorem v12 (hX : FullV) (n : Nat) (V : Vs) (hn : 100 < n) :
    CP (F (n + 2)) 12 [rowAV V] (.tup [varsAV (rowsL V).1, varsAV (rowsL V).1, .bool (rowsL V).2]) := by
  refine F_cp (rs := [varsAV (rowsL V).1, varsAV (rowsL V).1, .bool (rowsL V).2]) (S := rwE (rowsL V).1) (by simp only [noBoxL, noBox, noBox_row, Bool.and_self]) (by simp only [noBoxL, noBox, varsAV, noBox_row, Bool.and_self]) ?_
  rw [F_fn rfl rfl rfl Tryz.func12 rfl]
  unfold rowsL
  by_cases h30 : 30 < V.length
  · have h30' : decide (30 < (V.length : Int)) = true := by simp; omega
    simp [runFn, Tryz.f12, rowAV, varsAV, h30, h30', rwE]
  · have h30' : decide (30 < (V.length : Int)) = false := by simp; omega
    simp [runFn, Tryz.f12, rowAV, varsAV, h30, h30']
    generalize hI : iter _ _ _ = r
    obtain ⟨px, c, rfl, hc⟩ := iter_cfg (fun x : Nat × Vs => V.length - x.1) (rwI V) (rwQ V)
      (fun x c hcc => by
        obtain ⟨i, a⟩ := x
        obtain ⟨pf, S', D'⟩ := c
        obtain ⟨rfl, rfl, p0, p2, p3, p5, p6, p7, hi, ho, hl, hinv⟩ := hcc
        simp only at p0 p2 p3 p5 p6 p7 hi ho hl hinv
        rw [rowAV] at p0
        by_cases hil : i < V.length
        · have hat : V[i]? = some V[i] := List.getElem?_eq_getElem hil
          have hd : V.drop i = V[i] :: V.drop (i + 1) := List.drop_eq_getElem_cons hil
          have w1 : IntKind.wrap .i64 ((i : Int) + 1) = (i : Int) + 1 := wrap64 (by omega) (by omega)
          rw [hd, rowsGo] at hinv
          by_cases hb : bigV V[i] = true
          · right
            rw [if_pos hb] at hinv
            simp only [bigV, Bool.or_eq_true, decide_eq_true_eq] at hb
            by_cases hb1 : 60 < V[i].1.length
            · have hb1' : decide (60 < (V[i].1.length : Int)) = true := by simp; omega
              refine ⟨.ret, _, by simp, by simp [p0, p2, p3, p5, p6, p7, hil, hat, hb1', varAV, rwS, rowAV]; rfl, ?_⟩
              simp [rwQ, ← hinv, rwE, rowAV, p2, p3]
            · have hb1' : decide (60 < (V[i].1.length : Int)) = false := by simp; omega
              have hb2' : decide (600 < (V[i].2.1.length : Int)) = true := by simp; omega
              refine ⟨.ret, _, by simp, by simp [p0, p2, p3, p5, p6, p7, hil, hat, hb1', hb2', varAV, rwS, rowAV]; rfl, ?_⟩
              simp [rwQ, ← hinv, rwE, rowAV, p2, p3]
          · left
            rw [if_neg hb] at hinv
            simp only [bigV, Bool.or_eq_true, decide_eq_true_eq] at hb
            have hb1' : decide (60 < (V[i].1.length : Int)) = false := by simp; omega
            have hb2' : decide (600 < (V[i].2.1.length : Int)) = false := by simp; omega
            have c1 := v19 hX n a V[i] ho (by omega)
            have c2 := v22 n a V[i] ho (by omega) (by omega)
            simp only [CP, varsAV, varAV, rowAV] at c1 c2
            have hsl := setV_len V[i] a
            refine ⟨(i + 1, setV V[i] a), _, by simp [p0, p2, p3, p5, p6, p7, hil, hat, hb1', hb2', varAV, rwS, rowAV, c1, c2, w1]; rfl, by simp only; omega, ?_⟩
            refine ⟨rfl, by simp [rwS, rowAV], by simp [p0, rowAV], by simp [p2], by simp [p3], by simp [p5], by simp [p6], by simp, by simp only; omega, ordV_set _ ho, by simp only; omega, hinv⟩
        · right
          rw [List.drop_of_length_le (by omega), rowsGo] at hinv
          refine ⟨.ex 0, _, by simp, by simp [p0, p2, p3, p5, p6, p7, hil]; rfl, ?_⟩
          simp [rwQ, ← hinv, p2, p3, p5, p6])
      (n + 1) (0, []) _ r hI (by simp [rwI, rwS, rowAV, ordV]) (by simp; omega)
    obtain ⟨pf, S', D'⟩ := c
    obtain ⟨rfl, h | h⟩ := hc
    · obtain ⟨rfl, h1, rfl, p4, p2, p3⟩ := h
      simp only at p2 p3 p4
      simp [p2, p3, p4, h1, rwE, rowAV]
    · obtain ⟨rfl, h1, rfl, p2, p3, p5, p6⟩ := h
      simp only at p2 p3 p5 p6
      simp [p2, p3, p5, p6, h1, rwE, rwS, rowAV]

end
end Go.Proofs.YtmcfnnpihlediaaGreatDoor.Ex

/- The law of what is set. -/
namespace Go.Proofs.YtmcfnnpihlediaaGreatDoor.Ex
open Go
attribute [-simp] rgn rgnD exec_seq exec_cond exec_block keepS

theorem rowsGo_fold : ∀ (l acc : Vs), (∀ x ∈ l, bigV x = false) → rowsGo acc l = (l.foldl (fun v x => setV x v) acc, true)
  | [], acc, _ => rfl
  | x :: r, acc, h => by
    rw [rowsGo, if_neg (by rw [h x (by simp)]; decide), rowsGo_fold r _ fun z hz => h z (by simp [hz])]
    rfl
theorem rowsL_ok (l : Vs) (h1 : l.length ≤ 30) (h : ∀ x ∈ l, bigV x = false) : rowsL l = (rowsS l, true) := by
  rw [rowsL, if_neg (by omega), rowsGo_fold l [] h]; rfl

/-- What a row of a law's variables keeps. -/
def goodA (a : Vs) (k : Nat) : Prop := ordV a = true ∧ a.length ≤ k ∧ ∀ x ∈ a, bigV x = false
theorem goodA_set {a : Vs} {k : Nat} (h : goodA a k) (x : VL) (hx : bigV x = false) : goodA (setV x a) (k + 1) :=
  ⟨ordV_set _ h.1, by have := setV_len x a; have := h.2.1; omega, fun z hz => by
    rcases setV_mem _ _ _ hz with rfl | hz
    · exact hx
    · exact h.2.2 z hz⟩
theorem rowsGo_good : ∀ (l a : Vs) (k : Nat), goodA a k → goodA (rowsGo a l).1 (k + l.length)
  | [], a, k, h => h
  | x :: r, a, k, h => by
    rw [rowsGo]
    split
    · exact ⟨h.1, by have := h.2.1; simp; omega, h.2.2⟩
    · rename_i hb
      have := rowsGo_good r _ _ (goodA_set h x (by simpa using hb))
      simp only [List.length_cons]
      rwa [show k + (r.length + 1) = k + 1 + r.length by omega]
theorem rowsL_good (V : Vs) : goodA (rowsL V).1 30 := by
  unfold rowsL
  split
  · exact ⟨rfl, by simp, by simp⟩
  · have := rowsGo_good V [] 0 ⟨rfl, by simp, by simp⟩
    exact ⟨this.1, by have := this.2.1; omega, this.2.2⟩
theorem goodA.ok {a : Vs} {k : Nat} (h : goodA a k) (hk : k ≤ 1000) : okV a 20 := ⟨h.1, by have := h.2.1; omega, fun x hx => by
  have := h.2.2 x hx
  simp only [bigV, Bool.or_eq_false_iff, decide_eq_false_iff_not] at this
  omega⟩

theorem getV_set_same (x : VL) : ∀ V : Vs, getV (setV x V) x.1 = some x
  | [] => by simp [setV, getV]
  | y :: r => by
    simp only [setV]
    split
    · simp [getV]
    · split
      · simp [getV]
      · rename_i h1 h2
        have h3 : (y.1 == x.1) = false := by simpa using fun e : y.1 = x.1 => h1 e.symm
        have := getV_set_same x r
        simp only [getV] at this ⊢
        simp only [List.find?_cons, h3, this]
theorem getV_set_ne (x : VL) (n : Str) (hn : n ≠ x.1) : ∀ V : Vs, getV (setV x V) n = getV V n
  | [] => by
    have h3 : (x.1 == n) = false := by simpa using fun e : x.1 = n => hn e.symm
    simp [setV, getV, h3]
  | y :: r => by
    have h3 : (x.1 == n) = false := by simpa using fun e : x.1 = n => hn e.symm
    simp only [setV]
    split
    · rename_i h1
      have h4 : (y.1 == n) = false := by rw [← h1]; exact h3
      simp [getV, h3, h4]
    · split
      · simp [getV, h3]
      · have := getV_set_ne x n hn r
        simp only [getV] at this ⊢
        simp only [List.find?_cons, this]
theorem getV_none (n : Str) : ∀ V : Vs, (∀ z ∈ V, z.1 ≠ n) → getV V n = none
  | [], _ => rfl
  | y :: r, h => by
    have h1 : (y.1 == n) = false := by simpa using h y (by simp)
    have := getV_none n r fun z hz => h z (by simp [hz])
    simp only [getV] at this ⊢
    simp only [List.find?_cons, h1, this]
theorem fdV_get (n : Str) : ∀ {V : Vs}, ordV V = true → fdV n V = (getV V n).isSome
  | [], _ => rfl
  | y :: r, ho => by
    simp only [fdV]
    by_cases h1 : n = y.1
    · subst h1; simp [getV]
    · have h3 : (y.1 == n) = false := by simpa using fun e : y.1 = n => h1 e.symm
      by_cases h2 : Op.bytesLess n y.1 = true
      · rw [if_neg h1, if_pos h2, getV_none n (y :: r)]
        · rfl
        · intro z hz e
          rcases List.mem_cons.1 hz with rfl | hz
          · exact h1 e.symm
          · have := less_trans h2 (ordV_all ho z hz)
            rw [e, less_irrefl] at this; cases this
      · rw [if_neg h1, if_neg h2, fdV_get n (ordV_tail ho)]
        simp [getV, h3]

section
variable [XX]

theorem v11 (hX : FullV) (n : Nat) (hn : 3000702 ≤ n) : CP (F (n + 1)) 11 [] (.bool true) := by
  have hsh := shown_plain
  obtain ⟨n, rfl⟩ : ∃ q, n = q + 2 := ⟨n - 2, by omega⟩
  have c12 := v12 hX n [([97], [120, 32, 36, 40, 98, 41], false), ([98], [121], true), ([115], [112, 46, 99, 32, 113, 46, 99], true), ([102], [36, 40, 50, 41, 36, 40, 49, 41], false)] (by omega)
  rw [rowsL_ok _ (by decide) (by decide)] at c12
  simp only at hsh
  have hok : okV (rowsS [([97], [120, 32, 36, 40, 98, 41], false), ([98], [121], true), ([115], [112, 46, 99, 32, 113, 46, 99], true), ([102], [36, 40, 50, 41, 36, 40, 49, 41], false)]) 20 := by
    have := rowsL_good [([97], [120, 32, 36, 40, 98, 41], false), ([98], [121], true), ([115], [112, 46, 99, 32, 113, 46, 99], true), ([102], [36, 40, 50, 41, 36, 40, 49, 41], false)]
    rw [rowsL_ok _ (by decide) (by decide)] at this
    exact this.ok (by omega)
  simp only [rowAV, List.map_cons, List.map_nil, varAV, CP] at c12
  generalize rowsS [([97], [120, 32, 36, 40, 98, 41], false), ([98], [121], true), ([115], [112, 46, 99, 32, 113, 46, 99], true), ([102], [36, 40, 50, 41, 36, 40, 49, 41], false)] = A at *
  obtain ⟨e1, e2, e3, e4⟩ := hsh
  have c1 := v18 hX (n + 2) (by omega) A _ hok (show ([36, 40, 97, 41, 32, 36, 98, 36, 36] : Str).length ≤ 200000 by decide)
  have c2 := v18 hX (n + 2) (by omega) A _ hok (show ([36,40,115,58,46,99,61,46,111,41,32,36,40,102,111,114,101,97,99,104,32,105,44,36,40,115,41,44,60,36,40,105,41,62,41] : Str).length ≤ 200000 by decide)
  have c3 := v18 hX (n + 2) (by omega) A _ hok (show ([36,40,99,97,108,108,32,102,44,97,44,98,41] : Str).length ≤ 200000 by decide)
  have c4 := v18 hX (n + 2) (by omega) A _ hok (show ([36,40,105,102,32,44,120,44,121,41] : Str).length ≤ 200000 by decide)
  rw [e1] at c1
  rw [e2] at c2
  rw [e3] at c3
  rw [e4] at c4
  simp only [CP, varsAV, rowAV] at c1 c2 c3 c4 c12
  refine F_cp (rs := [.bool true]) (S := [.cells [rowAV A], .cells [rowAV A]]) rfl rfl ?_
  rw [F_fn rfl rfl rfl Tryz.func11 rfl]
  simp [runFn, Tryz.f11, c1, c2, c3, c4, c12, rowAV]

end
end Go.Proofs.YtmcfnnpihlediaaGreatDoor.Ex

/- Expanding, in plain Lean: more steps ahead change nothing but that they may be too many; a text behind a text. -/
namespace Go.Proofs.YtmcfnnpihlediaaGreatDoor.Ex
open Go

/-- Begun some steps later: the same, or too many. -/
def Sh1 (g : Nat → Str → Ans) : Prop := ∀ n k t x m, g n t = ((x, 0), m) → g (n + k) t = ((x, 0), m + k) ∨ (g (n + k) t).1 = ([], 12)
def ShE (E : Exp) : Prop := ∀ V, Sh1 (E V)

theorem ans0 {α : Type} {z : (α × Nat) × Nat} (h : z.1.2 = 0) : ∃ x m, z = ((x, 0), m) := ⟨z.1.1, z.2, by rw [← h]⟩

theorem shortS_0 {s y : Str} (h : shortS s = (y, 0)) : y = s ∧ s.length ≤ 4000 := by
  unfold shortS at h
  split at h
  · simp at h
  · rename_i hn
    injection h with h _
    exact ⟨h.symm, by omega⟩
theorem shortS_le {s : Str} (h : s.length ≤ 4000) : shortS s = (s, 0) := by unfold shortS; rw [if_neg (by omega)]

theorem allS_sh {ex : Nat → Str → Ans} (h : Sh1 ex) : ∀ (l : List Str) (n k : Nat) (xs : List Str) (m : Nat), allS ex n l = ((xs, 0), m) → allS ex (n + k) l = ((xs, 0), m + k) ∨ (allS ex (n + k) l).1 = ([], 12)
  | [], n, k, xs, m, ha => by
    simp only [allS, Prod.mk.injEq, and_true] at ha
    obtain ⟨rfl, rfl⟩ := ha
    exact .inl rfl
  | t :: r, n, k, xs, m, ha => by
    simp only [allS] at ha
    split at ha
    · rename_i h0
      obtain ⟨x, n1, he⟩ := ans0 h0
      rw [he] at ha
      simp only at ha
      split at ha
      · rename_i h1
        obtain ⟨ys, m1, hr⟩ := ans0 h1
        rw [hr] at ha
        simp only [Prod.mk.injEq, and_true] at ha
        obtain ⟨rfl, rfl⟩ := ha
        rcases h n k t x n1 he with e | e
        · rcases allS_sh h r n1 k ys m1 hr with e2 | e2
          · left; simp only [allS, e, e2, if_true]
          · right; simp only [allS, e, e2, if_true]; rfl
        · right; simp only [allS, e]; rfl
      · rename_i h1
        simp only [Prod.mk.injEq] at ha
        exact absurd ha.1.2 h1
    · rename_i h0
      simp only [Prod.mk.injEq] at ha
      exact absurd ha.1.2 h0

theorem wordsS_sh {of : Nat → Str → Ans} (h : Sh1 of) : Sh1 (wordsS of) := by
  intro n k t x m ha
  unfold wordsS at ha ⊢
  split at ha
  · rename_i h0
    obtain ⟨ys, m1, hr⟩ := ans0 h0
    rw [hr] at ha
    simp only [Prod.mk.injEq] at ha
    obtain ⟨h1, rfl⟩ := ha
    rcases allS_sh h _ n k ys m1 hr with e | e
    · left; rw [e]; simp only [if_true]; rw [h1]
    · right; rw [e]; rfl
  · rename_i h0
    simp only [Prod.mk.injEq] at ha
    exact absurd ha.1.2 h0

theorem turnedS_sh {E W : Exp} (hE : ShE E) (hW : ShE W) (V : Vs) (name p q : Str) (n k : Nat) (x : Str) (m : Nat) (ha : turnedS E W V n name p q = ((x, 0), m)) :
    turnedS E W V (n + k) name p q = ((x, 0), m + k) ∨ (turnedS E W V (n + k) name p q).1 = ([], 12) := by
  unfold turnedS at ha ⊢
  have hs := allS_sh (hE V) [name, p, q] n k
  generalize allS (E V) n [name, p, q] = z at ha hs
  generalize allS (E V) (n + k) [name, p, q] = z' at hs ⊢
  obtain ⟨⟨l, e⟩, n1⟩ := z
  obtain ⟨⟨l', e'⟩, n1'⟩ := z'
  simp only at ha ⊢
  by_cases h0 : e = 0
  · subst h0
    rw [if_pos rfl] at ha
    rcases hs l n1 rfl with hs | hs
    · simp only [Prod.mk.injEq] at hs
      obtain ⟨⟨rfl, rfl⟩, rfl⟩ := hs
      rw [if_pos rfl]
      split at ha
      · rename_i a p' q'
        have hw := hW V n1 k a
        generalize W V n1 a = y at ha hw
        generalize W V (n1 + k) a = y' at hw ⊢
        obtain ⟨⟨v, e2⟩, n2⟩ := y
        obtain ⟨⟨v', e2'⟩, n2'⟩ := y'
        simp only at ha ⊢
        by_cases h2 : e2 = 0
        · subst h2
          rw [if_pos rfl] at ha
          rcases hw v n2 rfl with hw | hw
          · simp only [Prod.mk.injEq] at hw
            obtain ⟨⟨rfl, rfl⟩, rfl⟩ := hw
            rw [if_pos rfl]
            exact wordsS_sh (fun n k t x m h => by
              simp only [Prod.mk.injEq, and_true] at h ⊢
              exact .inl ⟨h.1, by omega⟩) n2 k v' x m ha
          · simp only [Prod.mk.injEq] at hw
            obtain ⟨rfl, rfl⟩ := hw
            exact .inr rfl
        · rw [if_neg h2] at ha
          simp only [Prod.mk.injEq] at ha
          exact absurd ha.1.2 h2
      · simp only [Prod.mk.injEq, and_true] at ha
        obtain ⟨rfl, rfl⟩ := ha
        exact .inl rfl
    · simp only [Prod.mk.injEq] at hs
      obtain ⟨rfl, rfl⟩ := hs
      exact .inr rfl
  · rw [if_neg h0] at ha
    simp only [Prod.mk.injEq] at ha
    exact absurd ha.1.2 h0

theorem eachS_sh {E : Exp} (hE : ShE E) (V : Vs) (own c : Str) : Sh1 (eachS E V own c) := by
  intro n k w x m ha
  unfold eachS at ha ⊢
  split at ha
  · simp at ha
  · rename_i h
    split
    · exact .inr rfl
    · have := hE _ (n + 1) k c x m ha
      rwa [show n + 1 + k = n + k + 1 by omega] at this

theorem functionS_sh {E : Exp} (hE : ShE E) (V : Vs) (name : Str) (args : List Str) (n k : Nat) (x : Str) (m : Nat) (ha : functionS E V n name args = ((x, 0), m)) :
    functionS E V (n + k) name args = ((x, 0), m + k) ∨ (functionS E V (n + k) name args).1 = ([], 12) := by
  unfold functionS at ha ⊢
  split at ha
  · rename_i hif
    rw [if_pos hif]
    split at ha
    · rename_i a b r
      simp only
      have hs := hE V n k a
      generalize E V n a = z at ha hs
      generalize E V (n + k) a = z' at hs ⊢
      obtain ⟨⟨y, e⟩, n1⟩ := z
      obtain ⟨⟨y', e'⟩, n1'⟩ := z'
      simp only at ha ⊢
      by_cases h0 : e = 0
      · subst h0
        rw [if_pos rfl] at ha
        rcases hs y n1 rfl with hs | hs
        · simp only [Prod.mk.injEq] at hs
          obtain ⟨⟨rfl, rfl⟩, rfl⟩ := hs
          rw [if_pos rfl]
          split at ha
          · rename_i ht
            rw [if_pos ht]
            split at ha
            · simp only [Prod.mk.injEq, and_true] at ha
              obtain ⟨rfl, rfl⟩ := ha
              exact .inl rfl
            · exact hE V n1 k _ x m ha
          · rename_i ht
            rw [if_neg ht]
            exact hE V n1 k _ x m ha
        · simp only [Prod.mk.injEq] at hs
          obtain ⟨rfl, rfl⟩ := hs
          exact .inr rfl
      · rw [if_neg h0] at ha
        simp only [Prod.mk.injEq] at ha
        exact absurd ha.1.2 h0
    · simp only [Prod.mk.injEq, and_true] at ha
      obtain ⟨rfl, rfl⟩ := ha
      exact .inl rfl
  · rename_i hif
    rw [if_neg hif]
    split at ha
    · rename_i hfe
      rw [if_pos hfe]
      split at ha
      · rename_i a b c
        simp only
        have hs := allS_sh (hE V) [a, b] n k
        generalize allS (E V) n [a, b] = z at ha hs
        generalize allS (E V) (n + k) [a, b] = z' at hs ⊢
        obtain ⟨⟨l, e⟩, n1⟩ := z
        obtain ⟨⟨l', e'⟩, n1'⟩ := z'
        simp only at ha ⊢
        by_cases h0 : e = 0
        · subst h0
          rw [if_pos rfl] at ha
          rcases hs l n1 rfl with hs | hs
          · simp only [Prod.mk.injEq] at hs
            obtain ⟨⟨rfl, rfl⟩, rfl⟩ := hs
            rw [if_pos rfl]
            split at ha
            · exact wordsS_sh (eachS_sh hE V _ c) n1 k _ x m ha
            · simp only [Prod.mk.injEq, and_true] at ha
              obtain ⟨rfl, rfl⟩ := ha
              exact .inl rfl
          · simp only [Prod.mk.injEq] at hs
            obtain ⟨rfl, rfl⟩ := hs
            exact .inr rfl
        · rw [if_neg h0] at ha
          simp only [Prod.mk.injEq] at ha
          exact absurd ha.1.2 h0
      · simp only [Prod.mk.injEq, and_true] at ha
        obtain ⟨rfl, rfl⟩ := ha
        exact .inl rfl
    · rename_i hfe
      rw [if_neg hfe]
      have hs := allS_sh (hE V) args n k
      generalize allS (E V) n args = z at ha hs
      generalize allS (E V) (n + k) args = z' at hs ⊢
      obtain ⟨⟨l, e⟩, n1⟩ := z
      obtain ⟨⟨l', e'⟩, n1'⟩ := z'
      simp only at ha ⊢
      by_cases h0 : e = 0
      · subst h0
        rw [if_pos rfl] at ha
        rcases hs l n1 rfl with hs | hs
        · simp only [Prod.mk.injEq] at hs
          obtain ⟨⟨rfl, rfl⟩, rfl⟩ := hs
          rw [if_pos rfl]
          split at ha
          · rename_i hc
            rw [if_pos hc]
            split at ha
            · split at ha
              · simp only [Prod.mk.injEq, and_true] at ha
                obtain ⟨rfl, rfl⟩ := ha
                exact .inl rfl
              · exact hE _ n1 k _ x m ha
            · simp only [Prod.mk.injEq, and_true] at ha
              obtain ⟨rfl, rfl⟩ := ha
              exact .inl rfl
          · rename_i hc
            rw [if_neg hc]
            simp only [Prod.mk.injEq] at ha
            obtain ⟨h1, rfl⟩ := ha
            exact .inl (by rw [h1])
        · simp only [Prod.mk.injEq] at hs
          obtain ⟨rfl, rfl⟩ := hs
          exact .inr rfl
      · rw [if_neg h0] at ha
        simp only [Prod.mk.injEq] at ha
        exact absurd ha.1.2 h0

theorem restS_sh {E W : Exp} (hE : ShE E) (hW : ShE W) (V : Vs) : Sh1 (restS E W V) := by
  intro n k c x m ha
  unfold restS at ha ⊢
  split at ha
  · rename_i h
    rw [if_pos h]
    exact turnedS_sh hE hW V _ _ _ n k x m ha
  · rename_i h
    rw [if_neg h]
    split at ha
    · rename_i h0
      obtain ⟨y, n1, he⟩ := ans0 h0
      rw [he] at ha
      rcases hE V n k c y n1 he with e | e
      · rw [e]
        exact hW V n1 k y x m ha
      · right; rw [e]; rfl
    · rename_i h0
      simp only [Prod.mk.injEq] at ha
      exact absurd ha.1.2 h0

theorem bodyS_sh {E W : Exp} (hE : ShE E) (hW : ShE W) (V : Vs) : Sh1 (bodyS E W V) := by
  intro n k c x m ha
  unfold bodyS at ha ⊢
  split at ha
  · split at ha
    · rename_i h
      simp only [h, if_true]
      exact restS_sh hE hW V n k c x m ha
    · rename_i h
      simp only [h, if_false]
      split at ha
      · simp at ha
      · rename_i h2
        simp only [h2, if_false]
        exact functionS_sh hE V _ _ n k x m ha
  · exact restS_sh hE hW V n k c x m ha

def ShL (L : Option (Exp × Exp)) : Prop := ∀ p, L = some p → ShE p.1 ∧ ShE p.2

theorem refS_sh {L : Option (Exp × Exp)} (h : ShL L) (V : Vs) : Sh1 (refS L V) := by
  intro n k c x m ha
  cases L with
  | none => simp [refS] at ha
  | some p =>
    simp only [refS] at ha ⊢
    split at ha
    · simp at ha
    · split
      · exact .inr rfl
      · have := bodyS_sh (h p rfl).1 (h p rfl).2 V (n + 1) k c x m ha
        rwa [show n + 1 + k = n + k + 1 by omega] at this

theorem valS_sh {L : Option (Exp × Exp)} (h : ShL L) : ShE (valS L) := by
  intro V n k c x m ha
  unfold valS at ha ⊢
  split at ha
  · simp only [Prod.mk.injEq, and_true] at ha
    obtain ⟨rfl, rfl⟩ := ha
    exact .inl rfl
  · split at ha
    · rename_i hs
      simp only [Prod.mk.injEq, and_true] at ha
      obtain ⟨rfl, rfl⟩ := ha
      left
      simp only [hs, if_true]
    · rename_i hs
      simp only [if_neg hs]
      cases L with
      | none => simp at ha
      | some p =>
        simp only at ha ⊢
        split at ha
        · simp at ha
        · split
          · exact .inr rfl
          · have := (h p rfl).1 V (n + 1) k _ x m ha
            rwa [show n + 1 + k = n + k + 1 by omega] at this

theorem exT_sh {ref val : Nat → Str → Ans} (hr : Sh1 ref) (hv : Sh1 val) : ∀ (f : Nat) (acc : Str) (n : Nat) (t y : Str) (m : Nat), exT ref val f acc n t = ((y, 0), m) →
    ∃ w, shortS (acc ++ w) = (y, 0) ∧ ∀ acc' k, exT ref val f acc' (n + k) t = (shortS (acc' ++ w), m + k) ∨ (exT ref val f acc' (n + k) t).1 = ([], 12)
  | 0, acc, n, t, y, m, h => by simp [exT] at h
  | f + 1, acc, n, [], y, m, h => by
    simp only [exT, Prod.mk.injEq] at h
    obtain ⟨h1, rfl⟩ := h
    exact ⟨[], by simpa using h1, fun acc' k => .inl (by simp [exT])⟩
  | f + 1, acc, n, c :: r, y, m, h => by
    simp only [exT] at h ⊢
    by_cases hc : c = 36
    · rw [if_pos hc] at h
      simp only [if_pos hc]
      cases r with
      | nil => simp at h
      | cons d r' =>
        simp only at h ⊢
        by_cases hd : d = 36
        · rw [if_pos hd] at h
          simp only [if_pos hd]
          obtain ⟨w, h1, h2⟩ := exT_sh hr hv f _ n r' y m h
          exact ⟨36 :: w, by simpa using h1, fun acc' k => by have := h2 (acc' ++ [36]) k; simpa using this⟩
        · rw [if_neg hd] at h
          simp only [if_neg hd]
          by_cases ho : d = 40 ∨ d = 123
          · rw [if_pos ho] at h
            simp only [if_pos ho]
            split at h
            · simp at h
            · rename_i i hi
              split at h
              · rename_i h0
                obtain ⟨z, n1, he⟩ := ans0 h0
                rw [he] at h
                obtain ⟨w, h1, h2⟩ := exT_sh hr hv f _ n1 _ y m h
                refine ⟨z ++ w, by simpa using h1, fun acc' k => ?_⟩
                rcases hr n k _ z n1 he with e | e
                · rw [e]
                  have := h2 (acc' ++ z) k
                  simpa using this
                · right; rw [e]; rfl
              · rename_i h0
                simp only [Prod.mk.injEq] at h
                exact absurd h.1.2 h0
          · rw [if_neg ho] at h
            simp only [if_neg ho]
            split at h
            · rename_i h0
              obtain ⟨z, n1, he⟩ := ans0 h0
              rw [he] at h
              obtain ⟨w, h1, h2⟩ := exT_sh hr hv f _ n1 _ y m h
              refine ⟨z ++ w, by simpa using h1, fun acc' k => ?_⟩
              rcases hv n k _ z n1 he with e | e
              · rw [e]
                have := h2 (acc' ++ z) k
                simpa using this
              · right; rw [e]; rfl
            · rename_i h0
              simp only [Prod.mk.injEq] at h
              exact absurd h.1.2 h0
    · rw [if_neg hc] at h
      simp only [if_neg hc]
      obtain ⟨w, h1, h2⟩ := exT_sh hr hv f _ n r y m h
      exact ⟨c :: w, by simpa using h1, fun acc' k => by have := h2 (acc' ++ [c]) k; simpa using this⟩

theorem expS_sh {L : Option (Exp × Exp)} (h : ShL L) : ShE (expS L) := by
  intro V n k t x m ha
  obtain ⟨w, h1, h2⟩ := exT_sh (refS_sh h V) (valS_sh h V) _ [] n t x m ha
  have := h2 [] k
  rw [h1] at this
  exact this

theorem lev_sh : ∀ k, ShL (lev k)
  | 0 => fun p h => by cases h
  | k + 1 => fun p h => by
    simp only [lev, Option.some.injEq] at h
    subst h
    exact ⟨expS_sh (lev_sh k), valS_sh (lev_sh k)⟩

end Go.Proofs.YtmcfnnpihlediaaGreatDoor.Ex

/- A text behind a text; a text without a dollar sign. -/
namespace Go.Proofs.YtmcfnnpihlediaaGreatDoor.Ex
open Go

theorem opens_app {c : UInt8} {r : Str} (b : Str) (h : c ≠ 36 ∨ r ≠ []) : opens (c :: (r ++ b)) = opens (c :: r) := by
  cases r with
  | nil =>
    have hc : c ≠ 36 := by simpa using h
    cases b with
    | nil => rfl
    | cons d b => simp [opens, hc]
  | cons d r => rfl

theorem closeI_app (b : Str) : ∀ (f : Nat) (st s : Str) (i : Nat), (∀ d ∈ st, d = 41 ∨ d = 125) → closeI f st s = some i → closeI (f + b.length) st (s ++ b) = some i ∧ i < s.length
  | 0, _, _, _, _, h => by simp [closeI] at h
  | f + 1, st, [], i, _, h => by simp [closeI] at h
  | f + 1, st, c :: r, i, hst, h => by
    rw [show f + 1 + b.length = f + b.length + 1 by omega]
    by_cases hl : c = 36 ∧ r = []
    · obtain ⟨rfl, rfl⟩ := hl
      have hn : ∀ st : Str, closeI f st [] = none := fun st => by cases f <;> rfl
      cases st with
      | nil => simp [closeI, opens, hn] at h
      | cons d st =>
        have hd : ¬ (36 : UInt8) = d := fun e => by
          have := hst d (by simp)
          subst e; rcases this with h | h <;> exact absurd h (by decide)
        simp [closeI, opens, hd, hn] at h
    · have ho : opens (c :: (r ++ b)) = opens (c :: r) := opens_app b (by
        by_cases hc : c = 36
        · exact .inr fun e => hl ⟨hc, e⟩
        · exact .inl hc)
      simp only [List.cons_append, closeI, ho] at h ⊢
      cases hop : opens (c :: r) with
      | some d =>
        rw [hop] at h
        simp only [Option.map_eq_some_iff] at h ⊢
        obtain ⟨j, hj, rfl⟩ := h
        have hr : r ≠ [] := fun e => by subst e; simp [opens] at hop
        obtain ⟨e, r', rfl⟩ := List.exists_cons_of_ne_nil hr
        simp only [List.drop_succ_cons, List.drop_zero, List.cons_append] at hj ⊢
        have hd : d = 41 ∨ d = 125 := by
          simp only [opens] at hop
          split at hop
          · split at hop
            · injection hop with h; exact .inl h.symm
            · split at hop
              · injection hop with h; exact .inr h.symm
              · cases hop
          · cases hop
        have := closeI_app b f (d :: st) r' j (fun x hx => by rcases List.mem_cons.1 hx with rfl | hx; exact hd; exact hst x hx) hj
        exact ⟨⟨j, this.1, rfl⟩, by simp; omega⟩
      | none =>
        rw [hop] at h
        simp only at h ⊢
        cases st with
        | nil =>
          simp only [Option.map_eq_some_iff] at h ⊢
          obtain ⟨j, hj, rfl⟩ := h
          have := closeI_app b f [] r j (by simp) hj
          exact ⟨⟨j, this.1, rfl⟩, by simp; omega⟩
        | cons d st =>
          simp only at h ⊢
          by_cases hc : c = d
          · rw [if_pos hc] at h ⊢
            by_cases hs : st = []
            · rw [if_pos hs] at h ⊢
              injection h with h
              exact ⟨by rw [h], by rw [← h]; simp⟩
            · rw [if_neg hs] at h ⊢
              simp only [Option.map_eq_some_iff] at h ⊢
              obtain ⟨j, hj, rfl⟩ := h
              have := closeI_app b f st r j (fun x hx => hst x (by simp [hx])) hj
              exact ⟨⟨j, this.1, rfl⟩, by simp; omega⟩
          · rw [if_neg hc] at h ⊢
            simp only [Option.map_eq_some_iff] at h ⊢
            obtain ⟨j, hj, rfl⟩ := h
            have := closeI_app b f (d :: st) r j hst hj
            exact ⟨⟨j, this.1, rfl⟩, by simp; omega⟩

theorem exT_app (ref val : Nat → Str → Ans) (b : Str) : ∀ (f : Nat) (acc : Str) (n : Nat) (a x : Str) (m : Nat), a.length < f → exT ref val f acc n a = ((x, 0), m) → exT ref val (f + b.length) acc n (a ++ b) = exT ref val (b.length + 1) x m b ∧ x.length ≤ 4000
  | 0, _, _, _, _, _, h, _ => by omega
  | f + 1, acc, n, [], x, m, hf, h => by
    simp only [exT, Prod.mk.injEq] at h
    obtain ⟨h1, rfl⟩ := h
    obtain ⟨rfl, hl⟩ := shortS_0 h1
    rw [List.nil_append]
    exact ⟨exT_fuel ref val _ _ _ _ _ (by omega) (by omega), hl⟩
  | f + 1, acc, n, c :: r, x, m, hf, h => by
    simp only [List.length_cons] at hf
    rw [show f + 1 + b.length = f + b.length + 1 by omega]
    simp only [exT, List.cons_append] at h ⊢
    by_cases hc : c = 36
    · rw [if_pos hc] at h ⊢
      cases r with
      | nil => simp at h
      | cons d r' =>
        simp only [List.length_cons] at hf
        simp only [List.cons_append] at h ⊢
        by_cases hd : d = 36
        · rw [if_pos hd] at h ⊢
          exact exT_app ref val b f _ n r' x m (by omega) h
        · rw [if_neg hd] at h ⊢
          by_cases ho : d = 40 ∨ d = 123
          · rw [if_pos ho] at h ⊢
            split at h
            · simp at h
            · rename_i i hi
              have hcl := closeI_app b _ [] _ i (by simp) hi
              have e1 : (d :: (r' ++ b)).length + 2 = (d :: r').length + 2 + b.length := by simp; omega
              have e2 : c :: d :: (r' ++ b) = (c :: d :: r') ++ b := rfl
              rw [e1, e2, hcl.1]
              simp only
              have hil := hcl.2
              rw [List.take_append_of_le_length (by omega), List.drop_append_of_le_length (by omega)]
              split at h
              · rename_i h0
                rw [if_pos h0]
                exact exT_app ref val b f _ _ _ x m (by simp; omega) h
              · rename_i h0
                simp only [Prod.mk.injEq] at h
                exact absurd h.1.2 h0
          · rw [if_neg ho] at h ⊢
            split at h
            · rename_i h0
              rw [if_pos h0]
              exact exT_app ref val b f _ _ r' x m (by omega) h
            · rename_i h0
              simp only [Prod.mk.injEq] at h
              exact absurd h.1.2 h0
    · rw [if_neg hc] at h ⊢
      exact exT_app ref val b f _ n r x m (by omega) h

/-- What two texts come to, put together. -/
theorem expand_app (V : Vs) (a b x y : Str) (ha : expandS V a = (x, 0)) (hb : expandS V b = (y, 0)) :
    (expandS V (a ++ b) = (x ++ y, 0)) ∨ (expandS V (a ++ b) = ([], 3) ∧ 4000 < x.length + y.length) ∨ expandS V (a ++ b) = ([], 12) := by
  unfold expandS at ha hb ⊢
  obtain ⟨x', m, he⟩ := ans0 (z := expS (lev 20) V 0 a) (by rw [ha])
  rw [he] at ha
  simp only [Prod.mk.injEq, and_true] at ha
  subst ha
  obtain ⟨y', m2, he2⟩ := ans0 (z := expS (lev 20) V 0 b) (by rw [hb])
  rw [he2] at hb
  simp only [Prod.mk.injEq, and_true] at hb
  subst hb
  have h1 := exT_app (refS (lev 20) V) (valS (lev 20) V) b (a.length + 1) [] 0 a x' m (by omega) he
  obtain ⟨w, h2, h3⟩ := exT_sh (refS_sh (lev_sh 20) V) (valS_sh (lev_sh 20) V) _ [] 0 b y' m2 he2
  rw [List.nil_append] at h2
  obtain ⟨rfl, hw⟩ := shortS_0 h2
  have h4 := h3 x' m
  rw [Nat.zero_add] at h4
  rw [expS, show (a ++ b).length + 1 = a.length + 1 + b.length by simp; omega, h1.1]
  rcases h4 with h4 | h4
  · rw [h4]
    by_cases hl : 4000 < x'.length + y'.length
    · right; left
      exact ⟨by unfold shortS; rw [if_pos (by simpa using hl)], hl⟩
    · left
      exact shortS_le (by simp; omega)
  · exact .inr (.inr h4)

def escS : Str → Str
  | [] => []
  | c :: r => if c = 36 then 36 :: 36 :: escS r else c :: escS r

theorem exT_esc (ref val : Nat → Str → Ans) : ∀ (a : Str) (f : Nat) (acc : Str) (n : Nat), (escS a).length < f → exT ref val f acc n (escS a) = (shortS (acc ++ a), n)
  | [], f + 1, acc, n, _ => by simp [escS, exT]
  | c :: r, f + 1, acc, n, h => by
    by_cases hc : c = 36
    · subst hc
      simp only [escS, if_true, List.length_cons] at h
      simp only [escS, if_true, exT]
      rw [exT_esc ref val r f _ n (by omega)]
      simp
    · simp only [escS, if_neg hc, List.length_cons] at h
      simp only [escS, if_neg hc, exT]
      rw [exT_esc ref val r f _ n (by omega)]
      simp
  | _, 0, _, _, h => by omega

theorem expand_esc (V : Vs) (a : Str) (h : a.length ≤ 4000) : expandS V (escS a) = (a, 0) := by
  unfold expandS
  rw [expS, exT_esc _ _ a _ _ _ (by omega)]
  exact shortS_le (by simpa using h)

theorem escS_none : ∀ a : Str, 36 ∉ a → escS a = a
  | [], _ => rfl
  | c :: r, h => by
    have hc : c ≠ 36 := fun e => h (by simp [e])
    rw [escS, if_neg hc, escS_none r fun e => h (by simp [e])]
theorem escS_app : ∀ a b : Str, escS (a ++ b) = escS a ++ escS b
  | [], b => rfl
  | c :: r, b => by
    simp only [List.cons_append, escS]
    split <;> simp [escS_app r b]
theorem escS_len : ∀ a : Str, (escS a).length ≤ 2 * a.length
  | [] => by simp [escS]
  | c :: r => by
    have := escS_len r
    simp only [escS]
    split <;> simp <;> omega

end Go.Proofs.YtmcfnnpihlediaaGreatDoor.Ex

/- Assignments. -/
namespace Go.Proofs.YtmcfnnpihlediaaGreatDoor.Ex
open Go
attribute [-simp] rgn rgnD exec_seq exec_cond exec_block keepS

theorem expand_len (V : Vs) (a x : Str) (h : expandS V a = (x, 0)) : x.length ≤ 4000 := by
  unfold expandS at h
  obtain ⟨x', m, he⟩ := ans0 (z := expS (lev 20) V 0 a) (by rw [h])
  rw [he] at h
  simp only [Prod.mk.injEq, and_true] at h
  subst h
  exact (exT_app (refS (lev 20) V) (valS (lev 20) V) [] (a.length + 1) [] 0 a x' m (by omega) he).2

theorem expand_le (V : Vs) (t : Str) (h : (expandS V t).2 = 0) : (expandS V t).1.length ≤ 4000 := expand_len V t _ (by rw [← h])

def moreS (f : Bool) (old x : Str) : Str := if f = true then old ++ [32] ++ x else x
def assignS (V : Vs) (name op t : Str) : Vs × Nat :=
  if nameL name = false then ([], 1)
  else if op = [61] then (setV (name, t, false) V, 0)
  else if op = [58, 61] then (if (expandS V t).2 = 0 then (setV (name, (expandS V t).1, true) V, 0) else ([], (expandS V t).2))
  else if op = [63, 61] then (if (gotL V name).2 = true then (V, 0) else (setV (name, t, false) V, 0))
  else if op = [43, 61] then
    (if (gotL V name).1.2.2 = true then
      (if (expandS V t).2 = 0 then (setV (name, moreS (gotL V name).2 (gotL V name).1.2.1 (expandS V t).1, true) V, 0) else ([], (expandS V t).2))
    else (setV (name, moreS (gotL V name).2 (gotL V name).1.2.1 t, false) V, 0))
  else ([], 1)

section
variable [XX]
def FullM : Prop := FullV ∧ XX.m = some gName

theorem v30 (hM : FullM) (n : Nat) (s : Str) (hs : s.length ≤ 9223372036854775807) : CP (F (n + 1)) 30 [.str s] (.bool (nameL s)) :=
  F_ext (g := gName) (rs := [.bool (nameL s)]) hM.2 rfl rfl (by simp [gName, hs])

theorem got_len (V : Vs) (name : Str) (hV : okV V 20) : (gotL V name).1.2.1.length ≤ 200000 := by
  unfold gotL
  cases hg : getV V name with
  | none => simp
  | some x =>
    have := hV.2.2 x (List.mem_of_find?_eq_some hg)
    exact this

set_option maxHeartbeats 8000000 in
theorem v20 (hM : FullM) (n : Nat) (hn : 3000800 ≤ n) (V : Vs) (name op t : Str) (hV : okV V 20) (h1 : name.length ≤ 9223372036854775807) (ht : t.length ≤ 200000) :
    CP (F (n + 1)) 20 [varsAV V, .str name, .str op, .str t] (.tup [varsAV (assignS V name op t).1, .int .i64 (assignS V name op t).2]) := by
  obtain ⟨n, rfl⟩ : ∃ q, n = q + 2 := ⟨n - 2, by omega⟩
  have hX := hM.1
  have c30 := v30 hM (n + 1) name h1
  have c15 := v15 (n + 2) V name (by have := hV.2.1; omega) (by have := hV.2.1; omega)
  have c13 := v13 hX (n + 1) (by omega) V t hV ht
  have c19 := fun (y1 y2 : Str) (y3 : Bool) => v19 hX (n + 1) V (y1, y2, y3) hV.1 (by have := hV.2.1; omega)
  have hgl := got_len V name hV
  simp only [CP, varsAV, rowAV, varAV] at c30 c15 c13 c19
  have hrs : ∃ S, runFn Tryz.prog own1 (F (n + 2)) (n + 2) Tryz.f20 (Tryz.f20.body.getD .skip) [varsAV V, .str name, .str op, .str t] [] = some ([varsAV (assignS V name op t).1, .int .i64 (assignS V name op t).2], S) := by
    unfold assignS
    cases hnl : nameL name
    · simp [runFn, Tryz.f20, varsAV, rowAV, c30, hnl]
    · rw [hnl] at c30
      simp only [Bool.true_eq_false, if_false]
      by_cases o1 : op = [61]
      · subst o1
        simp [runFn, Tryz.f20, varsAV, rowAV, varAV, c30, c15, c19]
      · have o1' : (op == [61]) = false := by simpa using o1
        rw [if_neg o1]
        by_cases o2 : op = [58, 61]
        · subst o2
          rw [if_pos rfl]
          by_cases he : (expandS V t).2 = 0
          · rw [he] at c13
            simp [runFn, Tryz.f20, varsAV, rowAV, varAV, c30, c15, c19, c13, he]
          · have he' : (((expandS V t).2 : Int) != 0) = true := by simp; omega
            simp [runFn, Tryz.f20, varsAV, rowAV, varAV, c30, c15, c19, c13, he, he']
        · have o2' : (op == [58, 61]) = false := by simpa using o2
          rw [if_neg o2]
          by_cases o3 : op = [63, 61]
          · subst o3
            rw [if_pos rfl]
            cases hf : (gotL V name).2
            · rw [hf] at c15
              simp [runFn, Tryz.f20, varsAV, rowAV, varAV, c30, c15, c19]
            · rw [hf] at c15
              simp [runFn, Tryz.f20, varsAV, rowAV, varAV, c30, c15, c19]
          · have o3' : (op == [63, 61]) = false := by simpa using o3
            rw [if_neg o3]
            by_cases o4 : op = [43, 61]
            · subst o4
              rw [if_pos rfl]
              have hxl := expand_le V t
              generalize gotL V name = g at *
              obtain ⟨⟨gn, gt, gs⟩, gf⟩ := g
              simp only at hgl c15
              generalize expandS V t = xe at *
              obtain ⟨x, e⟩ := xe
              simp only at c13 hxl
              have l1 : gt.length + 1 ≤ 9223372036854775807 := by omega
              have l2 : gt.length + 1 + t.length ≤ 9223372036854775807 := by omega
              have l4 : gt.length + (t.length + 1) ≤ 9223372036854775807 := by omega
              cases gs
              · cases gf
                · simp [runFn, Tryz.f20, varsAV, rowAV, varAV, c30, c15, c19, moreS]
                · simp [runFn, Tryz.f20, varsAV, rowAV, varAV, c30, c15, c19, moreS, l1, l2, l4]
              · by_cases he : e = 0
                · have hxl := hxl he
                  have l3 : gt.length + 1 + x.length ≤ 9223372036854775807 := by omega
                  have l5 : gt.length + (x.length + 1) ≤ 9223372036854775807 := by omega
                  subst he
                  cases gf
                  · simp [runFn, Tryz.f20, varsAV, rowAV, varAV, c30, c15, c19, c13, moreS]
                  · simp [runFn, Tryz.f20, varsAV, rowAV, varAV, c30, c15, c19, c13, moreS, l1, l3, l5]
                · have he' : ((e : Int) != 0) = true := by simp; omega
                  simp [runFn, Tryz.f20, varsAV, rowAV, varAV, c30, c15, c19, c13, he, he']
            · have o4' : (op == [43, 61]) = false := by simpa using o4
              rw [if_neg o4]
              simp [runFn, Tryz.f20, varsAV, rowAV, varAV, c30, c15, o1', o2', o3', o4']
  obtain ⟨S, h⟩ := hrs
  refine F_cp (rs := [varsAV (assignS V name op t).1, .int .i64 (assignS V name op t).2]) (S := S) (by simp only [noBoxL, noBox, varsAV, noBox_row, Bool.and_self]) (by simp only [noBoxL, noBox, varsAV, noBox_row, Bool.and_self]) ?_
  rw [F_fn rfl rfl rfl Tryz.func20 rfl]
  exact h

end
end Go.Proofs.YtmcfnnpihlediaaGreatDoor.Ex

/- The rows' frame, where parse.Name is told of too. -/
namespace Go.Proofs.YtmcfnnpihlediaaGreatDoor.Ex
open Go Go.RowKit Go.Shelf

/-- parse.Name is told of, too. -/
@[reducible] def X2 : XX := ⟨some gOne, some gJoined, some gSet, none, none, some gName⟩
theorem full2 : @FullM X2 := ⟨⟨⟨rfl, rfl⟩, rfl⟩, rfl⟩
theorem ext_2 {W : World} (hW : Good W) : ∀ f g, @ext0 X2 f = some g → callable Tryz.prog f = true ∧ FnOK Tryz.prog (GW W) own1 f g :=
  @ext_all W X2 hW (@XOK.mk X2 W (fun g h => by injection h with h; subst h; exact ⟨by kernel_rfl, ok26 hW⟩) (fun g h => by injection h with h; subst h; exact ⟨by kernel_rfl, ok47 hW⟩)
    (fun g h => by injection h with h; subst h; exact ⟨by kernel_rfl, ok19 hW⟩) (fun g h => by cases h) (fun g h => by cases h) (fun g h => by injection h with h; subst h; exact ⟨by kernel_rfl, ok30⟩))

/-- A walked law: the machine's call. -/
theorem law_calls2 {W : World} (hW : Good W) {n : Nat} {f : FuncId} {avs : List AV} {R : Reads} {args : List Value} (h : CP (@F X2 n) f avs (.bool true)) (hs : Stab R W) (ha : VRs R [] args avs) :
    Calls Tryz.prog f args.toArray W fun e w' => e = .returned (.bool true) ∧ Below W.heap.size W w' := by
  simp only [CP, callP] at h
  split at h
  case isFalse => cases h
  split at h
  case h_2 => cases h
  rename_i rs S hF
  split at h
  case isFalse => cases h
  rename_i hnr
  injection h with h
  refine (@calls_of W X2 (ext_2 hW) n f R W args avs rs S (Below.refl _ _) hs ha hF (noPan_of hnr)).mono fun e w' hp => ?_
  obtain ⟨vs, R', bl, rfl, hv', hst, hsr, ho⟩ := hp
  refine ⟨?_, stp_below hst⟩
  match rs, vs, hv', h with
  | [r], [u], hv', h =>
    have h1 := hv'.2 0 (by simp) (by simp)
    simp only [packAV] at h
    subst h
    simp only [List.getElem_cons_zero] at h1
    rw [h1.bool_inv]; rfl
  | [], vs, hv', h => cases h
  | _ :: _ :: _, _, _, h => cases h
  | [r], [], hv', h => exact absurd hv'.1 (by simp)
  | [r], _ :: _ :: _, hv', h => exact absurd hv'.1 (by simp)

end Go.Proofs.YtmcfnnpihlediaaGreatDoor.Ex

/- What a law is handed: an assignment, a row of them. -/
namespace Go.Proofs.YtmcfnnpihlediaaGreatDoor.Ex
open Go Go.RowKit Go.Shelf Go.ChangeShapes Go.WideShapes Go.ChangeAt
set_option maxRecDepth 100000

/-- An assignment: a name, a sign, a text. -/
abbrev AL := Str × Str × Str
def actAV (x : AL) : AV := .agg [.str x.1, .str x.2.1, .str x.2.2]
def actsAV (l : List AL) : AV := .sl 3 (l.map actAV)

theorem vr_act {R : Reads} {M : List Nat} (s t u : ByteArray) : VR R M (.agg #[.string s, .string t, .string u]) (actAV (s.data.toList, t.data.toList, u.data.toList)) :=
  .agg _ _ rfl fun i h1 h2 => by
    have hi : i < 3 := by simpa using h1
    match i, hi with
    | 0, _ => exact vr_string s
    | 1, _ => exact vr_string t
    | 2, _ => exact vr_string u

section
variable {H : Type} {enc : TypeId × Value → H} {w : World} {base : Nat} {spare : Nat → Bool} {held : Bool}

theorem cells_act {fuel : Nat} {cs : List Value} {x : DataW H × List MemPlace} (h : DataW.trod enc Tryz.prog w base spare held fuel 51 cs = some x) : ∃ s t u, cs = [.string s, .string t, .string u] := by
  obtain ⟨y0, y1, y2, n, rfl, hl, h0, h1, h2⟩ := Deep.trod_struct3 Tryz.underlying51 h
  have c51 : Tryz.prog.cellsOf 51 = 3 := by kernel_rfl
  have c9 : Tryz.prog.cellsOf 9 = 1 := by kernel_rfl
  rw [c51] at hl
  match cs, hl with
  | [v0, v1, v2], _ =>
    simp only [c9, List.drop_zero, List.drop_succ_cons, List.take_succ_cons, List.take_zero] at h0 h1 h2
    obtain ⟨s, e0, _⟩ := DataW.trod_string Tryz.underlying9 h0
    obtain ⟨t, e1, _⟩ := DataW.trod_string Tryz.underlying9 h1
    obtain ⟨u, e2, _⟩ := DataW.trod_string Tryz.underlying9 h2
    simp only [List.cons.injEq, and_true] at e0 e1 e2
    exact ⟨s, t, u, by rw [e0, e1, e2]⟩

theorem open_act {r : Reach} {b0 : Nat} {v : Value} {d : DataW H} {ps : List MemPlace} (hval : Value.okWide Tryz.prog w r b0 51 v) (hd : DataW.Trod enc Tryz.prog w base spare held 51 v d ps) :
    ∃ s t u, v = .agg #[.string s, .string t, .string u] ∧ s.data.toList.length ≤ 9223372036854775807 := by
  have hval' := hval
  obtain ⟨cs, rfl, hsz⟩ := okWide_struct Tryz.underlying51 hval
  obtain ⟨fuel, hf⟩ := hd
  obtain ⟨s, t, u, hcs⟩ := cells_act hf
  have hcs' : cs = #[.string s, .string t, .string u] := by
    simp only [Value.cells] at hcs
    apply Array.toList_inj.1
    simpa using hcs
  subst hcs'
  refine ⟨s, t, u, rfl, ?_⟩
  simp only [Value.okWide, Tryz.underlying51] at hval'
  obtain ⟨cs, he, _, ts, hts, _, hc⟩ := hval'
  injection he with he
  subst he
  have ets : Tryz.prog.cellTypes Tryz.prog.depth 51 = some [9, 9, 9] := by kernel_rfl
  rw [ets] at hts
  injection hts with hts
  subst hts
  obtain ⟨u', hu, hok⟩ := hc 0 (.string s) rfl
  simp at hu
  subst hu
  simp only [Cell.okWide, Cell.ok, Tryz.underlying9, IntKind.max] at hok
  have e : s.data.toList.length = s.size := by simp
  rw [e]
  have h9 : (s.size : Int) ≤ 9223372036854775807 := by simpa [IntKind.signed, IntKind.bits] using hok
  omega

theorem open_acts {r : Reach} {b0 : Nat} {v : Value} {d : DataW H} {ps : List MemPlace} (hval : Value.okWide Tryz.prog w r b0 49 v) (hd : DataW.Trod enc Tryz.prog w base spare held 49 v d ps) :
    ∃ V : List AL, VR (Mem w) [] v (actsAV V) := by
  obtain ⟨a', len', cap', rfl⟩ := okWide_slice Tryz.underlying49 hval
  obtain ⟨fuel, hf⟩ := hd
  rcases Deep.open_slice Tryz.underlying49 hf with ⟨hcs, _⟩ | ⟨a, len, cap, m, n, D, Pl, hcs, hb, hlc, hcm, hm, _, hx⟩
  · simp [Value.cells] at hcs
    obtain ⟨rfl, rfl, rfl⟩ := hcs
    exact ⟨[], .slnil 3⟩
  · simp [Value.cells] at hcs
    obtain ⟨rfl, rfl, rfl⟩ := hcs
    have hlm : len' ≤ m := by rw [hm]; split <;> omega
    have c51 : Tryz.prog.cellsOf 51 = 3 := by kernel_rfl
    have each : ∀ i, i < len' → ∃ x : AL, w.cell? (a.add (i * 3)) = some (.string ⟨x.1.toArray⟩) ∧ w.cell? (a.add (i * 3 + 1)) = some (.string ⟨x.2.1.toArray⟩) ∧ w.cell? (a.add (i * 3 + 2)) = some (.string ⟨x.2.2.toArray⟩) := fun i hi => by
      obtain ⟨cs', h1, h2⟩ := hx i (by omega)
      rw [c51] at h1
      obtain ⟨_, hlen, hcell⟩ := World.cells?_some h1
      obtain ⟨s, t, b, rfl⟩ := cells_act h2
      refine ⟨(s.data.toList, t.data.toList, b.data.toList), ?_, ?_, ?_⟩
      · have := hcell 0 (by omega)
        rw [Deep.add_add] at this
        simpa using this
      · have := hcell 1 (by omega)
        rw [Deep.add_add] at this
        simpa using this
      · have := hcell 2 (by omega)
        rw [Deep.add_add] at this
        simpa using this
    haveI : Inhabited AL := ⟨([], [], [])⟩
    obtain ⟨X, hX⟩ := Deep.choose_lt each
    refine ⟨(List.range len').map X, .sl a len' cap' 3 _ (fun i j => (([.string ⟨(X i).1.toArray⟩, .string ⟨(X i).2.1.toArray⟩, .string ⟨(X i).2.2.toArray⟩] : List Value)[j]?).getD Go.undef) (by simp) hlc (fun i hi => by simp [actAV, AV.cells]) ?_ ?_⟩
    · intro i j hi hj
      have hi' : i < len' := by simpa using hi
      obtain ⟨h0, h1, h2⟩ := hX i hi'
      match j, hj with
      | 0, _ => exact ⟨h0, rfl⟩
      | 1, _ => exact ⟨h1, rfl⟩
      | 2, _ => exact ⟨h2, rfl⟩
    · intro i j hi hj
      have hj' : j < 3 := by simpa [actAV, AV.cells] using hj
      simp only [List.getElem_map, List.getElem_range]
      match j, hj' with
      | 0, _ => exact .str _
      | 1, _ => exact .str _
      | 2, _ => exact .str _
end

end Go.Proofs.YtmcfnnpihlediaaGreatDoor.Ex
