/- Part 5 of the proof: what is walked and what is not, the pure interpreter over the code and its soundness, plain laws. -/
import Derived.Test.YtmcfnnpihlediaaGreatDoorVp4
import Derived.LoopTactic
import Derived.Handy
import Derived.Test.YtmcfnnpihlediaaGreatDoorCards
import Derived.Test.YtmcfnnpihlediaaGreatDoorTie
import Derived.OpenShut
import Derived.ProofKit
import Derived.ChangeMaps5
import Derived.Deep.DeepHandedRow
import Derived.Deep.DeepWitnessRowRef
import Derived.Lib.LaidTab
import Derived.Lib.LaidIn
import Derived.Stop.LaidErr
import Derived.Carry
import Derived.Deep.Strs
import Derived.Deep.Slices
set_option linter.unusedSimpArgs false
set_option linter.unusedVariables false
set_option linter.unusedSectionVars false

/- joined: the loop. -/
namespace Go.Proofs.YtmcfnnpihlediaaGreatDoor.Ex
open Go Go.RowKit Go.Shelf

theorem zip_len : ∀ a b : List Str, (zipAdd a b).length = max a.length b.length
  | a, [] => by cases a <;> simp [zipAdd]
  | [], y :: b => by simp [zipAdd]
  | x :: a, y :: b => by simp only [zipAdd, List.length_cons, zip_len a b]; omega
theorem zip_nil_left (b : List Str) : zipAdd [] b = b := by cases b <;> rfl
theorem zip_nil_right (a : List Str) : zipAdd a [] = a := by cases a <;> rfl
theorem zip_store : ∀ (a b : List Str) (k : Nat) (hk : k < b.length) (ha : k < (zipAdd a (b.take k)).length) (hka : k < a.length), zipAdd a (b.take (k + 1)) = (zipAdd a (b.take k)).set k ((zipAdd a (b.take k))[k] ++ b[k])
  | [], b, k, hk, ha, hka => by simp at hka
  | x :: a, [], k, hk, _, _ => by simp at hk
  | x :: a, y :: b, 0, hk, _, _ => by simp [zipAdd, zip_nil_right]
  | x :: a, y :: b, k + 1, hk, ha, hka => by
    have ih := zip_store a b k (by simpa using hk) (by simpa [zipAdd] using ha) (by simpa using hka)
    simp only [List.take_succ_cons, zipAdd, List.set_cons_succ, List.getElem_cons_succ]
    rw [ih]
theorem zip_app : ∀ (a b : List Str) (k : Nat) (hk : k < b.length) (hka : a.length ≤ k), zipAdd a (b.take (k + 1)) = zipAdd a (b.take k) ++ [b[k]]
  | [], b, k, hk, _ => by rw [zip_nil_left, zip_nil_left, List.take_succ_eq_append_getElem hk]
  | x :: a, b, 0, hk, hka => by simp at hka
  | x :: a, [], k, hk, _ => by simp at hk
  | x :: a, y :: b, k + 1, hk, hka => by
    have ih := zip_app a b k (by simpa using hk) (by simpa using hka)
    simp only [List.take_succ_cons, zipAdd, List.getElem_cons_succ, List.cons_append]
    rw [ih]

theorem OwnStrs.mono_world {base : Nat} {w w' : World} {v : Value} {l : List Str} (h : OwnStrs base w v l) (hsz : w.heap.size ≤ w'.heap.size) (hb : ∀ b, blockOf v = some b → b < w.heap.size → w'.heap[b]? = w.heap[b]?) : OwnStrs base w' v l := by
  rcases h with h | ⟨b, c, cur, e, rfl, h1, h2, h3, h4, h5, h6, h7⟩
  · exact .inl h
  · exact .inr ⟨b, c, cur, e, rfl, h1, by omega, by rw [hb b rfl h2]; exact h3, h4, h5, h6, h7⟩

def strV (s : Str) : Value := .string ⟨s.toArray⟩

/-- The loop's state: the row so far, and the other row as it was. -/
structure JJ (w : World) (bB : Nat) (LA LB : List Str) (k : Nat) (v : Value) (wr : World) : Prop where
  own : OwnStrs w.heap.size wr v (zipAdd LA (LB.take k))
  below : Below w.heap.size w wr
  ne : blockOf v ≠ some bB
  lt : bB < wr.heap.size
  base : w.heap.size ≤ bB
  cells : ∀ (i : Nat) (hi : i < LB.length), wr.cell? ⟨bB, i, none⟩ = some (strV LB[i])

section
variable {w wr : World} {bB k : Nat} {LA LB : List Str} {v : Value}

theorem JJ.len (h : JJ w bB LA LB k v wr) (hk : k ≤ LB.length) : ∃ A c, v = .slice A (max LA.length k) c := by
  have hl : (zipAdd LA (LB.take k)).length = max LA.length k := by rw [zip_len]; simp; omega
  rcases h.own with ⟨h1, rfl⟩ | ⟨b, c, cur, e, rfl, _⟩
  · refine ⟨none, 0, ?_⟩
    rw [h1] at hl; simp at hl; rw [← hl]
  · exact ⟨_, c, by rw [hl]⟩

theorem JJ.at (h : JJ w bB LA LB k v wr) (hk : k < LB.length) (hka : k < LA.length) : ∃ b c, ∃ x : Str, x ∈ zipAdd LA (LB.take k) ∧ v = .slice (some ⟨b, 0, none⟩) LA.length c ∧ wr.cell? ⟨b, k, none⟩ = some (strV x) ∧ wr.frozen? ⟨b, k, none⟩ = false ∧
    JJ w bB LA LB (k + 1) v (wr.setCell ⟨b, k, none⟩ (strV (x ++ LB[k]))) := by
  have hl : (zipAdd LA (LB.take k)).length = LA.length := by rw [zip_len]; simp; omega
  rcases h.own with ⟨h1, rfl⟩ | ⟨b, c, cur, e, rfl, h1, h2, h3, h4, h5, h6, h7⟩
  · rw [h1] at hl; simp at hl; omega
  · have hkl : k < (zipAdd LA (LB.take k)).length := by omega
    refine ⟨b, c, (zipAdd LA (LB.take k))[k], List.getElem_mem hkl, by rw [hl], by rw [cells_of_block h3]; exact h7 k hkl, by simp [World.frozen?, h3], ?_⟩
    have hblk : (wr.setCell ⟨b, k, none⟩ (strV ((zipAdd LA (LB.take k))[k] ++ LB[k]))).heap[b]? = some (.cells (cur.setIfInBounds k (strV ((zipAdd LA (LB.take k))[k] ++ LB[k]))) e (0, 0)) := by
      simp [World.setCell, Array.getElem?_modify, h3]
    have hoth : ∀ i, i ≠ b → (wr.setCell ⟨b, k, none⟩ (strV ((zipAdd LA (LB.take k))[k] ++ LB[k]))).heap[i]? = wr.heap[i]? := fun i hi => Below.heap_setCell _ _ _ _ hi
    have hbB : bB ≠ b := fun e => h.ne (by rw [e]; rfl)
    refine ⟨.inr ⟨b, c, cur.setIfInBounds k (strV ((zipAdd LA (LB.take k))[k] ++ LB[k])), e, ?_, h1, by simpa [World.setCell] using h2, hblk, ?_, h5, by simpa using h6, ?_⟩, h.below.setCell h1 _, h.ne, by simpa [World.setCell] using h.lt, h.base, ?_⟩
    · rw [zip_store LA LB k hk hkl hka, List.length_set]
    · rw [zip_store LA LB k hk hkl hka, List.length_set]; exact h4
    · intro i hi
      rw [zip_store LA LB k hk hkl hka, List.length_set] at hi
      rw [Array.getElem?_setIfInBounds]
      by_cases e : k = i
      · subst e
        rw [if_pos rfl, if_pos (by omega)]
        simp only [zip_store LA LB k hk hkl hka, List.getElem_set_self]
        rfl
      · rw [if_neg e]
        simp only [zip_store LA LB k hk hkl hka, List.getElem_set_ne e]
        exact h7 i hi
    · intro i hi
      rw [World.cell?_of_block (hoth bB hbB)]
      exact h.cells i hi

theorem JJ.alloc (h : JJ w bB LA LB k v wr) (o : Obj) : JJ w bB LA LB k v (wr.alloc o) := by
  have hsz : (wr.alloc o).heap.size = wr.heap.size + 1 := by simp
  have hold : ∀ i, i < wr.heap.size → (wr.alloc o).heap[i]? = wr.heap[i]? := fun i hi => Below.heap_alloc _ _ _ hi
  refine ⟨h.own.mono_world (by omega) (fun b _ hb => hold b hb), h.below.alloc h.below.size o, h.ne, by have := h.lt; omega, h.base, fun i hi => ?_⟩
  rw [World.cell?_of_block (hold bB h.lt)]
  exact h.cells i hi

theorem JJ.app (h : JJ w bB LA LB k v wr) (hk : k < LB.length) (hka : LA.length ≤ k) {v' : Value} {w' : World} (ho : OwnStrs w.heap.size w' v' (zipAdd LA (LB.take k) ++ [LB[k]])) (hg : Grew wr v w' v') : JJ w bB LA LB (k + 1) v' w' := by
  have hbl : ∀ b, blockOf v = some b → w.heap.size ≤ b := by
    intro b hb
    rcases h.own with ⟨_, rfl⟩ | ⟨b', c, cur, e, rfl, h1, _⟩
    · cases hb
    · have : b' = b := by simpa [blockOf] using hb
      omega
  have hbB : some bB ≠ blockOf v := fun e => h.ne e.symm
  refine ⟨by rw [zip_app LA LB k hk hka]; exact ho, h.below.trans ⟨hg.os, hg.tape, hg.output, hg.size, fun i hi => hg.blk i (by have := h.below.size; omega) fun e => by have := hbl i e.symm; omega⟩, fun e => ?_, by have := hg.size; have := h.lt; omega, h.base, fun i hi => ?_⟩
  · rcases hg.row bB e with h1 | h1
    · exact h.ne h1
    · have := h.lt; omega
  · rw [World.cell?_of_block (hg.blk bB h.lt hbB)]
    exact h.cells i hi
end

theorem new_cell (w : World) (v : Value) (t : TypeId) : (w.alloc (.cells #[v] t)).cell? ⟨w.heap.size, 0, none⟩ = some v := by
  have : (w.alloc (.cells #[v] t)).heap[w.heap.size]? = some (.cells #[v] t (0, 0)) := by
    show (w.heap.push _)[w.heap.size]? = _
    simp
  rw [cells_of_block this]; rfl

theorem JJ.fresh {w wr : World} {bB k : Nat} {LA LB : List Str} {v : Value} (h : JJ w bB LA LB k v wr) : blockOf v ≠ some wr.heap.size := by
  rcases h.own with ⟨_, rfl⟩ | ⟨b, c, cur, e, rfl, _, h2, _⟩
  · intro e; cases e
  · intro e
    have : b = wr.heap.size := by simpa [blockOf] using e
    omega

theorem wrap64n (k : Nat) (h : k ≤ 1000000000) : IntKind.wrap .i64 ((k : Int) + 1) = (k : Int) + 1 := wrap64 (by omega) (by omega)

set_option maxHeartbeats 4000000 in
theorem joined_walk (sA sB r : ByteArray) (w : World) (LA LB : List Str) (hA : LA.length ≤ 200000) (hB : LB.length ≤ 200000) (hw1 : ∀ (k : Nat) (x : Str), x ∈ zipAdd LA (LB.take k) → x.length ≤ 1000000) (hw2 : ∀ y ∈ LB, y.length ≤ 1000000) (Q1 : Value → World → Prop) (P4 : World → Prop)
    (c1 : Calls Tryz.prog 110 #[.string sA] w fun e w1 => ∃ vA, e = .returned vA ∧ Q1 vA w1)
    (c2 : ∀ vA w1, Q1 vA w1 → Calls Tryz.prog 110 #[.string sB] w1 fun e w2 => ∃ bB cB, e = .returned (.slice (some ⟨bB, 0, none⟩) LB.length cB) ∧ JJ w bB LA LB 0 vA w2)
    (c3 : ∀ bB v w3, JJ w bB LA LB LB.length v w3 → Calls Tryz.prog 111 #[v] w3 fun e w4 => e = .returned (.string r) ∧ P4 w4) :
    Calls Tryz.prog 144 #[.string sA, .string sB] w fun e w' => e = .returned (.string r) ∧ P4 w' := by
  have H1 := Lib.hid hw1
  have H2 := Lib.hid hw2
  clear hw1 hw2
  go_enter Tryz.func144, Tryz.ntmps144
  go_wp2_with (first
    | (go_at_call 110; ((with_reducible refine c1.mono ?_); rintro e w1 ⟨vA, rfl, q1⟩))
    | (go_at_call 110; ((with_reducible refine (c2 _ _ (by assumption)).mono ?_); rintro e w2 ⟨bB, cB, rfl, q2⟩))
    | fail)
  go_loopw [5, 7, 8, 15] (fun v _ _ i wr => ∃ k : Nat, k ≤ LB.length ∧ i = .int .i64 k ∧ JJ w bB LA LB k v wr) (fun _ _ _ i _ => LB.length - (Go.RowKit.intOf i).toNat)
  case atStart => exact ⟨0, Nat.zero_le _, rfl, q2⟩
  case round =>
    obtain ⟨k, hk, rfl, hJ⟩ := hrel
    by_cases hlt : k < LB.length
    · have hcB := hJ.cells k hlt
      have hy := H2.out _ (List.getElem_mem hlt)
      by_cases hka : k < LA.length
      · obtain ⟨b, c, x, hx, hv, hcA, hfA, hJ'⟩ := hJ.at hlt hka
        have hxl := H1.out k x hx
        subst hv
        generalize LB[k] = y at *
        have hcat : (⟨x.toArray⟩ : ByteArray) ++ ⟨y.toArray⟩ = ⟨(x ++ y).toArray⟩ := by
          apply ByteArray.ext; simp [ByteArray.data_append]
        have hs1 := sz x
        have hs2 := sz y
        have hn1 : ¬ ((9223372036854775807 : Int) < (x.length : Int) + (y.length : Int)) := by omega
        unfold strV at hcB hcA hJ'
        have HJ := Lib.hid hJ'
        have HX := Lib.hid hx
        clear hJ' hx hJ q2
        go_wp2
        go_roundw
        case rel => exact ⟨k + 1, by omega, by go_num, by have := HJ.out; rw [← hcat] at this; exact this⟩
        case measure => simp [Go.RowKit.intOf]; omega
      · obtain ⟨A, c, hv⟩ := hJ.len hk
        have hmax : max LA.length k = k := by omega
        rw [hmax] at hv
        subst hv
        unfold strV at hcB
        have hlenL : (zipAdd LA (LB.take k)).length ≤ 1000000000 := by rw [zip_len]; simp; omega
        have HL := Lib.hid hlenL
        clear hlenL q2 hmax
        go_wp2_with (first
          | (at_builtin; refine wpList_app _ 31 33 _ _ _ w.heap.size _ (zipAdd LA (LB.take k)) LB[k] ⟨wr.heap.size, 0, none⟩ 1 rfl rfl (hJ.alloc _).own (hJ.alloc _).below.size (Nat.le_refl _) (new_cell _ _ _) hJ.fresh HL.out ?_; intro v' w' hown' hgrew)
          | fail)
        go_roundw
        case rel => exact ⟨k + 1, by omega, by go_num, (hJ.alloc _).app hlt (by omega) hown' hgrew⟩
        case measure => simp [Go.RowKit.intOf]; omega
    · have : k = LB.length := by omega
      subst this
      obtain ⟨A, c, hv⟩ := hJ.len hk
      subst hv
      go_wp2_with (first | (go_at_call 111; refine (c3 _ _ _ hJ).mono ?_; rintro e w4 ⟨rfl, h4⟩) | fail)
      go_ret
      exact ⟨rfl, h4⟩

theorem zip_mem (M N : Nat) : ∀ (a b : List Str), (∀ x ∈ a, x.length ≤ M) → (∀ y ∈ b, y.length ≤ N) → ∀ z ∈ zipAdd a b, z.length ≤ M + N
  | a, [], ha, hb, z, hz => by rw [zip_nil_right] at hz; have := ha z hz; omega
  | [], y :: b, ha, hb, z, hz => by rw [zip_nil_left] at hz; have := hb z hz; omega
  | x :: a, y :: b, ha, hb, z, hz => by
    simp only [zipAdd, List.mem_cons] at hz
    rcases hz with rfl | hz
    · have := ha x (by simp); have := hb y (by simp); simp; omega
    · exact zip_mem M N a b (fun x hx => ha x (by simp [hx])) (fun y hy => hb y (by simp [hy])) z hz

set_option maxHeartbeats 4000000 in
theorem joined_walk0 (sA sB r : ByteArray) (w : World) (Q1 Q2 : Value → World → Prop) (P4 : World → Prop)
    (c1 : Calls Tryz.prog 110 #[.string sA] w fun e w1 => ∃ vA, e = .returned vA ∧ Q1 vA w1)
    (c2 : ∀ vA w1, Q1 vA w1 → Calls Tryz.prog 110 #[.string sB] w1 fun e w2 => ∃ A c, e = .returned (.slice A 0 c) ∧ Q2 vA w2)
    (c3 : ∀ v w3, Q2 v w3 → Calls Tryz.prog 111 #[v] w3 fun e w4 => e = .returned (.string r) ∧ P4 w4) :
    Calls Tryz.prog 144 #[.string sA, .string sB] w fun e w' => e = .returned (.string r) ∧ P4 w' := by
  go_enter Tryz.func144, Tryz.ntmps144
  go_wp2_with (first
    | (go_at_call 110; ((with_reducible refine c1.mono ?_); rintro e w1 ⟨vA, rfl, q1⟩))
    | (go_at_call 110; ((with_reducible refine (c2 _ _ (by assumption)).mono ?_); rintro e w2 ⟨A, c, rfl, q2⟩))
    | fail)
  go_loopw [5, 7, 8, 15] (fun v _ _ i wr => v = vA ∧ i = .int .i64 0 ∧ Q2 vA wr) (fun _ _ _ _ _ => 0)
  case atStart => exact ⟨rfl, rfl, q2⟩
  case round =>
    obtain ⟨rfl, rfl, hq⟩ := hrel
    go_wp2_with (first | (go_at_call 111; refine (c3 _ _ (by assumption)).mono ?_; rintro e w4 ⟨rfl, h4⟩) | fail)
    go_ret
    exact ⟨rfl, h4⟩

theorem joined_all {W w : World} (hW : Good W) (hP : Below W.heap.size W w) (s t : Str) (hs : s.length ≤ 100000) (ht : t.length ≤ 100000) :
    Calls Tryz.prog 144 #[.string ⟨s.toArray⟩, .string ⟨t.toArray⟩] w fun e w' => e = .returned (.string ⟨(joinL [32] (zipAdd (wordsL s) (wordsL t))).toArray⟩) ∧ Below w.heap.size w w' := by
  have l1 := wordsL_len s
  have l2 := wordsL_len t
  have room : (joinL [32] (zipAdd (wordsL s) (wordsL t))).length ≤ lim := by
    have h1 := zip_sum (wordsL s) (wordsL t)
    have h2 := wordsL_sum s
    have h3 := wordsL_sum t
    have h4 := join_length_le (zipAdd (wordsL s) (wordsL t))
    unfold lim; omega
  have c1 : Calls Tryz.prog 110 #[.string ⟨s.toArray⟩] w fun e w1 => ∃ vA, e = .returned vA ∧ (Below w.heap.size w w1 ∧ OwnStrs w.heap.size w1 vA (wordsL s)) :=
    (words_calls hW hP s (by omega)).mono fun e w1 ⟨v, h1, h2, h3⟩ => ⟨v, h1, h2, h3⟩
  have join : ∀ v w3 l, (joinL [32] l).length ≤ lim → Below w.heap.size w w3 → OwnStrs w.heap.size w3 v l → Calls Tryz.prog 111 #[v] w3 fun e w4 => e = .returned (.string ⟨(joinL [32] l).toArray⟩) ∧ Below w.heap.size w w4 := by
    intro v w3 l hl hb ho
    refine (join_calls hW (hP.trans (hb.mono hP.size)) l hl v ?_).mono fun e w4 ⟨h1, h2⟩ => ⟨h1, hb.trans (h2.mono hb.size)⟩
    rcases ho with ⟨h1, h2⟩ | ⟨b, c, cur, e, rfl, h1, h2, h3, h4, h5, h6, h7⟩
    · exact .inl ⟨h1, .inl h2⟩
    · by_cases hl0 : l = []
      · exact .inl ⟨hl0, .inr ⟨⟨b, 0, none⟩, c, by rw [hl0]; rfl⟩⟩
      · exact .inr ⟨hl0, b, c, rfl, h4, fun i hi => by rw [cells_of_block h3]; exact h7 i hi⟩
  have c2 : ∀ vA w1, (Below w.heap.size w w1 ∧ OwnStrs w.heap.size w1 vA (wordsL s)) → Calls Tryz.prog 110 #[.string ⟨t.toArray⟩] w1 fun e w2 => ∃ v, e = .returned v ∧ Below w.heap.size w w2 ∧ OwnStrs w.heap.size w2 vA (wordsL s) ∧
      OwnStrs w1.heap.size w2 v (wordsL t) ∧ (∀ b, blockOf vA = some b → b < w1.heap.size) := by
    rintro vA w1 ⟨hb1, ho1⟩
    refine (words_calls hW (hP.trans (hb1.mono hP.size)) t (by omega)).mono fun e w2 ⟨v, h1, h2, h3⟩ => ⟨v, h1, hb1.trans (h2.mono hb1.size), ho1.mono_world h2.size (fun b _ hb => h2.block b hb), h3, fun b hb => ?_⟩
    rcases ho1 with ⟨_, rfl⟩ | ⟨b', c, cur, e, rfl, _, h4, _⟩
    · cases hb
    · have : b' = b := by simpa [blockOf] using hb
      omega
  by_cases hB : wordsL t = []
  · rw [hB, zip_nil_right] at room ⊢
    refine joined_walk0 _ _ _ w _ (fun v w2 => Below w.heap.size w w2 ∧ OwnStrs w.heap.size w2 v (wordsL s)) (fun w4 => Below w.heap.size w w4) c1 (fun vA w1 h => (c2 vA w1 h).mono fun e w2 ⟨v, h1, h2, h3, h4, _⟩ => ?_) (fun v w3 ⟨h1, h2⟩ => join v w3 _ room h1 h2)
    rw [hB] at h4
    rcases h4 with ⟨_, rfl⟩ | ⟨b, c, cur, e, rfl, _⟩
    · exact ⟨none, 0, h1, h2, h3⟩
    · exact ⟨_, c, h1, h2, h3⟩
  · refine joined_walk _ _ _ w (wordsL s) (wordsL t) (by omega) (by omega) (fun k x hx => ?_) (fun y hy => by have := wordsL_mem t y hy; omega) _ (fun w4 => Below w.heap.size w w4) c1 (fun vA w1 h => (c2 vA w1 h).mono fun e w2 ⟨v, h1, h2, h3, h4, h5⟩ => ?_)
      (fun bB v w3 h => join v w3 _ room h.below (by have := h.own; rwa [List.take_length] at this))
    · have := zip_mem s.length t.length (wordsL s) ((wordsL t).take k) (fun x hx => wordsL_mem s x hx) (fun y hy => wordsL_mem t y (List.mem_of_mem_take hy)) x hx
      omega
    · rcases h4 with ⟨h, _⟩ | ⟨b, c, cur, e, rfl, g1, g2, g3, g4, g5, g6, g7⟩
      · exact absurd h hB
      · refine ⟨b, c, h1, by rw [List.take_zero, zip_nil_right]; exact h3, h2, fun e => ?_, g2, by have := h.1.size; omega, fun i hi => by rw [cells_of_block g3]; exact g7 i hi⟩
        have := h5 b e; omega

theorem ok47 {W : World} (hW : Good W) : FnOK Tryz.prog (GW W) own1 144 gJoined := by
  refine ext_ok rfl fun R w args avs rs hP hs hargs hg => ?_
  unfold gJoined at hg
  split at hg
  · rename_i s t
    split at hg
    · rename_i hl
      injection hg with hg; subst hg
      rw [hargs.str2]
      exact ⟨[.string ⟨(joinL [32] (zipAdd (wordsL s) (wordsL t))).toArray⟩], fun R' M => vrs_one (.str _), joined_all hW hP s t hl.1 hl.2⟩
    · cases hg
  · cases hg

/-- What the laws are walked over. -/
@[reducible] def X1 : XX := ⟨some gOne, some gJoined, some gSet, none, none, none⟩
theorem full1 : @Full X1 := ⟨rfl, rfl⟩
theorem ext_1 {W : World} (hW : Good W) : ∀ f g, @ext0 X1 f = some g → callable Tryz.prog f = true ∧ FnOK Tryz.prog (GW W) own1 f g :=
  @ext_all W X1 hW (@XOK.mk X1 W (fun g h => by injection h with h; subst h; exact ⟨by kernel_rfl, ok26 hW⟩) (fun g h => by injection h with h; subst h; exact ⟨by kernel_rfl, ok47 hW⟩)
    (fun g h => by injection h with h; subst h; exact ⟨by kernel_rfl, ok19 hW⟩) (fun g h => by cases h) (fun g h => by cases h) (fun g h => by cases h))
end Go.Proofs.YtmcfnnpihlediaaGreatDoor.Ex

/- The rows' frame: what is laid, a world that fits, what a walked law comes to. -/
namespace Go.Proofs.YtmcfnnpihlediaaGreatDoor.Ex
open Go Go.RowKit Go.Shelf Go.ChangeShapes Go.WideShapes Go.ChangeAt

theorem own0 : ownKnob Tryz.prog.godebug = none := by kernel_rfl
theorem star0 : "*" ++ "errors.errorString" = "*errors.errorString" := by decide
theorem row222 (u : TypeId) (h : Tryz.prog.typeName? 3 u = some "*errors.errorString") : u = 222 :=
  typeName_ptr_named (nm := "errors.errorString") (by rw [star0]; kernel_rfl) (by kernel_rfl) (by decide) u (by rw [star0]; exact h)

/-- A table's cells. -/
def flatD (d : DataW Unit) : List Value :=
  match d with
  | .agg l => l.flatMap fun x => match x with
    | .lit (.int k n) => [.int k n]
    | .agg m => m.flatMap fun y => match y with
      | .lit (.int k n) => [.int k n]
      | _ => []
    | _ => []
  | _ => []

/-- A world for the witness: the settled one, the two errors' structs behind it, the variables holding what their initialisers lay. -/
noncomputable def laidWorld (os : Os) : World :=
  let N := (World.settled Tryz.prog os).heap.size
  let w0 := World.holding Tryz.prog os ⟨#[.cells #[.string ⟨#[105, 110, 118, 97, 108, 105, 100, 32, 115, 121, 110, 116, 97, 120]⟩] 224, .cells #[.string ⟨#[118, 97, 108, 117, 101, 32, 111, 117, 116, 32, 111, 102, 32, 114, 97, 110, 103, 101]⟩] 224], #[], []⟩
  let put (h : Array Obj) (g : Nat) (cs : Array Value) : Array Obj := h.modify g fun
    | .cells _ t frozen => .cells cs t frozen
    | o => o
  let h0 := put (put w0.heap 6 #[.iface 222 (.pointer (some ⟨N, 0, none⟩))]) 7 #[.iface 222 (.pointer (some ⟨N + 1, 0, none⟩))]
  let h1 := put h0 3 (flatD Rows.laid_internal_strconv_uint64pow10).toArray
  let h2 := put h1 1 (flatD Rows.laid_unicode_utf8_first).toArray
  let h3 := put h2 2 (flatD Rows.laid_unicode_utf8_acceptRanges).toArray
  let h4 := put h3 4 (flatD Rows.laid_math_bits_deBruijn32tab).toArray
  let h5 := put h4 5 (flatD Rows.laid_math_bits_deBruijn64tab).toArray
  { w0 with heap := h5 }

/-- What all the rows of this seat list. -/
noncomputable abbrev laidL : List (String × DataW Unit) := Rows.varsSetsRow.laid

theorem laid_met (os : Os) (args : Array Value) : laidMet Tryz.prog laidL ((laidWorld os).forCall (fun _ _ => 0) ⟨#[], args, []⟩).memory :=
  laidMet_of_run' 8 (by kernel_rfl) (by kernel_rfl)

theorem tab_eq : Rows.laid_internal_strconv_uint64pow10 = Lib.tabData (H := Unit) .u64 Lib.pow10Tab := by kernel_rfl

/-- What the row's list gives. -/
theorem good_of {W : World} (hL : laidMetH Tryz.prog laidL W) (hsh : W.ShapedOpen Tryz.prog) : Good W := by
  have hL' : laidMet Tryz.prog laidL W := hL
  have ml : ∃ m, W.cell? ⟨0, 0, none⟩ = some (.int .i64 m) :=
    Go.Proofs.cell_of_shapedOpen_int (zero := #[.int .i64 0]) (t := 3) hsh (of_decide_eq_true (by kernel_rfl)) (by kernel_rfl) rfl (by kernel_rfl) (by kernel_rfl) Tryz.underlying3
  have h3 : laidMet Tryz.prog (("internal/strconv.uint64pow10", Lib.tabData .u64 Lib.pow10Tab) :: [("unicode/utf8.acceptRanges", Rows.laid_unicode_utf8_acceptRanges), ("strconv.ErrRange", Rows.laid_strconv_ErrRange), ("strconv.ErrSyntax", Rows.laid_strconv_ErrSyntax), ("unicode/utf8.first", Rows.laid_unicode_utf8_first)]) W := by
    have := hL'.tail.tail
    rw [tab_eq] at this
    exact this
  obtain ⟨a1, t1, hv1, hc1, ht1, _⟩ := laid_sentinel (g := 7) h3.tail.tail (by kernel_rfl) (by kernel_rfl) Tryz.underlying81 row222 Tryz.underlying222 Tryz.underlying224 rfl rfl Tryz.underlying9 (by kernel_rfl) (by kernel_rfl)
  obtain ⟨a0, t0, hv0, hc0, ht0, _⟩ := laid_sentinel (g := 6) h3.tail.tail.tail (by kernel_rfl) (by kernel_rfl) Tryz.underlying81 row222 Tryz.underlying222 Tryz.underlying224 rfl rfl Tryz.underlying9 (by kernel_rfl) (by kernel_rfl)
  refine ⟨ml, ?_, ?_, Lib.tabIs_of_head (rest := _) (g := 3) (t := 200) (e := 181) (n := 20) (by kernel_rfl) (by kernel_rfl) Tryz.underlying200 Tryz.underlying181 (by kernel_rfl) (by kernel_rfl) h3⟩
  · exact ⟨222, _, by simpa using World.var?_cell (by kernel_rfl) hv0 0⟩
  · exact ⟨222, _, by simpa using World.var?_cell (by kernel_rfl) hv1 0⟩

/-- A walked law: the machine's call. -/
theorem law_calls {W : World} (hW : Good W) {n : Nat} {f : FuncId} {avs : List AV} {R : Reads} {args : List Value} (h : CP (@F X1 n) f avs (.bool true)) (hs : Stab R W) (ha : VRs R [] args avs) :
    Calls Tryz.prog f args.toArray W fun e w' => e = .returned (.bool true) ∧ Below W.heap.size W w' := by
  simp only [CP, callP] at h
  split at h
  case isFalse => cases h
  split at h
  case h_2 => cases h
  rename_i rs S hF
  split at h
  case isFalse => cases h
  injection h with h
  refine (@calls_of W X1 (ext_1 hW) n f R W args avs rs S (Below.refl _ _) hs ha hF).mono fun e w' hp => ?_
  obtain ⟨vs, R', bl, rfl, hv', hst, hsr, ho⟩ := hp
  refine ⟨?_, stp_below hst⟩
  match rs, vs, hv', h with
  | [r], [u], hv', h =>
    have h1 := hv'.2 0 (by simp) (by simp)
    simp only [packAV] at h
    subst h
    simp only [List.getElem_cons_zero] at h1
    rw [h1.bool_inv]; rfl
  | [], vs, hv', h => cases h
  | _ :: _ :: _, _, _, h => cases h
  | [r], [], hv', h => exact absurd hv'.1 (by simp)
  | [r], _ :: _ :: _, hv', h => exact absurd hv'.1 (by simp)

theorem vr_string {R : Reads} {M : List Nat} (s : ByteArray) : VR R M (.string s) (.str s.data.toList) := by
  have : s = ⟨s.data.toList.toArray⟩ := by cases s; simp
  conv => lhs; rw [this]
  exact .str _

theorem fullV1 : @FullV X1 := ⟨full1, rfl⟩
theorem laidOut : laidOutB Tryz.prog = true := by kernel_rfl

set_option maxRecDepth 100000

theorem vr_var {R : Reads} {M : List Nat} (s t : ByteArray) (b : Bool) : VR R M (.agg #[.string s, .string t, .bool b]) (varAV (s.data.toList, t.data.toList, b)) :=
  .agg _ _ rfl fun i h1 h2 => by
    have hi : i < 3 := by simpa using h1
    match i, hi with
    | 0, _ => exact vr_string s
    | 1, _ => exact vr_string t
    | 2, _ => exact .bool b

section
variable {H : Type} {enc : TypeId × Value → H} {w : World} {base : Nat} {spare : Nat → Bool} {held : Bool}

/-- The three cells of a variable. -/
theorem cells_var {fuel : Nat} {cs : List Value} {x : DataW H × List MemPlace} (h : DataW.trod enc Tryz.prog w base spare held fuel 36 cs = some x) : ∃ s t b, cs = [.string s, .string t, .bool b] := by
  obtain ⟨y0, y1, y2, n, rfl, hl, h0, h1, h2⟩ := Deep.trod_struct3 Tryz.underlying36 h
  have c36 : Tryz.prog.cellsOf 36 = 3 := by kernel_rfl
  have c9 : Tryz.prog.cellsOf 9 = 1 := by kernel_rfl
  have c4 : Tryz.prog.cellsOf 4 = 1 := by kernel_rfl
  rw [c36] at hl
  match cs, hl with
  | [v0, v1, v2], _ =>
    simp only [c9, c4, List.drop_zero, List.drop_succ_cons, List.take_succ_cons, List.take_zero] at h0 h1 h2
    obtain ⟨s, e0, _⟩ := DataW.trod_string Tryz.underlying9 h0
    obtain ⟨t, e1, _⟩ := DataW.trod_string Tryz.underlying9 h1
    obtain ⟨b, e2, _⟩ := DataW.trod_bool Tryz.underlying4 h2
    simp only [List.cons.injEq, and_true] at e0 e1 e2
    exact ⟨s, t, b, by rw [e0, e1, e2]⟩

theorem open_var {r : Reach} {b0 : Nat} {v : Value} {d : DataW H} {ps : List MemPlace} (hval : Value.okWide Tryz.prog w r b0 36 v) (hd : DataW.Trod enc Tryz.prog w base spare held 36 v d ps) :
    ∃ s t b, v = .agg #[.string s, .string t, .bool b] := by
  obtain ⟨cs, rfl, hsz⟩ := okWide_struct Tryz.underlying36 hval
  obtain ⟨fuel, hf⟩ := hd
  obtain ⟨s, t, b, hcs⟩ := cells_var hf
  refine ⟨s, t, b, ?_⟩
  simp only [Value.cells] at hcs
  congr 1
  apply Array.toList_inj.1
  simpa using hcs

theorem open_vars {r : Reach} {b0 : Nat} {v : Value} {d : DataW H} {ps : List MemPlace} (hval : Value.okWide Tryz.prog w r b0 22 v) (hd : DataW.Trod enc Tryz.prog w base spare held 22 v d ps) :
    ∃ V : Vs, VR (Mem w) [] v (rowAV V) := by
  obtain ⟨a', len', cap', rfl⟩ := okWide_slice Tryz.underlying22 hval
  obtain ⟨fuel, hf⟩ := hd
  rcases Deep.open_slice Tryz.underlying22 hf with ⟨hcs, _⟩ | ⟨a, len, cap, m, n, D, Pl, hcs, hb, hlc, hcm, hm, _, hx⟩
  · simp [Value.cells] at hcs
    obtain ⟨rfl, rfl, rfl⟩ := hcs
    exact ⟨[], .slnil 3⟩
  · simp [Value.cells] at hcs
    obtain ⟨rfl, rfl, rfl⟩ := hcs
    have hlm : len' ≤ m := by rw [hm]; split <;> omega
    have c36 : Tryz.prog.cellsOf 36 = 3 := by kernel_rfl
    have each : ∀ i, i < len' → ∃ x : VL, w.cell? (a.add (i * 3)) = some (.string ⟨x.1.toArray⟩) ∧ w.cell? (a.add (i * 3 + 1)) = some (.string ⟨x.2.1.toArray⟩) ∧ w.cell? (a.add (i * 3 + 2)) = some (.bool x.2.2) := fun i hi => by
      obtain ⟨cs', h1, h2⟩ := hx i (by omega)
      rw [c36] at h1
      obtain ⟨_, hlen, hcell⟩ := World.cells?_some h1
      obtain ⟨s, t, b, rfl⟩ := cells_var h2
      refine ⟨(s.data.toList, t.data.toList, b), ?_, ?_, ?_⟩
      · have := hcell 0 (by omega)
        rw [Deep.add_add] at this
        simpa using this
      · have := hcell 1 (by omega)
        rw [Deep.add_add] at this
        simpa using this
      · have := hcell 2 (by omega)
        rw [Deep.add_add] at this
        simpa using this
    haveI : Inhabited VL := ⟨([], [], false)⟩
    obtain ⟨X, hX⟩ := Deep.choose_lt each
    refine ⟨(List.range len').map X, .sl a len' cap' 3 _ (fun i j => ((vrow [X i])[j]?).getD Go.undef) (by simp) hlc (fun i hi => by simp [varAV, AV.cells]) ?_ ?_⟩
    · intro i j hi hj
      have hi' : i < len' := by simpa using hi
      obtain ⟨h0, h1, h2⟩ := hX i hi'
      match j, hj with
      | 0, _ => exact ⟨h0, rfl⟩
      | 1, _ => exact ⟨h1, rfl⟩
      | 2, _ => exact ⟨h2, rfl⟩
    · intro i j hi hj
      have hj' : j < 3 := by simpa [varAV, AV.cells] using hj
      have key : ∀ (x : VL) (j : Nat) (_ : j < 3) (hj : j < (varAV x).cells.length), VR (Mem w) [] (((vrow [x])[j]?).getD Go.undef) ((varAV x).cells[j]) := fun x j hj _ => by
        match j, hj with
        | 0, _ => exact .str _
        | 1, _ => exact .str _
        | 2, _ => exact .bool _
      simp only [List.getElem_map, List.getElem_range]
      exact key _ _ hj' (by simp [varAV, AV.cells]; omega)
end

end Go.Proofs.YtmcfnnpihlediaaGreatDoor.Ex
