/- The law VarsSimple of chapter 11 holds: for every input the call returns true, and each argument reads afterwards as it read before. Conditions: the listed variables of Go's library hold what their initialisers lay (the card ties them to the program's text). -/
import Derived.Test.YtmcfnnpihlediaaGreatDoorVp5
import Derived.LoopTactic
import Derived.Handy
set_option linter.unusedSimpArgs false
set_option linter.unusedVariables false
set_option linter.unusedSectionVars false

/- Names, in plain Lean. -/
namespace Go.Proofs.YtmcfnnpihlediaaGreatDoor.Ex
open Go
def nameN (n : Int) : Bool := (decide (65 ≤ n) && decide (n ≤ 90)) || (decide (97 ≤ n) && decide (n ≤ 122)) || (decide (48 ≤ n) && decide (n ≤ 57)) || decide (n = 95) || decide (n = 45) || decide (n = 46)
def nameC (c : UInt8) : Bool := nameN c.toNat
def nameL (s : Str) : Bool := !(s == []) && decide (s.length ≤ 40) && s.all nameC
def gName (avs : List AV) : Option (List AV) :=
  match avs with
  | [.str s] => if s.length ≤ 9223372036854775807 then some [.bool (nameL s)] else none
  | _ => none
end Go.Proofs.YtmcfnnpihlediaaGreatDoor.Ex

/- parse.Name on the machine. -/
namespace Go.Proofs.YtmcfnnpihlediaaGreatDoor.Ex
open Go Go.RowKit Go.Shelf

theorem row_byte (s : ByteArray) (cap j : Nat) (w : World) (fz : Nat × Nat) (hj : j < s.data.size) : (w.alloc (.cells (bytesRow s cap) 5 fz)).cell? ⟨w.heap.size, j, none⟩ = some (.int .u8 (s.data[j].toNat : Int)) := by
  rw [cells_of_block (heap_alloc_new w _)]
  exact bytesRow_at s cap j hj

theorem wp_convert_run {P : Program} {w w' : World} {o : Oper} {a : Act} {K : Act → World → Prop} {Q : Exit → Act → World → Prop} {src dst : TypeId} {x : Operand} {v v' : Value}
    (ho : o.op = .convert src dst x) (hx : a.eval x = v) (hr : (convert src dst v).run P w = .ok v' w') (h : K (a.put o.dst v') w') : o.wp P a w K Q := by
  unfold Oper.wp execOp
  simp only [ho, hx, Sem.run_bind, hr, Result.andThen_ok, Sem.run_pure]
  exact h

theorem wpList_convert_run {P : Program} {w w' : World} {ops : Array Oper} {rest : List Oper} {o : Oper} {a : Act} {Q : Exit → Act → World → Prop} {src dst : TypeId} {x : Operand} {v v' : Value} (hgd : o.guard = none)
    (ho : o.op = .convert src dst x) (hx : a.eval x = v) (hr : (convert src dst v).run P w = .ok v' w') (h : wpList P ops Q rest (a.put o.dst v') w') : wpList P ops Q (o :: rest) a w :=
  wpList_plain hgd fun _ hK => wp_convert_run ho hx hr (hK _ _ h)

set_option maxHeartbeats 8000000 in
set_option maxRecDepth 100000 in
theorem name_walk (l : Str) (w : World) (hl : l.length ≤ 9223372036854775807) :
    Calls Tryz.prog 30 #[.string ⟨l.toArray⟩] w fun e w' => e = .returned (.bool (nameL l)) ∧ Below w.heap.size w w' := by
  obtain ⟨cap, hcap⟩ : ∃ cap, cap = grownCap w (⟨l.toArray⟩ : ByteArray).size 0 5 := ⟨_, rfl⟩
  obtain ⟨w1, hw1⟩ : ∃ w1, w1 = w.drew.alloc (.cells (bytesRow ⟨l.toArray⟩ cap) 5 ((bytesRow ⟨l.toArray⟩ cap).size, (bytesRow ⟨l.toArray⟩ cap).size + 1)) := ⟨_, rfl⟩
  have hcv : (convert 9 75 (.string ⟨l.toArray⟩)).run Tryz.prog w = .ok (.slice (some ⟨w.heap.size, 0, none⟩) l.length cap) w1 := by
    rw [hw1, hcap]
    exact run_bytes_of_string (P := Tryz.prog) w 9 75 5 ⟨l.toArray⟩ Tryz.underlying9 Tryz.underlying75 Tryz.underlying5
  have hcell : ∀ j (hj : j < l.length), w1.cell? ⟨w.heap.size, j, none⟩ = some (.int .u8 (l[j].toNat : Int)) := fun j hj => by
    rw [hw1]; exact row_byte ⟨l.toArray⟩ cap j w.drew _ (by simpa using hj)
  have hbel : Below w.heap.size w w1 := by
    rw [hw1]; exact (Below.refl _ w).drew.alloc (by simp) _
  have hlc : l.length ≤ cap := by rw [hcap]; exact grownCap_ge w _ 0 5
  clear hw1 hcap
  have hl2 : (l.length : Int) ≤ 9223372036854775807 := by omega
  have HC := Lib.hid hcell
  clear hcell
  go_enter Tryz.func30, Tryz.ntmps30
  go_wp2_with (refine wpList_convert_run rfl rfl rfl hcv ?_)
  go_loopw [4, 8, 12] (fun _ i _ wr => ∃ k : Nat, k ≤ l.length ∧ i = .int .i64 k ∧ (l.take k).all nameC = true ∧ wr = w1) (fun _ i _ _ => l.length - (Go.RowKit.intOf i).toNat)
  case atStart => exact ⟨0, Nat.zero_le _, rfl, by simp, rfl⟩
  case round =>
    obtain ⟨k, hk, rfl, hall, rfl⟩ := hrel
    by_cases hlt : k < l.length
    · have hc := HC.out k hlt
      have hat := List.take_succ_eq_append_getElem hlt
      obtain ⟨n, hn⟩ : ∃ n : Int, n = (l[k].toNat : Int) := ⟨_, rfl⟩
      have h0 : 0 ≤ n := by omega
      have hnc : nameC l[k] = nameN n := by rw [hn]; rfl
      rw [← hn] at hc
      have h255 : n ≤ 255 := by have := l[k].toNat_lt; omega
      have hw1 : IntKind.i64.wrap ((k : Int) + 1) = (k : Int) + 1 := wrap64 (by omega) (by omega)
      have hk0 : (0 : Int) ≤ (k : Int) := by omega
      clear hn hl hlc
      rcases (show (0 ≤ n ∧ n ≤ 44) ∨ (45 ≤ n ∧ n ≤ 45) ∨ (46 ≤ n ∧ n ≤ 46) ∨ (47 ≤ n ∧ n ≤ 47) ∨ (48 ≤ n ∧ n ≤ 57) ∨ (58 ≤ n ∧ n ≤ 64) ∨ (65 ≤ n ∧ n ≤ 90) ∨ (91 ≤ n ∧ n ≤ 94) ∨ (95 ≤ n ∧ n ≤ 95) ∨ (96 ≤ n ∧ n ≤ 96) ∨ (97 ≤ n ∧ n ≤ 122) ∨ (123 ≤ n ∧ n ≤ 255) by omega) with hr | hr | hr | hr | hr | hr | hr | hr | hr | hr | hr | hr
      · obtain ⟨r1, r2⟩ := hr
        have f0 : ¬ ((65 : Int) ≤ n) := by omega
        have f1 : (n ≤ (90 : Int)) := by omega
        have f2 : ¬ ((97 : Int) ≤ n) := by omega
        have f3 : (n ≤ (122 : Int)) := by omega
        have f4 : ¬ ((48 : Int) ≤ n) := by omega
        have f5 : (n ≤ (57 : Int)) := by omega
        have f6 : ¬ (n = (95 : Int)) := by omega
        have f7 : ¬ (n = (45 : Int)) := by omega
        have f8 : ¬ (n = (46 : Int)) := by omega
        have hN : nameN n = false := by unfold nameN; simp only [f0, f1, f2, f3, f4, f5, f6, f7, f8, decide_true, decide_false]; rfl
        clear r1 r2
        go_wp2
        go_ret
        refine ⟨?_, hbel⟩
        have : l.all nameC = false := by
          rw [← Bool.not_eq_true, List.all_eq_true]
          intro h
          have := h l[k] (List.getElem_mem hlt)
          rw [hnc, hN] at this; cases this
        rw [nameL, this, Bool.and_false]
        rfl
      · obtain ⟨r1, r2⟩ := hr
        have f0 : ¬ ((65 : Int) ≤ n) := by omega
        have f1 : (n ≤ (90 : Int)) := by omega
        have f2 : ¬ ((97 : Int) ≤ n) := by omega
        have f3 : (n ≤ (122 : Int)) := by omega
        have f4 : ¬ ((48 : Int) ≤ n) := by omega
        have f5 : (n ≤ (57 : Int)) := by omega
        have f6 : ¬ (n = (95 : Int)) := by omega
        have f7 : (n = (45 : Int)) := by omega
        have f8 : ¬ (n = (46 : Int)) := by omega
        have hN : nameN n = true := by unfold nameN; simp only [f0, f1, f2, f3, f4, f5, f6, f7, f8, decide_true, decide_false]; rfl
        clear r1 r2
        go_wp2
        go_roundw
        case rel => exact ⟨k + 1, by omega, by go_num, by rw [hat, List.all_append, hall, List.all_cons, hnc, hN]; rfl, trivial⟩
        case measure => simp [Go.RowKit.intOf]; omega
      · obtain ⟨r1, r2⟩ := hr
        have f0 : ¬ ((65 : Int) ≤ n) := by omega
        have f1 : (n ≤ (90 : Int)) := by omega
        have f2 : ¬ ((97 : Int) ≤ n) := by omega
        have f3 : (n ≤ (122 : Int)) := by omega
        have f4 : ¬ ((48 : Int) ≤ n) := by omega
        have f5 : (n ≤ (57 : Int)) := by omega
        have f6 : ¬ (n = (95 : Int)) := by omega
        have f7 : ¬ (n = (45 : Int)) := by omega
        have f8 : (n = (46 : Int)) := by omega
        have hN : nameN n = true := by unfold nameN; simp only [f0, f1, f2, f3, f4, f5, f6, f7, f8, decide_true, decide_false]; rfl
        clear r1 r2
        go_wp2
        go_roundw
        case rel => exact ⟨k + 1, by omega, by go_num, by rw [hat, List.all_append, hall, List.all_cons, hnc, hN]; rfl, trivial⟩
        case measure => simp [Go.RowKit.intOf]; omega
      · obtain ⟨r1, r2⟩ := hr
        have f0 : ¬ ((65 : Int) ≤ n) := by omega
        have f1 : (n ≤ (90 : Int)) := by omega
        have f2 : ¬ ((97 : Int) ≤ n) := by omega
        have f3 : (n ≤ (122 : Int)) := by omega
        have f4 : ¬ ((48 : Int) ≤ n) := by omega
        have f5 : (n ≤ (57 : Int)) := by omega
        have f6 : ¬ (n = (95 : Int)) := by omega
        have f7 : ¬ (n = (45 : Int)) := by omega
        have f8 : ¬ (n = (46 : Int)) := by omega
        have hN : nameN n = false := by unfold nameN; simp only [f0, f1, f2, f3, f4, f5, f6, f7, f8, decide_true, decide_false]; rfl
        clear r1 r2
        go_wp2
        go_ret
        refine ⟨?_, hbel⟩
        have : l.all nameC = false := by
          rw [← Bool.not_eq_true, List.all_eq_true]
          intro h
          have := h l[k] (List.getElem_mem hlt)
          rw [hnc, hN] at this; cases this
        rw [nameL, this, Bool.and_false]
        rfl
      · obtain ⟨r1, r2⟩ := hr
        have f0 : ¬ ((65 : Int) ≤ n) := by omega
        have f1 : (n ≤ (90 : Int)) := by omega
        have f2 : ¬ ((97 : Int) ≤ n) := by omega
        have f3 : (n ≤ (122 : Int)) := by omega
        have f4 : ((48 : Int) ≤ n) := by omega
        have f5 : (n ≤ (57 : Int)) := by omega
        have f6 : ¬ (n = (95 : Int)) := by omega
        have f7 : ¬ (n = (45 : Int)) := by omega
        have f8 : ¬ (n = (46 : Int)) := by omega
        have hN : nameN n = true := by unfold nameN; simp only [f0, f1, f2, f3, f4, f5, f6, f7, f8, decide_true, decide_false]; rfl
        clear r1 r2
        go_wp2
        go_roundw
        case rel => exact ⟨k + 1, by omega, by go_num, by rw [hat, List.all_append, hall, List.all_cons, hnc, hN]; rfl, trivial⟩
        case measure => simp [Go.RowKit.intOf]; omega
      · obtain ⟨r1, r2⟩ := hr
        have f0 : ¬ ((65 : Int) ≤ n) := by omega
        have f1 : (n ≤ (90 : Int)) := by omega
        have f2 : ¬ ((97 : Int) ≤ n) := by omega
        have f3 : (n ≤ (122 : Int)) := by omega
        have f4 : ((48 : Int) ≤ n) := by omega
        have f5 : ¬ (n ≤ (57 : Int)) := by omega
        have f6 : ¬ (n = (95 : Int)) := by omega
        have f7 : ¬ (n = (45 : Int)) := by omega
        have f8 : ¬ (n = (46 : Int)) := by omega
        have hN : nameN n = false := by unfold nameN; simp only [f0, f1, f2, f3, f4, f5, f6, f7, f8, decide_true, decide_false]; rfl
        clear r1 r2
        go_wp2
        go_ret
        refine ⟨?_, hbel⟩
        have : l.all nameC = false := by
          rw [← Bool.not_eq_true, List.all_eq_true]
          intro h
          have := h l[k] (List.getElem_mem hlt)
          rw [hnc, hN] at this; cases this
        rw [nameL, this, Bool.and_false]
        rfl
      · obtain ⟨r1, r2⟩ := hr
        have f0 : ((65 : Int) ≤ n) := by omega
        have f1 : (n ≤ (90 : Int)) := by omega
        have f2 : ¬ ((97 : Int) ≤ n) := by omega
        have f3 : (n ≤ (122 : Int)) := by omega
        have f4 : ((48 : Int) ≤ n) := by omega
        have f5 : ¬ (n ≤ (57 : Int)) := by omega
        have f6 : ¬ (n = (95 : Int)) := by omega
        have f7 : ¬ (n = (45 : Int)) := by omega
        have f8 : ¬ (n = (46 : Int)) := by omega
        have hN : nameN n = true := by unfold nameN; simp only [f0, f1, f2, f3, f4, f5, f6, f7, f8, decide_true, decide_false]; rfl
        clear r1 r2
        go_wp2
        go_roundw
        case rel => exact ⟨k + 1, by omega, by go_num, by rw [hat, List.all_append, hall, List.all_cons, hnc, hN]; rfl, trivial⟩
        case measure => simp [Go.RowKit.intOf]; omega
      · obtain ⟨r1, r2⟩ := hr
        have f0 : ((65 : Int) ≤ n) := by omega
        have f1 : ¬ (n ≤ (90 : Int)) := by omega
        have f2 : ¬ ((97 : Int) ≤ n) := by omega
        have f3 : (n ≤ (122 : Int)) := by omega
        have f4 : ((48 : Int) ≤ n) := by omega
        have f5 : ¬ (n ≤ (57 : Int)) := by omega
        have f6 : ¬ (n = (95 : Int)) := by omega
        have f7 : ¬ (n = (45 : Int)) := by omega
        have f8 : ¬ (n = (46 : Int)) := by omega
        have hN : nameN n = false := by unfold nameN; simp only [f0, f1, f2, f3, f4, f5, f6, f7, f8, decide_true, decide_false]; rfl
        clear r1 r2
        go_wp2
        go_ret
        refine ⟨?_, hbel⟩
        have : l.all nameC = false := by
          rw [← Bool.not_eq_true, List.all_eq_true]
          intro h
          have := h l[k] (List.getElem_mem hlt)
          rw [hnc, hN] at this; cases this
        rw [nameL, this, Bool.and_false]
        rfl
      · obtain ⟨r1, r2⟩ := hr
        have f0 : ((65 : Int) ≤ n) := by omega
        have f1 : ¬ (n ≤ (90 : Int)) := by omega
        have f2 : ¬ ((97 : Int) ≤ n) := by omega
        have f3 : (n ≤ (122 : Int)) := by omega
        have f4 : ((48 : Int) ≤ n) := by omega
        have f5 : ¬ (n ≤ (57 : Int)) := by omega
        have f6 : (n = (95 : Int)) := by omega
        have f7 : ¬ (n = (45 : Int)) := by omega
        have f8 : ¬ (n = (46 : Int)) := by omega
        have hN : nameN n = true := by unfold nameN; simp only [f0, f1, f2, f3, f4, f5, f6, f7, f8, decide_true, decide_false]; rfl
        clear r1 r2
        go_wp2
        go_roundw
        case rel => exact ⟨k + 1, by omega, by go_num, by rw [hat, List.all_append, hall, List.all_cons, hnc, hN]; rfl, trivial⟩
        case measure => simp [Go.RowKit.intOf]; omega
      · obtain ⟨r1, r2⟩ := hr
        have f0 : ((65 : Int) ≤ n) := by omega
        have f1 : ¬ (n ≤ (90 : Int)) := by omega
        have f2 : ¬ ((97 : Int) ≤ n) := by omega
        have f3 : (n ≤ (122 : Int)) := by omega
        have f4 : ((48 : Int) ≤ n) := by omega
        have f5 : ¬ (n ≤ (57 : Int)) := by omega
        have f6 : ¬ (n = (95 : Int)) := by omega
        have f7 : ¬ (n = (45 : Int)) := by omega
        have f8 : ¬ (n = (46 : Int)) := by omega
        have hN : nameN n = false := by unfold nameN; simp only [f0, f1, f2, f3, f4, f5, f6, f7, f8, decide_true, decide_false]; rfl
        clear r1 r2
        go_wp2
        go_ret
        refine ⟨?_, hbel⟩
        have : l.all nameC = false := by
          rw [← Bool.not_eq_true, List.all_eq_true]
          intro h
          have := h l[k] (List.getElem_mem hlt)
          rw [hnc, hN] at this; cases this
        rw [nameL, this, Bool.and_false]
        rfl
      · obtain ⟨r1, r2⟩ := hr
        have f0 : ((65 : Int) ≤ n) := by omega
        have f1 : ¬ (n ≤ (90 : Int)) := by omega
        have f2 : ((97 : Int) ≤ n) := by omega
        have f3 : (n ≤ (122 : Int)) := by omega
        have f4 : ((48 : Int) ≤ n) := by omega
        have f5 : ¬ (n ≤ (57 : Int)) := by omega
        have f6 : ¬ (n = (95 : Int)) := by omega
        have f7 : ¬ (n = (45 : Int)) := by omega
        have f8 : ¬ (n = (46 : Int)) := by omega
        have hN : nameN n = true := by unfold nameN; simp only [f0, f1, f2, f3, f4, f5, f6, f7, f8, decide_true, decide_false]; rfl
        clear r1 r2
        go_wp2
        go_roundw
        case rel => exact ⟨k + 1, by omega, by go_num, by rw [hat, List.all_append, hall, List.all_cons, hnc, hN]; rfl, trivial⟩
        case measure => simp [Go.RowKit.intOf]; omega
      · obtain ⟨r1, r2⟩ := hr
        have f0 : ((65 : Int) ≤ n) := by omega
        have f1 : ¬ (n ≤ (90 : Int)) := by omega
        have f2 : ((97 : Int) ≤ n) := by omega
        have f3 : ¬ (n ≤ (122 : Int)) := by omega
        have f4 : ((48 : Int) ≤ n) := by omega
        have f5 : ¬ (n ≤ (57 : Int)) := by omega
        have f6 : ¬ (n = (95 : Int)) := by omega
        have f7 : ¬ (n = (45 : Int)) := by omega
        have f8 : ¬ (n = (46 : Int)) := by omega
        have hN : nameN n = false := by unfold nameN; simp only [f0, f1, f2, f3, f4, f5, f6, f7, f8, decide_true, decide_false]; rfl
        clear r1 r2
        go_wp2
        go_ret
        refine ⟨?_, hbel⟩
        have : l.all nameC = false := by
          rw [← Bool.not_eq_true, List.all_eq_true]
          intro h
          have := h l[k] (List.getElem_mem hlt)
          rw [hnc, hN] at this; cases this
        rw [nameL, this, Bool.and_false]
        rfl
    · have hkl : k = l.length := by omega
      subst hkl
      rw [List.take_length] at hall
      by_cases h0 : l = []
      · subst h0
        go_wp2
        go_ret
        exact ⟨rfl, hbel⟩
      · have hne : ¬ (l.toArray = #[]) := by simpa using h0
        have hbe : (l == []) = false := by simpa using h0
        by_cases h40 : l.length ≤ 40
        · have h40' : (l.length : Int) ≤ 40 := by omega
          go_wp2
          go_ret
          refine ⟨?_, hbel⟩
          have : nameL l = true := by rw [nameL, hbe, hall, decide_eq_true h40]; rfl
          rw [this]
          rfl
        · have h40' : ¬ (l.length : Int) ≤ 40 := by omega
          go_wp2
          go_ret
          refine ⟨?_, hbel⟩
          have : nameL l = false := by rw [nameL, decide_eq_false h40]; simp
          rw [this]
          rfl

theorem ok30 {W : World} : FnOK Tryz.prog (GW W) own1 30 gName := by
  refine ext_ok rfl fun R w args avs rs hP hs hargs hg => ?_
  unfold gName at hg
  split at hg
  · rename_i s
    split at hg
    · rename_i hl
      injection hg with hg; subst hg
      refine ⟨[.bool (nameL s)], fun R' M => vrs_one (.bool _), ?_⟩
      obtain ⟨v1, vs1, rfl, hv1, hvs1⟩ := hargs.cons_inv
      rw [hvs1.nil_inv, hv1.str_inv]
      exact name_walk s w hl
    · cases hg
  · cases hg

end Go.Proofs.YtmcfnnpihlediaaGreatDoor.Ex

/- The document's own Set and Get. -/
namespace Go.Proofs.YtmcfnnpihlediaaGreatDoor.Ex
open Go
attribute [-simp] rgn rgnD exec_seq exec_cond exec_block keepS

def leS (a b : Str) : Bool := Op.bytesLess a b || a == b
/-- The document's Set, from a place on: was it put? -/
def setR (x : VL) : Bool → Vs → Vs
  | fl, [] => if fl then [] else [x]
  | fl, y :: r => (if !fl && leS x.1 y.1 then [x] else []) ++ ((if y.1 == x.1 then [] else [y]) ++ setR x (fl || leS x.1 y.1) r)

theorem setR_true (x : VL) : ∀ r : Vs, (∀ z ∈ r, z.1 ≠ x.1) → setR x true r = r
  | [], _ => rfl
  | y :: r, h => by
    have h1 : (y.1 == x.1) = false := by simpa using h y (by simp)
    simp only [setR, Bool.not_true, Bool.false_and, Bool.true_or, h1]
    rw [setR_true x r fun z hz => h z (by simp [hz])]
    simp

theorem setR_eq (x : VL) : ∀ {V : Vs}, ordV V = true → setR x false V = setV x V
  | [], _ => rfl
  | y :: r, ho => by
    have hne : ∀ {a b : Str}, Op.bytesLess a b = true → a ≠ b := fun h e => by subst e; rw [less_irrefl] at h; cases h
    by_cases h1 : x.1 = y.1
    · have e1 : leS x.1 y.1 = true := by simp [leS, h1]
      have e2 : (y.1 == x.1) = true := by simp [h1]
      simp only [setR, setV, Bool.not_false, Bool.true_and, Bool.false_or, e1, e2, if_pos h1, if_true]
      rw [setR_true x r fun z hz => h1 ▸ (hne (ordV_all ho z hz)).symm]
      simp
    · have e2 : (y.1 == x.1) = false := by simpa using fun e : y.1 = x.1 => h1 e.symm
      by_cases h2 : Op.bytesLess x.1 y.1 = true
      · have e1 : leS x.1 y.1 = true := by simp [leS, h2]
        simp only [setR, setV, Bool.not_false, Bool.true_and, Bool.false_or, e1, e2, if_neg h1, if_pos h2, if_true]
        rw [setR_true x r fun z hz => (hne (less_trans h2 (ordV_all ho z hz))).symm]
        simp
      · have e1 : leS x.1 y.1 = false := by
          have : Op.bytesLess x.1 y.1 = false := by simpa using h2
          have h3 : (x.1 == y.1) = false := by simpa using h1
          simp [leS, this, h3]
        simp only [setR, setV, Bool.not_false, Bool.true_and, Bool.false_or, e1, e2, if_neg h1, if_neg h2]
        rw [setR_eq x (ordV_tail ho)]
        simp

@[simp] theorem zc28 : zeroCells Tryz.prog 6 28 = some [.sl 3 []] := by kernel_rfl
@[simp] theorem zc25 : zeroCells Tryz.prog 6 25 = some [.sl 3 []] := by kernel_rfl
@[simp] theorem zc36 : zeroCells Tryz.prog 6 36 = some [.str [], .str [], .bool false] := by kernel_rfl
@[simp] theorem zc39 : zeroCells Tryz.prog 6 39 = some [.str [], .str [], .bool false] := by kernel_rfl

section
variable [XX]

def stI (V : Vs) (x : VL) (i : Nat) (pf : PF) : Prop :=
  pf 2 = .box 0 0 ∧ pf 3 = .box 1 0 ∧ pf 4 = .box 2 0 ∧ pf 7 = .int .i64 i ∧ ∃ acc fl, pf 5 = rowAV acc ∧ pf 6 = .bool fl ∧ acc.length ≤ i + fl.toNat ∧ acc ++ setR x fl (V.drop i) = setR x false V

set_option maxHeartbeats 4000000 in
theorem v22 (n : Nat) (V : Vs) (x : VL) (ho : ordV V = true) (hl : V.length ≤ 1000000) (hn : V.length + 5 < n) :
    CP (F (n + 1)) 22 [varsAV V, varAV x] (varsAV (setV x V)) := by
  refine F_cp (rs := [varsAV (setV x V)]) (S := [.cells [rowAV V], .cells [.str x.1, .str x.2.1, .bool x.2.2], .cells [rowAV (setV x V)]]) (by simp only [noBoxL, noBox, varsAV, noBox_row, noBox_var, Bool.and_self]) (by simp only [noBoxL, noBox, varsAV, noBox_row, Bool.and_self]) ?_
  rw [F_fn rfl rfl rfl Tryz.func22 rfl]
  simp [runFn, Tryz.f22, rowAV, varsAV, varAV]
  generalize hI : iter _ _ _ = r
  obtain ⟨pf', rfl, hx⟩ := iter_count 0 (stI V x) V.length
    (fun i pf hi h => by
      obtain ⟨p2, p3, p4, p7, acc, fl, p5, p6, hal, hacc⟩ := h
      rw [rowAV] at p5
      have hat : V[i]? = some V[i] := List.getElem?_eq_getElem hi
      have hd : V.drop i = V[i] :: V.drop (i + 1) := List.drop_eq_getElem_cons hi
      rw [hd] at hacc
      simp only [setR] at hacc
      have w1 : IntKind.wrap .i64 ((i : Int) + 1) = (i : Int) + 1 := wrap64 (by omega) (by omega)
      have hfl : fl.toNat ≤ 1 := Bool.toNat_le fl
      have hb1 : (acc.length + 1) * 40 ≤ 140737488355328 := Nat.le_trans (Nat.mul_le_mul_right 40 (show acc.length + 1 ≤ 1000002 by omega)) (by decide)
      have hb2 : (acc.length + 1 + 1) * 40 ≤ 140737488355328 := Nat.le_trans (Nat.mul_le_mul_right 40 (show acc.length + 1 + 1 ≤ 1000003 by omega)) (by decide)
      have hneg : ¬ (i : Int) < 0 := by omega
      obtain ⟨le, hle⟩ : ∃ le, leS x.1 V[i].1 = le := ⟨_, rfl⟩
      obtain ⟨ne, hne⟩ : ∃ ne, (V[i].1 == x.1) = ne := ⟨_, rfl⟩
      rw [hle, hne] at hacc
      unfold leS at hle
      cases fl <;> cases le <;> cases ne
      all_goals
        simp only [Bool.not_false, Bool.not_true, Bool.true_and, Bool.false_and, Bool.or_true, Bool.or_false, Bool.false_eq_true, if_true, if_false, List.nil_append, ← List.append_assoc, List.append_nil, Bool.or_self] at hacc
        refine ⟨_, by simp [p2, p3, p4, p5, p6, p7, hi, hat, hle, hne, w1, hb1, hb2, varAV]; rfl, ?_⟩
        refine ⟨by simp [p2], by simp [p3], by simp [p4], by simp, _, _, ?_, by simp [p6], ?_, hacc⟩
        · simp [rowAV, varAV, p5]
        · simp only [List.length_append, List.length_cons, List.length_nil, Bool.toNat_true, Bool.toNat_false] at hal ⊢; omega)
    (fun pf h => by
      obtain ⟨p2, p3, p4, p7, acc, fl, p5, p6, hal, hacc⟩ := h
      rw [rowAV] at p5
      refine ⟨_, by simp [p2, p3, p4, p5, p6, p7]; rfl, ?_⟩
      refine ⟨by simp [p2], by simp [p3], by simp [p4], by simp [p7], acc, fl, by simp [p5, rowAV], by simp [p6], hal, hacc⟩)
    V.length 0 n _ r (by omega) hI (by simp [stI, rowAV]) (by omega)
  obtain ⟨p2, p3, p4, p7, acc, fl, p5, p6, hal, hacc⟩ := hx
  rw [List.drop_length, setR_eq x ho] at hacc
  rw [rowAV] at p5
  have hfl : fl.toNat ≤ 1 := Bool.toNat_le fl
  have hb1 : (acc.length + 1) * 40 ≤ 140737488355328 := Nat.le_trans (Nat.mul_le_mul_right 40 (show acc.length + 1 ≤ 1000002 by omega)) (by decide)
  rw [← hacc]
  cases fl
  · simp [p2, p3, p4, p5, p6, setR, rowAV, varAV, hb1]
  · simp [p2, p3, p4, p5, p6, setR, rowAV, varAV, hb1]

end
end Go.Proofs.YtmcfnnpihlediaaGreatDoor.Ex

/- The rows of a law's variables: both, the program's and the document's. -/
namespace Go.Proofs.YtmcfnnpihlediaaGreatDoor.Ex
open Go
attribute [-simp] rgn rgnD exec_seq exec_cond exec_block keepS

def bigV (x : VL) : Bool := decide (60 < x.1.length) || decide (600 < x.2.1.length)
def rowsGo : Vs → Vs → Vs × Bool
  | acc, [] => (acc, true)
  | acc, x :: r => if bigV x then (acc, false) else rowsGo (setV x acc) r
def rowsL (V : Vs) : Vs × Bool := if 30 < V.length then ([], false) else rowsGo [] V

def rwS (a : Vs) : Obs := [.cells [.sl 3 []], .cells [.sl 3 []], .cells [rowAV a], .cells [rowAV a]]
def rwE (a : Vs) : Obs := [.cells [rowAV a], .cells [rowAV a], .cells [rowAV a], .cells [rowAV a]]

def rwI (V : Vs) (x : Nat × Vs) (c : Cfg) : Prop :=
  c.D = [] ∧ c.S = rwS x.2 ∧ c.pf 0 = rowAV V ∧ c.pf 2 = .box 0 0 ∧ c.pf 3 = .box 1 0 ∧ c.pf 5 = .box 2 0 ∧ c.pf 6 = .box 3 0 ∧ c.pf 7 = .int .i64 x.1 ∧ x.1 ≤ V.length ∧ ordV x.2 = true ∧ x.2.length ≤ x.1 ∧ rowsGo x.2 (V.drop x.1) = rowsGo [] V
def rwQ (V : Vs) (x : PX) (c : Cfg) : Prop :=
  c.D = [] ∧ ((x = .ret ∧ (rowsGo [] V).2 = false ∧ c.S = rwE (rowsGo [] V).1 ∧ c.pf 4 = .bool false ∧ c.pf 2 = .box 0 0 ∧ c.pf 3 = .box 1 0) ∨
    (x = .ex 0 ∧ (rowsGo [] V).2 = true ∧ c.S = rwS (rowsGo [] V).1 ∧ c.pf 2 = .box 0 0 ∧ c.pf 3 = .box 1 0 ∧ c.pf 5 = .box 2 0 ∧ c.pf 6 = .box 3 0))

section
variable [XX]

set_option maxHeartbeats 4000000 in
theorem v12 (hX : FullV) (n : Nat) (V : Vs) (hn : 100 < n) :
    CP (F (n + 2)) 12 [rowAV V] (.tup [varsAV (rowsL V).1, varsAV (rowsL V).1, .bool (rowsL V).2]) := by
  refine F_cp (rs := [varsAV (rowsL V).1, varsAV (rowsL V).1, .bool (rowsL V).2]) (S := rwE (rowsL V).1) (by simp only [noBoxL, noBox, noBox_row, Bool.and_self]) (by simp only [noBoxL, noBox, varsAV, noBox_row, Bool.and_self]) ?_
  rw [F_fn rfl rfl rfl Tryz.func12 rfl]
  unfold rowsL
  by_cases h30 : 30 < V.length
  · have h30' : decide (30 < (V.length : Int)) = true := by simp; omega
    simp [runFn, Tryz.f12, rowAV, varsAV, h30, h30', rwE]
  · have h30' : decide (30 < (V.length : Int)) = false := by simp; omega
    simp [runFn, Tryz.f12, rowAV, varsAV, h30, h30']
    generalize hI : iter _ _ _ = r
    obtain ⟨px, c, rfl, hc⟩ := iter_cfg (fun x : Nat × Vs => V.length - x.1) (rwI V) (rwQ V)
      (fun x c hcc => by
        obtain ⟨i, a⟩ := x
        obtain ⟨pf, S', D'⟩ := c
        obtain ⟨rfl, rfl, p0, p2, p3, p5, p6, p7, hi, ho, hl, hinv⟩ := hcc
        simp only at p0 p2 p3 p5 p6 p7 hi ho hl hinv
        rw [rowAV] at p0
        by_cases hil : i < V.length
        · have hat : V[i]? = some V[i] := List.getElem?_eq_getElem hil
          have hd : V.drop i = V[i] :: V.drop (i + 1) := List.drop_eq_getElem_cons hil
          have w1 : IntKind.wrap .i64 ((i : Int) + 1) = (i : Int) + 1 := wrap64 (by omega) (by omega)
          rw [hd, rowsGo] at hinv
          by_cases hb : bigV V[i] = true
          · right
            rw [if_pos hb] at hinv
            simp only [bigV, Bool.or_eq_true, decide_eq_true_eq] at hb
            by_cases hb1 : 60 < V[i].1.length
            · have hb1' : decide (60 < (V[i].1.length : Int)) = true := by simp; omega
              refine ⟨.ret, _, by simp, by simp [p0, p2, p3, p5, p6, p7, hil, hat, hb1', varAV, rwS, rowAV]; rfl, ?_⟩
              simp [rwQ, ← hinv, rwE, rowAV, p2, p3]
            · have hb1' : decide (60 < (V[i].1.length : Int)) = false := by simp; omega
              have hb2' : decide (600 < (V[i].2.1.length : Int)) = true := by simp; omega
              refine ⟨.ret, _, by simp, by simp [p0, p2, p3, p5, p6, p7, hil, hat, hb1', hb2', varAV, rwS, rowAV]; rfl, ?_⟩
              simp [rwQ, ← hinv, rwE, rowAV, p2, p3]
          · left
            rw [if_neg hb] at hinv
            simp only [bigV, Bool.or_eq_true, decide_eq_true_eq] at hb
            have hb1' : decide (60 < (V[i].1.length : Int)) = false := by simp; omega
            have hb2' : decide (600 < (V[i].2.1.length : Int)) = false := by simp; omega
            have c1 := v19 hX n a V[i] ho (by omega)
            have c2 := v22 n a V[i] ho (by omega) (by omega)
            simp only [CP, varsAV, varAV, rowAV] at c1 c2
            have hsl := setV_len V[i] a
            refine ⟨(i + 1, setV V[i] a), _, by simp [p0, p2, p3, p5, p6, p7, hil, hat, hb1', hb2', varAV, rwS, rowAV, c1, c2, w1]; rfl, by simp only; omega, ?_⟩
            refine ⟨rfl, by simp [rwS, rowAV], by simp [p0, rowAV], by simp [p2], by simp [p3], by simp [p5], by simp [p6], by simp, by simp only; omega, ordV_set _ ho, by simp only; omega, hinv⟩
        · right
          rw [List.drop_of_length_le (by omega), rowsGo] at hinv
          refine ⟨.ex 0, _, by simp, by simp [p0, p2, p3, p5, p6, p7, hil]; rfl, ?_⟩
          simp [rwQ, ← hinv, p2, p3, p5, p6])
      (n + 1) (0, []) _ r hI (by simp [rwI, rwS, rowAV, ordV]) (by simp; omega)
    obtain ⟨pf, S', D'⟩ := c
    obtain ⟨rfl, h | h⟩ := hc
    · obtain ⟨rfl, h1, rfl, p4, p2, p3⟩ := h
      simp only at p2 p3 p4
      simp [p2, p3, p4, h1, rwE, rowAV]
    · obtain ⟨rfl, h1, rfl, p2, p3, p5, p6⟩ := h
      simp only at p2 p3 p5 p6
      simp [p2, p3, p5, p6, h1, rwE, rwS, rowAV]

end
end Go.Proofs.YtmcfnnpihlediaaGreatDoor.Ex

/- The law of what is set. -/
namespace Go.Proofs.YtmcfnnpihlediaaGreatDoor.Ex
open Go
attribute [-simp] rgn rgnD exec_seq exec_cond exec_block keepS

theorem rowsGo_fold : ∀ (l acc : Vs), (∀ x ∈ l, bigV x = false) → rowsGo acc l = (l.foldl (fun v x => setV x v) acc, true)
  | [], acc, _ => rfl
  | x :: r, acc, h => by
    rw [rowsGo, if_neg (by rw [h x (by simp)]; decide), rowsGo_fold r _ fun z hz => h z (by simp [hz])]
    rfl
theorem rowsL_ok (l : Vs) (h1 : l.length ≤ 30) (h : ∀ x ∈ l, bigV x = false) : rowsL l = (rowsS l, true) := by
  rw [rowsL, if_neg (by omega), rowsGo_fold l [] h]; rfl

/-- What a row of a law's variables keeps. -/
def goodA (a : Vs) (k : Nat) : Prop := ordV a = true ∧ a.length ≤ k ∧ ∀ x ∈ a, bigV x = false
theorem goodA_set {a : Vs} {k : Nat} (h : goodA a k) (x : VL) (hx : bigV x = false) : goodA (setV x a) (k + 1) :=
  ⟨ordV_set _ h.1, by have := setV_len x a; have := h.2.1; omega, fun z hz => by
    rcases setV_mem _ _ _ hz with rfl | hz
    · exact hx
    · exact h.2.2 z hz⟩
theorem rowsGo_good : ∀ (l a : Vs) (k : Nat), goodA a k → goodA (rowsGo a l).1 (k + l.length)
  | [], a, k, h => h
  | x :: r, a, k, h => by
    rw [rowsGo]
    split
    · exact ⟨h.1, by have := h.2.1; simp; omega, h.2.2⟩
    · rename_i hb
      have := rowsGo_good r _ _ (goodA_set h x (by simpa using hb))
      simp only [List.length_cons]
      rwa [show k + (r.length + 1) = k + 1 + r.length by omega]
theorem rowsL_good (V : Vs) : goodA (rowsL V).1 30 := by
  unfold rowsL
  split
  · exact ⟨rfl, by simp, by simp⟩
  · have := rowsGo_good V [] 0 ⟨rfl, by simp, by simp⟩
    exact ⟨this.1, by have := this.2.1; omega, this.2.2⟩
theorem goodA.ok {a : Vs} {k : Nat} (h : goodA a k) (hk : k ≤ 1000) : okV a 20 := ⟨h.1, by have := h.2.1; omega, fun x hx => by
  have := h.2.2 x hx
  simp only [bigV, Bool.or_eq_false_iff, decide_eq_false_iff_not] at this
  omega⟩

theorem getV_set_same (x : VL) : ∀ V : Vs, getV (setV x V) x.1 = some x
  | [] => by simp [setV, getV]
  | y :: r => by
    simp only [setV]
    split
    · simp [getV]
    · split
      · simp [getV]
      · rename_i h1 h2
        have h3 : (y.1 == x.1) = false := by simpa using fun e : y.1 = x.1 => h1 e.symm
        have := getV_set_same x r
        simp only [getV] at this ⊢
        simp only [List.find?_cons, h3, this]
theorem getV_set_ne (x : VL) (n : Str) (hn : n ≠ x.1) : ∀ V : Vs, getV (setV x V) n = getV V n
  | [] => by
    have h3 : (x.1 == n) = false := by simpa using fun e : x.1 = n => hn e.symm
    simp [setV, getV, h3]
  | y :: r => by
    have h3 : (x.1 == n) = false := by simpa using fun e : x.1 = n => hn e.symm
    simp only [setV]
    split
    · rename_i h1
      have h4 : (y.1 == n) = false := by rw [← h1]; exact h3
      simp [getV, h3, h4]
    · split
      · simp [getV, h3]
      · have := getV_set_ne x n hn r
        simp only [getV] at this ⊢
        simp only [List.find?_cons, this]
theorem getV_none (n : Str) : ∀ V : Vs, (∀ z ∈ V, z.1 ≠ n) → getV V n = none
  | [], _ => rfl
  | y :: r, h => by
    have h1 : (y.1 == n) = false := by simpa using h y (by simp)
    have := getV_none n r fun z hz => h z (by simp [hz])
    simp only [getV] at this ⊢
    simp only [List.find?_cons, h1, this]
theorem fdV_get (n : Str) : ∀ {V : Vs}, ordV V = true → fdV n V = (getV V n).isSome
  | [], _ => rfl
  | y :: r, ho => by
    simp only [fdV]
    by_cases h1 : n = y.1
    · subst h1; simp [getV]
    · have h3 : (y.1 == n) = false := by simpa using fun e : y.1 = n => h1 e.symm
      by_cases h2 : Op.bytesLess n y.1 = true
      · rw [if_neg h1, if_pos h2, getV_none n (y :: r)]
        · rfl
        · intro z hz e
          rcases List.mem_cons.1 hz with rfl | hz
          · exact h1 e.symm
          · have := less_trans h2 (ordV_all ho z hz)
            rw [e, less_irrefl] at this; cases this
      · rw [if_neg h1, if_neg h2, fdV_get n (ordV_tail ho)]
        simp [getV, h3]

section
variable [XX]

theorem v11 (hX : FullV) (n : Nat) (hn : 3000702 ≤ n) : CP (F (n + 1)) 11 [] (.bool true) := by
  have hsh := shown_plain
  obtain ⟨n, rfl⟩ : ∃ q, n = q + 2 := ⟨n - 2, by omega⟩
  have c12 := v12 hX n [([97], [120, 32, 36, 40, 98, 41], false), ([98], [121], true), ([115], [112, 46, 99, 32, 113, 46, 99], true), ([102], [36, 40, 50, 41, 36, 40, 49, 41], false)] (by omega)
  rw [rowsL_ok _ (by decide) (by decide)] at c12
  simp only at hsh
  have hok : okV (rowsS [([97], [120, 32, 36, 40, 98, 41], false), ([98], [121], true), ([115], [112, 46, 99, 32, 113, 46, 99], true), ([102], [36, 40, 50, 41, 36, 40, 49, 41], false)]) 20 := by
    have := rowsL_good [([97], [120, 32, 36, 40, 98, 41], false), ([98], [121], true), ([115], [112, 46, 99, 32, 113, 46, 99], true), ([102], [36, 40, 50, 41, 36, 40, 49, 41], false)]
    rw [rowsL_ok _ (by decide) (by decide)] at this
    exact this.ok (by omega)
  simp only [rowAV, List.map_cons, List.map_nil, varAV, CP] at c12
  generalize rowsS [([97], [120, 32, 36, 40, 98, 41], false), ([98], [121], true), ([115], [112, 46, 99, 32, 113, 46, 99], true), ([102], [36, 40, 50, 41, 36, 40, 49, 41], false)] = A at *
  obtain ⟨e1, e2, e3, e4⟩ := hsh
  have c1 := v18 hX (n + 2) (by omega) A _ hok (show ([36, 40, 97, 41, 32, 36, 98, 36, 36] : Str).length ≤ 200000 by decide)
  have c2 := v18 hX (n + 2) (by omega) A _ hok (show ([36,40,115,58,46,99,61,46,111,41,32,36,40,102,111,114,101,97,99,104,32,105,44,36,40,115,41,44,60,36,40,105,41,62,41] : Str).length ≤ 200000 by decide)
  have c3 := v18 hX (n + 2) (by omega) A _ hok (show ([36,40,99,97,108,108,32,102,44,97,44,98,41] : Str).length ≤ 200000 by decide)
  have c4 := v18 hX (n + 2) (by omega) A _ hok (show ([36,40,105,102,32,44,120,44,121,41] : Str).length ≤ 200000 by decide)
  rw [e1] at c1
  rw [e2] at c2
  rw [e3] at c3
  rw [e4] at c4
  simp only [CP, varsAV, rowAV] at c1 c2 c3 c4 c12
  refine F_cp (rs := [.bool true]) (S := [.cells [rowAV A], .cells [rowAV A]]) rfl rfl ?_
  rw [F_fn rfl rfl rfl Tryz.func11 rfl]
  simp [runFn, Tryz.f11, c1, c2, c3, c4, c12, rowAV]

end
end Go.Proofs.YtmcfnnpihlediaaGreatDoor.Ex

/- A ring of variables, in plain Lean. -/
namespace Go.Proofs.YtmcfnnpihlediaaGreatDoor.Ex
open Go

/-- Names of one letter that is no sign. -/
def letter (c : UInt8) : Prop := 97 ≤ c.toNat ∧ c.toNat ≤ 106

theorem letter_ne {c : UInt8} (h : letter c) {d : UInt8} (hd : d.toNat < 97) : c ≠ d := fun e => by
  subst e; have := h.1; omega

theorem ref_close {c : UInt8} (h : letter c) (n : Nat) : closeI (n + 5) [] (36 :: 40 :: [c, 41]) = some 3 := by
  have h1 : c ≠ 36 := letter_ne h (by decide)
  have h2 : c ≠ 41 := letter_ne h (by decide)
  simp [closeI, opens, h1, h2]

theorem name_cut {c : UInt8} (h : letter c) : cutS [c] [[58]] = ([c], [], []) := by
  have h1 : c ≠ 58 := letter_ne h (by decide)
  have h3 : ¬ (58 : UInt8) = c := fun e => h1 e.symm
  simp [cutS, cutI, opens, isPre, h3]

theorem name_idx {c : UInt8} (h : letter c) : idxBl [c] = none := by
  have h1 : c ≠ 32 := letter_ne h (by decide)
  have h2 : c ≠ 9 := letter_ne h (by decide)
  simp [idxBl, isBl, h1, h2]

theorem exp_name (L : Option (Exp × Exp)) (V : Vs) (n : Nat) {c : UInt8} (h : letter c) : expS L V n [c] = (([c], 0), n) := by
  have h1 : (36 : UInt8) ∉ [c] := fun e => letter_ne h (d := 36) (by decide) (List.mem_singleton.1 e).symm
  rw [expS, exT_none _ _ _ _ _ h1]; rfl

theorem ring_err {V : Vs} {P : Str} (hP : 36 ∉ P) {C : UInt8 → Prop} (hC : ∀ c, C c → letter c ∧ ∃ c', C c' ∧ getV V [c] = some ([c], P ++ [36, 40, c', 41], false)) :
    ∀ (k n : Nat) (Q : Str) (c : UInt8), 36 ∉ Q → C c → n + k ≤ 1000 → (expS (lev k) V n (Q ++ [36, 40, c, 41])).1 = ([], 15) := by
  intro k
  induction k using Nat.strongRecOn with
  | _ k ih =>
    intro n Q c hQ hc hn
    obtain ⟨hl, c', hc', hg⟩ := hC c hc
    rw [expS, exT_step _ _ _ _ _ _ _ hQ, if_neg (by decide), if_pos (by decide)]
    rw [show List.length (36 :: 40 :: [c, 41]) + 1 = 5 from rfl, ref_close hl 0]
    simp only [Option.map_some]
    have hr : (refS (lev k) V n [c]).1 = ([], 15) := by
      match k, ih, hn with
      | 0, _, _ => rfl
      | j + 1, ih, hn =>
        rw [lev]
        simp only [refS]
        rw [if_neg (by omega), bodyS, name_idx hl]
        simp only [restS]
        rw [name_cut hl]
        simp only [ne_eq, not_true_eq_false, false_and, if_false, exp_name _ _ _ hl, if_true]
        rw [valS, hg]
        simp only [Bool.false_eq_true, if_false]
        match j, ih, hn with
        | 0, _, _ => rfl
        | i + 1, ih, hn =>
          rw [lev]
          simp only
          rw [if_neg (by omega)]
          exact ih i (by omega) (n + 1 + 1) P c' hP hc' (by omega)
    have e1 : (((36 : UInt8) :: 40 :: [c, 41]).take 3).drop 2 = [c] := rfl
    rw [e1, hr]
    rfl

/-! ### The law's ring -/
def alphaL : Str := [97, 98, 99, 100, 101, 102, 103, 104, 105, 106]
def chS (i : Nat) : UInt8 := alphaL.getD i 0
theorem slice_ch : ∀ i, i < 10 → (alphaL.drop i).take 1 = [chS i] := by decide
theorem chS_letter : ∀ i, i < 10 → letter (chS i) := by unfold letter; decide
theorem chS_inj : ∀ i, i < 10 → ∀ j, j < 10 → chS i = chS j → i = j := by decide

def ringV (P : Str) (s : Nat) : Nat → Vs
  | 0 => []
  | i + 1 => setV ([chS i], P ++ [36, 40, chS ((i + 1) % s), 41], false) (ringV P s i)

theorem ringV_get (P : Str) (s : Nat) : ∀ (i : Nat), i ≤ 10 → ∀ j, j < i → getV (ringV P s i) [chS j] = some ([chS j], P ++ [36, 40, chS ((j + 1) % s), 41], false)
  | 0, _, j, hj => by omega
  | i + 1, hi, j, hj => by
    rw [ringV]
    by_cases h : j = i
    · subst h
      exact getV_set_same ([chS j], _, false) _
    · rw [getV_set_ne _ _ (fun e => h (chS_inj j (by omega) i (by omega) (by simpa using e)))]
      exact ringV_get P s i (by omega) j (by omega)

theorem ringV_good (P : Str) (hP : P.length ≤ 50) (s : Nat) : ∀ i, goodA (ringV P s i) i
  | 0 => ⟨rfl, by simp [ringV], by simp [ringV]⟩
  | i + 1 => goodA_set (ringV_good P hP s i) _ (by simp [bigV]; omega)

theorem ring_law (P : Str) (hP : 36 ∉ P) (s : Nat) (h1 : 1 ≤ s) (hs : s ≤ 10) : expandS (ringV P s s) [36, 40, 97, 41] = ([], 15) := by
  unfold expandS
  refine ring_err (V := ringV P s s) hP (C := fun c => ∃ i, i < s ∧ c = chS i) ?_ 20 0 [] 97 (by simp) ⟨0, by omega, rfl⟩ (by omega)
  rintro c ⟨i, hi, rfl⟩
  exact ⟨chS_letter i (by omega), chS ((i + 1) % s), ⟨(i + 1) % s, Nat.mod_lt _ (by omega), rfl⟩, ringV_get P s s hs i hi⟩

end Go.Proofs.YtmcfnnpihlediaaGreatDoor.Ex

/- The law VarsRing. -/
namespace Go.Proofs.YtmcfnnpihlediaaGreatDoor.Ex
open Go
attribute [-simp] rgn rgnD exec_seq exec_cond exec_block keepS

def rg1I (i : Int) (P : Str) (j : Nat) (pf : PF) : Prop := pf 0 = .int .i64 i ∧ pf 1 = .str P ∧ pf 6 = .int .i64 j ∧ j ≤ P.length ∧ 36 ∉ P.take j
def rg1Q (i : Int) (P : Str) (x : PX) (pf : PF) : Prop := (x = .ret ∧ pf 4 = .bool true) ∨ (x = .ex 0 ∧ 36 ∉ P ∧ pf 0 = .int .i64 i ∧ pf 1 = .str P)

def rg2I (P : Str) (s : Nat) (j : Nat) (c : Cfg) : Prop := c.D = [] ∧ c.S = [.cells [rowAV (ringV P s j)]] ∧ c.pf 1 = .str P ∧ c.pf 7 = .int .i64 s ∧ c.pf 8 = .box 0 0 ∧ c.pf 9 = .int .i64 j ∧ j ≤ s
def rg2Q (P : Str) (s : Nat) (x : PX) (c : Cfg) : Prop := x = .ex 2 ∧ c.D = [] ∧ c.S = [.cells [rowAV (ringV P s s)]] ∧ c.pf 8 = .box 0 0

section
variable [XX]

set_option maxHeartbeats 4000000 in
theorem law6 (hX : FullV) (n : Nat) (hn : 3001000 ≤ n) (i : Int) (P : Str) : CP (F (n + 1)) 6 [.int .i64 i, .str P] (.bool true) := by
  obtain ⟨n, rfl⟩ : ∃ q, n = q + 2 := ⟨n - 2, by omega⟩
  have c11 := v11 hX (n + 1) (by omega)
  simp only [CP] at c11
  have hrs : ∃ S, runFn Tryz.prog own1 (F (n + 2)) (n + 2) Tryz.f6 (Tryz.f6.body.getD .skip) [.int .i64 i, .str P] [] = some ([.bool true], S) := by
    by_cases hg : 50 < P.length
    · have hg' : decide (50 < (P.length : Int)) = true := by simp; omega
      simp [runFn, Tryz.f6, c11, hg']
    · have hg' : decide (50 < (P.length : Int)) = false := by simp; omega
      simp [runFn, Tryz.f6, c11, hg']
      generalize hI : iter _ _ _ = r
      obtain ⟨px, pf', rfl, hx⟩ := iter_gen (fun j : Nat => P.length - j) (rg1I i P) (rg1Q i P)
        (fun j pf h => by
          obtain ⟨p0, p1, p6, hj, h36⟩ := h
          by_cases hlt : j < P.length
          · have hat : P[j]? = some P[j] := List.getElem?_eq_getElem hlt
            have w1 : IntKind.wrap .i64 ((j : Int) + 1) = (j : Int) + 1 := wrap64 (by omega) (by omega)
            have hb := byte_eq P[j] 36 (by decide)
            by_cases hc : P[j] = 36
            · right
              have hb' : (((P[j]).toNat : Int) == 36) = true := by rw [show (36 : Int) = ((36 : Nat) : Int) from rfl, hb]; simp [hc]
              exact ⟨.ret, _, by simp, by simp [p0, p1, p6, hlt, hat, hb']; rfl, by simp [rg1Q]⟩
            · left
              have hb' : (((P[j]).toNat : Int) == 36) = false := by rw [show (36 : Int) = ((36 : Nat) : Int) from rfl, hb]; simpa using hc
              refine ⟨j + 1, _, by simp [p0, p1, p6, hlt, hat, hb', w1]; rfl, by omega, by simp [p0], by simp [p1], by simp, by omega, ?_⟩
              rw [List.take_succ_eq_append_getElem hlt]
              simp only [List.mem_append, List.mem_singleton, not_or]
              exact ⟨h36, fun e => hc e.symm⟩
          · right
            rw [List.take_of_length_le (by omega)] at h36
            exact ⟨.ex 0, _, by simp, by simp [p0, p1, p6, hlt]; rfl, by simp [rg1Q, p0, p1, h36]⟩)
        (n + 2) 0 _ r hI (by simp [rg1I]) (by omega)
      rcases hx with ⟨rfl, p4⟩ | ⟨rfl, h36, p0, p1⟩
      · simp [p4]
      · obtain ⟨s, hs⟩ : ∃ s : Nat, 1 + (if Int.tmod i 9 < -Int.tmod i 9 then -Int.tmod i 9 else Int.tmod i 9) = (s : Int) := by
          refine ⟨(1 + (if Int.tmod i 9 < -Int.tmod i 9 then -Int.tmod i 9 else Int.tmod i 9)).toNat, ?_⟩
          split <;> omega
        have m1 : Int.tmod i 9 < 9 := by have := Int.tmod_lt_of_pos i (b := 9) (by decide); exact this
        have m2 : -9 < Int.tmod i 9 := by have := Int.lt_tmod_of_pos i (b := 9) (by decide); exact this
        have hs1 : 1 ≤ s ∧ s ≤ 9 := by split at hs <;> omega
        have w0 : IntKind.wrap .i64 (-Int.tmod i 9) = -Int.tmod i 9 := wrap64 (by omega) (by omega)
        have w1 : IntKind.wrap .i64 (s : Int) = (s : Int) := wrap64 (by omega) (by omega)
        simp [p0, p1, w0, hs, w1]
        generalize hI : iter _ _ _ = r
        obtain ⟨px, c, rfl, hc⟩ := iter_cfg (fun j : Nat => s - j) (rg2I P s) (rg2Q P s)
          (fun j c hcc => by
            obtain ⟨pf, S', D'⟩ := c
            obtain ⟨rfl, rfl, p1, p7, p8, p9, hj⟩ := hcc
            simp only at p1 p7 p8 p9
            by_cases hlt : j < s
            · left
              have hq : (j + 1) % s < s := Nat.mod_lt _ (by omega)
              obtain ⟨q, hqe⟩ : ∃ q, q = (j + 1) % s := ⟨_, rfl⟩
              have w2 : IntKind.wrap .i64 ((j : Int) + 1) = (j : Int) + 1 := wrap64 (by omega) (by omega)
              have w3 : IntKind.wrap .i64 ((q : Int) + 1) = (q : Int) + 1 := wrap64 (by omega) (by omega)
              have hm : Int.tmod ((j : Int) + 1) (s : Int) = (q : Int) := by
                have : ((j : Int) + 1) = ((j + 1 : Nat) : Int) := by omega
                rw [this, ← Int.ofNat_tmod, hqe]
              have hs0 : ¬ s = 0 := by omega
              have e1 := slice_ch j (by omega)
              have e2 := slice_ch q (by omega)
              simp only [alphaL] at e1 e2
              have b1 : (0 : Int) ≤ (j : Int) + 1 := by omega
              have b2 : (j : Int) + 1 ≤ 10 := by omega
              have b3 : (0 : Int) ≤ (q : Int) + 1 := by omega
              have b4 : (q : Int) + 1 ≤ 10 := by omega
              have t1 : ((j : Int) + 1).toNat = j + 1 := by omega
              have t2 : ((q : Int) + 1).toNat = q + 1 := by omega
              have b5 : (j : Int) ≤ (j : Int) + 1 := by omega
              have b6 : (q : Int) ≤ (q : Int) + 1 := by omega
              have hgood := ringV_good P (by omega) s j
              have c19 := v19 hX (n + 1) (ringV P s j) ([chS j], P ++ [36, 40, chS q, 41], false) hgood.1 (by have := hgood.2.1; omega)
              simp only [CP, varsAV, varAV, rowAV] at c19
              have hl1 : P.length + 2 ≤ 9223372036854775807 := by omega
              have hl2 : P.length + 3 ≤ 9223372036854775807 := by omega
              have hl3 : P.length + 4 ≤ 9223372036854775807 := by omega
              refine ⟨j + 1, _, by simp [p1, p7, p8, p9, hlt, w2, w3, hm, hs0, e1, e2, b1, b2, b3, b4, b5, b6, t1, t2, rowAV, c19, hl1, hl2, hl3]; rfl, by omega, ?_⟩
              refine ⟨rfl, ?_, by simp [p1], by simp [p7], by simp [p8], by simp, by omega⟩
              simp [ringV, rowAV, hqe, List.append_assoc]
            · right
              have hjs : j = s := by omega
              subst hjs
              exact ⟨.ex 2, _, by simp, by simp [p7, p8, p9]; rfl, by simp [rg2Q, p8]⟩)
          (n + 2) 0 _ r hI (by simp [rg2I, ringV, rowAV, p1]) (by omega)
        obtain ⟨pf, S', D'⟩ := c
        obtain ⟨rfl, rfl, rfl, p8⟩ := hc
        simp only at p8
        have hgood := ringV_good P (by omega) s s
        have c13 := v13 hX (n + 1) (by omega) (ringV P s s) [36, 40, 97, 41] (hgood.ok (by omega)) (by decide)
        rw [ring_law P h36 s (by omega) (by omega)] at c13
        simp only [CP, varsAV, rowAV] at c13
        simp [p8, rowAV, c13]
  obtain ⟨S, h⟩ := hrs
  refine F_cp (rs := [.bool true]) (S := S) rfl rfl ?_
  rw [F_fn rfl rfl rfl Tryz.func6 rfl]
  exact h

end
end Go.Proofs.YtmcfnnpihlediaaGreatDoor.Ex

/- Expanding, in plain Lean: more steps ahead change nothing but that they may be too many; a text behind a text. -/
namespace Go.Proofs.YtmcfnnpihlediaaGreatDoor.Ex
open Go

/-- Begun some steps later: the same, or too many. -/
def Sh1 (g : Nat → Str → Ans) : Prop := ∀ n k t x m, g n t = ((x, 0), m) → g (n + k) t = ((x, 0), m + k) ∨ (g (n + k) t).1 = ([], 12)
def ShE (E : Exp) : Prop := ∀ V, Sh1 (E V)

theorem ans0 {α : Type} {z : (α × Nat) × Nat} (h : z.1.2 = 0) : ∃ x m, z = ((x, 0), m) := ⟨z.1.1, z.2, by rw [← h]⟩

theorem shortS_0 {s y : Str} (h : shortS s = (y, 0)) : y = s ∧ s.length ≤ 4000 := by
  unfold shortS at h
  split at h
  · simp at h
  · rename_i hn
    injection h with h _
    exact ⟨h.symm, by omega⟩
theorem shortS_le {s : Str} (h : s.length ≤ 4000) : shortS s = (s, 0) := by unfold shortS; rw [if_neg (by omega)]

theorem allS_sh {ex : Nat → Str → Ans} (h : Sh1 ex) : ∀ (l : List Str) (n k : Nat) (xs : List Str) (m : Nat), allS ex n l = ((xs, 0), m) → allS ex (n + k) l = ((xs, 0), m + k) ∨ (allS ex (n + k) l).1 = ([], 12)
  | [], n, k, xs, m, ha => by
    simp only [allS, Prod.mk.injEq, and_true] at ha
    obtain ⟨rfl, rfl⟩ := ha
    exact .inl rfl
  | t :: r, n, k, xs, m, ha => by
    simp only [allS] at ha
    split at ha
    · rename_i h0
      obtain ⟨x, n1, he⟩ := ans0 h0
      rw [he] at ha
      simp only at ha
      split at ha
      · rename_i h1
        obtain ⟨ys, m1, hr⟩ := ans0 h1
        rw [hr] at ha
        simp only [Prod.mk.injEq, and_true] at ha
        obtain ⟨rfl, rfl⟩ := ha
        rcases h n k t x n1 he with e | e
        · rcases allS_sh h r n1 k ys m1 hr with e2 | e2
          · left; simp only [allS, e, e2, if_true]
          · right; simp only [allS, e, e2, if_true]; rfl
        · right; simp only [allS, e]; rfl
      · rename_i h1
        simp only [Prod.mk.injEq] at ha
        exact absurd ha.1.2 h1
    · rename_i h0
      simp only [Prod.mk.injEq] at ha
      exact absurd ha.1.2 h0

theorem wordsS_sh {of : Nat → Str → Ans} (h : Sh1 of) : Sh1 (wordsS of) := by
  intro n k t x m ha
  unfold wordsS at ha ⊢
  split at ha
  · rename_i h0
    obtain ⟨ys, m1, hr⟩ := ans0 h0
    rw [hr] at ha
    simp only [Prod.mk.injEq] at ha
    obtain ⟨h1, rfl⟩ := ha
    rcases allS_sh h _ n k ys m1 hr with e | e
    · left; rw [e]; simp only [if_true]; rw [h1]
    · right; rw [e]; rfl
  · rename_i h0
    simp only [Prod.mk.injEq] at ha
    exact absurd ha.1.2 h0

theorem turnedS_sh {E W : Exp} (hE : ShE E) (hW : ShE W) (V : Vs) (name p q : Str) (n k : Nat) (x : Str) (m : Nat) (ha : turnedS E W V n name p q = ((x, 0), m)) :
    turnedS E W V (n + k) name p q = ((x, 0), m + k) ∨ (turnedS E W V (n + k) name p q).1 = ([], 12) := by
  unfold turnedS at ha ⊢
  have hs := allS_sh (hE V) [name, p, q] n k
  generalize allS (E V) n [name, p, q] = z at ha hs
  generalize allS (E V) (n + k) [name, p, q] = z' at hs ⊢
  obtain ⟨⟨l, e⟩, n1⟩ := z
  obtain ⟨⟨l', e'⟩, n1'⟩ := z'
  simp only at ha ⊢
  by_cases h0 : e = 0
  · subst h0
    rw [if_pos rfl] at ha
    rcases hs l n1 rfl with hs | hs
    · simp only [Prod.mk.injEq] at hs
      obtain ⟨⟨rfl, rfl⟩, rfl⟩ := hs
      rw [if_pos rfl]
      split at ha
      · rename_i a p' q'
        have hw := hW V n1 k a
        generalize W V n1 a = y at ha hw
        generalize W V (n1 + k) a = y' at hw ⊢
        obtain ⟨⟨v, e2⟩, n2⟩ := y
        obtain ⟨⟨v', e2'⟩, n2'⟩ := y'
        simp only at ha ⊢
        by_cases h2 : e2 = 0
        · subst h2
          rw [if_pos rfl] at ha
          rcases hw v n2 rfl with hw | hw
          · simp only [Prod.mk.injEq] at hw
            obtain ⟨⟨rfl, rfl⟩, rfl⟩ := hw
            rw [if_pos rfl]
            exact wordsS_sh (fun n k t x m h => by
              simp only [Prod.mk.injEq, and_true] at h ⊢
              exact .inl ⟨h.1, by omega⟩) n2 k v' x m ha
          · simp only [Prod.mk.injEq] at hw
            obtain ⟨rfl, rfl⟩ := hw
            exact .inr rfl
        · rw [if_neg h2] at ha
          simp only [Prod.mk.injEq] at ha
          exact absurd ha.1.2 h2
      · simp only [Prod.mk.injEq, and_true] at ha
        obtain ⟨rfl, rfl⟩ := ha
        exact .inl rfl
    · simp only [Prod.mk.injEq] at hs
      obtain ⟨rfl, rfl⟩ := hs
      exact .inr rfl
  · rw [if_neg h0] at ha
    simp only [Prod.mk.injEq] at ha
    exact absurd ha.1.2 h0

theorem eachS_sh {E : Exp} (hE : ShE E) (V : Vs) (own c : Str) : Sh1 (eachS E V own c) := by
  intro n k w x m ha
  unfold eachS at ha ⊢
  split at ha
  · simp at ha
  · rename_i h
    split
    · exact .inr rfl
    · have := hE _ (n + 1) k c x m ha
      rwa [show n + 1 + k = n + k + 1 by omega] at this

theorem functionS_sh {E : Exp} (hE : ShE E) (V : Vs) (name : Str) (args : List Str) (n k : Nat) (x : Str) (m : Nat) (ha : functionS E V n name args = ((x, 0), m)) :
    functionS E V (n + k) name args = ((x, 0), m + k) ∨ (functionS E V (n + k) name args).1 = ([], 12) := by
  unfold functionS at ha ⊢
  split at ha
  · rename_i hif
    rw [if_pos hif]
    split at ha
    · rename_i a b r
      simp only
      have hs := hE V n k a
      generalize E V n a = z at ha hs
      generalize E V (n + k) a = z' at hs ⊢
      obtain ⟨⟨y, e⟩, n1⟩ := z
      obtain ⟨⟨y', e'⟩, n1'⟩ := z'
      simp only at ha ⊢
      by_cases h0 : e = 0
      · subst h0
        rw [if_pos rfl] at ha
        rcases hs y n1 rfl with hs | hs
        · simp only [Prod.mk.injEq] at hs
          obtain ⟨⟨rfl, rfl⟩, rfl⟩ := hs
          rw [if_pos rfl]
          split at ha
          · rename_i ht
            rw [if_pos ht]
            split at ha
            · simp only [Prod.mk.injEq, and_true] at ha
              obtain ⟨rfl, rfl⟩ := ha
              exact .inl rfl
            · exact hE V n1 k _ x m ha
          · rename_i ht
            rw [if_neg ht]
            exact hE V n1 k _ x m ha
        · simp only [Prod.mk.injEq] at hs
          obtain ⟨rfl, rfl⟩ := hs
          exact .inr rfl
      · rw [if_neg h0] at ha
        simp only [Prod.mk.injEq] at ha
        exact absurd ha.1.2 h0
    · simp only [Prod.mk.injEq, and_true] at ha
      obtain ⟨rfl, rfl⟩ := ha
      exact .inl rfl
  · rename_i hif
    rw [if_neg hif]
    split at ha
    · rename_i hfe
      rw [if_pos hfe]
      split at ha
      · rename_i a b c
        simp only
        have hs := allS_sh (hE V) [a, b] n k
        generalize allS (E V) n [a, b] = z at ha hs
        generalize allS (E V) (n + k) [a, b] = z' at hs ⊢
        obtain ⟨⟨l, e⟩, n1⟩ := z
        obtain ⟨⟨l', e'⟩, n1'⟩ := z'
        simp only at ha ⊢
        by_cases h0 : e = 0
        · subst h0
          rw [if_pos rfl] at ha
          rcases hs l n1 rfl with hs | hs
          · simp only [Prod.mk.injEq] at hs
            obtain ⟨⟨rfl, rfl⟩, rfl⟩ := hs
            rw [if_pos rfl]
            split at ha
            · exact wordsS_sh (eachS_sh hE V _ c) n1 k _ x m ha
            · simp only [Prod.mk.injEq, and_true] at ha
              obtain ⟨rfl, rfl⟩ := ha
              exact .inl rfl
          · simp only [Prod.mk.injEq] at hs
            obtain ⟨rfl, rfl⟩ := hs
            exact .inr rfl
        · rw [if_neg h0] at ha
          simp only [Prod.mk.injEq] at ha
          exact absurd ha.1.2 h0
      · simp only [Prod.mk.injEq, and_true] at ha
        obtain ⟨rfl, rfl⟩ := ha
        exact .inl rfl
    · rename_i hfe
      rw [if_neg hfe]
      have hs := allS_sh (hE V) args n k
      generalize allS (E V) n args = z at ha hs
      generalize allS (E V) (n + k) args = z' at hs ⊢
      obtain ⟨⟨l, e⟩, n1⟩ := z
      obtain ⟨⟨l', e'⟩, n1'⟩ := z'
      simp only at ha ⊢
      by_cases h0 : e = 0
      · subst h0
        rw [if_pos rfl] at ha
        rcases hs l n1 rfl with hs | hs
        · simp only [Prod.mk.injEq] at hs
          obtain ⟨⟨rfl, rfl⟩, rfl⟩ := hs
          rw [if_pos rfl]
          split at ha
          · rename_i hc
            rw [if_pos hc]
            split at ha
            · split at ha
              · simp only [Prod.mk.injEq, and_true] at ha
                obtain ⟨rfl, rfl⟩ := ha
                exact .inl rfl
              · exact hE _ n1 k _ x m ha
            · simp only [Prod.mk.injEq, and_true] at ha
              obtain ⟨rfl, rfl⟩ := ha
              exact .inl rfl
          · rename_i hc
            rw [if_neg hc]
            simp only [Prod.mk.injEq] at ha
            obtain ⟨h1, rfl⟩ := ha
            exact .inl (by rw [h1])
        · simp only [Prod.mk.injEq] at hs
          obtain ⟨rfl, rfl⟩ := hs
          exact .inr rfl
      · rw [if_neg h0] at ha
        simp only [Prod.mk.injEq] at ha
        exact absurd ha.1.2 h0

theorem restS_sh {E W : Exp} (hE : ShE E) (hW : ShE W) (V : Vs) : Sh1 (restS E W V) := by
  intro n k c x m ha
  unfold restS at ha ⊢
  split at ha
  · rename_i h
    rw [if_pos h]
    exact turnedS_sh hE hW V _ _ _ n k x m ha
  · rename_i h
    rw [if_neg h]
    split at ha
    · rename_i h0
      obtain ⟨y, n1, he⟩ := ans0 h0
      rw [he] at ha
      rcases hE V n k c y n1 he with e | e
      · rw [e]
        exact hW V n1 k y x m ha
      · right; rw [e]; rfl
    · rename_i h0
      simp only [Prod.mk.injEq] at ha
      exact absurd ha.1.2 h0

theorem bodyS_sh {E W : Exp} (hE : ShE E) (hW : ShE W) (V : Vs) : Sh1 (bodyS E W V) := by
  intro n k c x m ha
  unfold bodyS at ha ⊢
  split at ha
  · split at ha
    · rename_i h
      simp only [h, if_true]
      exact restS_sh hE hW V n k c x m ha
    · rename_i h
      simp only [h, if_false]
      split at ha
      · simp at ha
      · rename_i h2
        simp only [h2, if_false]
        exact functionS_sh hE V _ _ n k x m ha
  · exact restS_sh hE hW V n k c x m ha

def ShL (L : Option (Exp × Exp)) : Prop := ∀ p, L = some p → ShE p.1 ∧ ShE p.2

theorem refS_sh {L : Option (Exp × Exp)} (h : ShL L) (V : Vs) : Sh1 (refS L V) := by
  intro n k c x m ha
  cases L with
  | none => simp [refS] at ha
  | some p =>
    simp only [refS] at ha ⊢
    split at ha
    · simp at ha
    · split
      · exact .inr rfl
      · have := bodyS_sh (h p rfl).1 (h p rfl).2 V (n + 1) k c x m ha
        rwa [show n + 1 + k = n + k + 1 by omega] at this

theorem valS_sh {L : Option (Exp × Exp)} (h : ShL L) : ShE (valS L) := by
  intro V n k c x m ha
  unfold valS at ha ⊢
  split at ha
  · simp only [Prod.mk.injEq, and_true] at ha
    obtain ⟨rfl, rfl⟩ := ha
    exact .inl rfl
  · split at ha
    · rename_i hs
      simp only [Prod.mk.injEq, and_true] at ha
      obtain ⟨rfl, rfl⟩ := ha
      left
      simp only [hs, if_true]
    · rename_i hs
      simp only [if_neg hs]
      cases L with
      | none => simp at ha
      | some p =>
        simp only at ha ⊢
        split at ha
        · simp at ha
        · split
          · exact .inr rfl
          · have := (h p rfl).1 V (n + 1) k _ x m ha
            rwa [show n + 1 + k = n + k + 1 by omega] at this

theorem exT_sh {ref val : Nat → Str → Ans} (hr : Sh1 ref) (hv : Sh1 val) : ∀ (f : Nat) (acc : Str) (n : Nat) (t y : Str) (m : Nat), exT ref val f acc n t = ((y, 0), m) →
    ∃ w, shortS (acc ++ w) = (y, 0) ∧ ∀ acc' k, exT ref val f acc' (n + k) t = (shortS (acc' ++ w), m + k) ∨ (exT ref val f acc' (n + k) t).1 = ([], 12)
  | 0, acc, n, t, y, m, h => by simp [exT] at h
  | f + 1, acc, n, [], y, m, h => by
    simp only [exT, Prod.mk.injEq] at h
    obtain ⟨h1, rfl⟩ := h
    exact ⟨[], by simpa using h1, fun acc' k => .inl (by simp [exT])⟩
  | f + 1, acc, n, c :: r, y, m, h => by
    simp only [exT] at h ⊢
    by_cases hc : c = 36
    · rw [if_pos hc] at h
      simp only [if_pos hc]
      cases r with
      | nil => simp at h
      | cons d r' =>
        simp only at h ⊢
        by_cases hd : d = 36
        · rw [if_pos hd] at h
          simp only [if_pos hd]
          obtain ⟨w, h1, h2⟩ := exT_sh hr hv f _ n r' y m h
          exact ⟨36 :: w, by simpa using h1, fun acc' k => by have := h2 (acc' ++ [36]) k; simpa using this⟩
        · rw [if_neg hd] at h
          simp only [if_neg hd]
          by_cases ho : d = 40 ∨ d = 123
          · rw [if_pos ho] at h
            simp only [if_pos ho]
            split at h
            · simp at h
            · rename_i i hi
              split at h
              · rename_i h0
                obtain ⟨z, n1, he⟩ := ans0 h0
                rw [he] at h
                obtain ⟨w, h1, h2⟩ := exT_sh hr hv f _ n1 _ y m h
                refine ⟨z ++ w, by simpa using h1, fun acc' k => ?_⟩
                rcases hr n k _ z n1 he with e | e
                · rw [e]
                  have := h2 (acc' ++ z) k
                  simpa using this
                · right; rw [e]; rfl
              · rename_i h0
                simp only [Prod.mk.injEq] at h
                exact absurd h.1.2 h0
          · rw [if_neg ho] at h
            simp only [if_neg ho]
            split at h
            · rename_i h0
              obtain ⟨z, n1, he⟩ := ans0 h0
              rw [he] at h
              obtain ⟨w, h1, h2⟩ := exT_sh hr hv f _ n1 _ y m h
              refine ⟨z ++ w, by simpa using h1, fun acc' k => ?_⟩
              rcases hv n k _ z n1 he with e | e
              · rw [e]
                have := h2 (acc' ++ z) k
                simpa using this
              · right; rw [e]; rfl
            · rename_i h0
              simp only [Prod.mk.injEq] at h
              exact absurd h.1.2 h0
    · rw [if_neg hc] at h
      simp only [if_neg hc]
      obtain ⟨w, h1, h2⟩ := exT_sh hr hv f _ n r y m h
      exact ⟨c :: w, by simpa using h1, fun acc' k => by have := h2 (acc' ++ [c]) k; simpa using this⟩

theorem expS_sh {L : Option (Exp × Exp)} (h : ShL L) : ShE (expS L) := by
  intro V n k t x m ha
  obtain ⟨w, h1, h2⟩ := exT_sh (refS_sh h V) (valS_sh h V) _ [] n t x m ha
  have := h2 [] k
  rw [h1] at this
  exact this

theorem lev_sh : ∀ k, ShL (lev k)
  | 0 => fun p h => by cases h
  | k + 1 => fun p h => by
    simp only [lev, Option.some.injEq] at h
    subst h
    exact ⟨expS_sh (lev_sh k), valS_sh (lev_sh k)⟩

end Go.Proofs.YtmcfnnpihlediaaGreatDoor.Ex

/- A text behind a text; a text without a dollar sign. -/
namespace Go.Proofs.YtmcfnnpihlediaaGreatDoor.Ex
open Go

theorem opens_app {c : UInt8} {r : Str} (b : Str) (h : c ≠ 36 ∨ r ≠ []) : opens (c :: (r ++ b)) = opens (c :: r) := by
  cases r with
  | nil =>
    have hc : c ≠ 36 := by simpa using h
    cases b with
    | nil => rfl
    | cons d b => simp [opens, hc]
  | cons d r => rfl

theorem closeI_app (b : Str) : ∀ (f : Nat) (st s : Str) (i : Nat), (∀ d ∈ st, d = 41 ∨ d = 125) → closeI f st s = some i → closeI (f + b.length) st (s ++ b) = some i ∧ i < s.length
  | 0, _, _, _, _, h => by simp [closeI] at h
  | f + 1, st, [], i, _, h => by simp [closeI] at h
  | f + 1, st, c :: r, i, hst, h => by
    rw [show f + 1 + b.length = f + b.length + 1 by omega]
    by_cases hl : c = 36 ∧ r = []
    · obtain ⟨rfl, rfl⟩ := hl
      have hn : ∀ st : Str, closeI f st [] = none := fun st => by cases f <;> rfl
      cases st with
      | nil => simp [closeI, opens, hn] at h
      | cons d st =>
        have hd : ¬ (36 : UInt8) = d := fun e => by
          have := hst d (by simp)
          subst e; rcases this with h | h <;> exact absurd h (by decide)
        simp [closeI, opens, hd, hn] at h
    · have ho : opens (c :: (r ++ b)) = opens (c :: r) := opens_app b (by
        by_cases hc : c = 36
        · exact .inr fun e => hl ⟨hc, e⟩
        · exact .inl hc)
      simp only [List.cons_append, closeI, ho] at h ⊢
      cases hop : opens (c :: r) with
      | some d =>
        rw [hop] at h
        simp only [Option.map_eq_some_iff] at h ⊢
        obtain ⟨j, hj, rfl⟩ := h
        have hr : r ≠ [] := fun e => by subst e; simp [opens] at hop
        obtain ⟨e, r', rfl⟩ := List.exists_cons_of_ne_nil hr
        simp only [List.drop_succ_cons, List.drop_zero, List.cons_append] at hj ⊢
        have hd : d = 41 ∨ d = 125 := by
          simp only [opens] at hop
          split at hop
          · split at hop
            · injection hop with h; exact .inl h.symm
            · split at hop
              · injection hop with h; exact .inr h.symm
              · cases hop
          · cases hop
        have := closeI_app b f (d :: st) r' j (fun x hx => by rcases List.mem_cons.1 hx with rfl | hx; exact hd; exact hst x hx) hj
        exact ⟨⟨j, this.1, rfl⟩, by simp; omega⟩
      | none =>
        rw [hop] at h
        simp only at h ⊢
        cases st with
        | nil =>
          simp only [Option.map_eq_some_iff] at h ⊢
          obtain ⟨j, hj, rfl⟩ := h
          have := closeI_app b f [] r j (by simp) hj
          exact ⟨⟨j, this.1, rfl⟩, by simp; omega⟩
        | cons d st =>
          simp only at h ⊢
          by_cases hc : c = d
          · rw [if_pos hc] at h ⊢
            by_cases hs : st = []
            · rw [if_pos hs] at h ⊢
              injection h with h
              exact ⟨by rw [h], by rw [← h]; simp⟩
            · rw [if_neg hs] at h ⊢
              simp only [Option.map_eq_some_iff] at h ⊢
              obtain ⟨j, hj, rfl⟩ := h
              have := closeI_app b f st r j (fun x hx => hst x (by simp [hx])) hj
              exact ⟨⟨j, this.1, rfl⟩, by simp; omega⟩
          · rw [if_neg hc] at h ⊢
            simp only [Option.map_eq_some_iff] at h ⊢
            obtain ⟨j, hj, rfl⟩ := h
            have := closeI_app b f (d :: st) r j hst hj
            exact ⟨⟨j, this.1, rfl⟩, by simp; omega⟩

theorem exT_app (ref val : Nat → Str → Ans) (b : Str) : ∀ (f : Nat) (acc : Str) (n : Nat) (a x : Str) (m : Nat), a.length < f → exT ref val f acc n a = ((x, 0), m) → exT ref val (f + b.length) acc n (a ++ b) = exT ref val (b.length + 1) x m b ∧ x.length ≤ 4000
  | 0, _, _, _, _, _, h, _ => by omega
  | f + 1, acc, n, [], x, m, hf, h => by
    simp only [exT, Prod.mk.injEq] at h
    obtain ⟨h1, rfl⟩ := h
    obtain ⟨rfl, hl⟩ := shortS_0 h1
    rw [List.nil_append]
    exact ⟨exT_fuel ref val _ _ _ _ _ (by omega) (by omega), hl⟩
  | f + 1, acc, n, c :: r, x, m, hf, h => by
    simp only [List.length_cons] at hf
    rw [show f + 1 + b.length = f + b.length + 1 by omega]
    simp only [exT, List.cons_append] at h ⊢
    by_cases hc : c = 36
    · rw [if_pos hc] at h ⊢
      cases r with
      | nil => simp at h
      | cons d r' =>
        simp only [List.length_cons] at hf
        simp only [List.cons_append] at h ⊢
        by_cases hd : d = 36
        · rw [if_pos hd] at h ⊢
          exact exT_app ref val b f _ n r' x m (by omega) h
        · rw [if_neg hd] at h ⊢
          by_cases ho : d = 40 ∨ d = 123
          · rw [if_pos ho] at h ⊢
            split at h
            · simp at h
            · rename_i i hi
              have hcl := closeI_app b _ [] _ i (by simp) hi
              have e1 : (d :: (r' ++ b)).length + 2 = (d :: r').length + 2 + b.length := by simp; omega
              have e2 : c :: d :: (r' ++ b) = (c :: d :: r') ++ b := rfl
              rw [e1, e2, hcl.1]
              simp only
              have hil := hcl.2
              rw [List.take_append_of_le_length (by omega), List.drop_append_of_le_length (by omega)]
              split at h
              · rename_i h0
                rw [if_pos h0]
                exact exT_app ref val b f _ _ _ x m (by simp; omega) h
              · rename_i h0
                simp only [Prod.mk.injEq] at h
                exact absurd h.1.2 h0
          · rw [if_neg ho] at h ⊢
            split at h
            · rename_i h0
              rw [if_pos h0]
              exact exT_app ref val b f _ _ r' x m (by omega) h
            · rename_i h0
              simp only [Prod.mk.injEq] at h
              exact absurd h.1.2 h0
    · rw [if_neg hc] at h ⊢
      exact exT_app ref val b f _ n r x m (by omega) h

/-- What two texts come to, put together. -/
theorem expand_app (V : Vs) (a b x y : Str) (ha : expandS V a = (x, 0)) (hb : expandS V b = (y, 0)) :
    (expandS V (a ++ b) = (x ++ y, 0)) ∨ (expandS V (a ++ b) = ([], 3) ∧ 4000 < x.length + y.length) ∨ expandS V (a ++ b) = ([], 12) := by
  unfold expandS at ha hb ⊢
  obtain ⟨x', m, he⟩ := ans0 (z := expS (lev 20) V 0 a) (by rw [ha])
  rw [he] at ha
  simp only [Prod.mk.injEq, and_true] at ha
  subst ha
  obtain ⟨y', m2, he2⟩ := ans0 (z := expS (lev 20) V 0 b) (by rw [hb])
  rw [he2] at hb
  simp only [Prod.mk.injEq, and_true] at hb
  subst hb
  have h1 := exT_app (refS (lev 20) V) (valS (lev 20) V) b (a.length + 1) [] 0 a x' m (by omega) he
  obtain ⟨w, h2, h3⟩ := exT_sh (refS_sh (lev_sh 20) V) (valS_sh (lev_sh 20) V) _ [] 0 b y' m2 he2
  rw [List.nil_append] at h2
  obtain ⟨rfl, hw⟩ := shortS_0 h2
  have h4 := h3 x' m
  rw [Nat.zero_add] at h4
  rw [expS, show (a ++ b).length + 1 = a.length + 1 + b.length by simp; omega, h1.1]
  rcases h4 with h4 | h4
  · rw [h4]
    by_cases hl : 4000 < x'.length + y'.length
    · right; left
      exact ⟨by unfold shortS; rw [if_pos (by simpa using hl)], hl⟩
    · left
      exact shortS_le (by simp; omega)
  · exact .inr (.inr h4)

def escS : Str → Str
  | [] => []
  | c :: r => if c = 36 then 36 :: 36 :: escS r else c :: escS r

theorem exT_esc (ref val : Nat → Str → Ans) : ∀ (a : Str) (f : Nat) (acc : Str) (n : Nat), (escS a).length < f → exT ref val f acc n (escS a) = (shortS (acc ++ a), n)
  | [], f + 1, acc, n, _ => by simp [escS, exT]
  | c :: r, f + 1, acc, n, h => by
    by_cases hc : c = 36
    · subst hc
      simp only [escS, if_true, List.length_cons] at h
      simp only [escS, if_true, exT]
      rw [exT_esc ref val r f _ n (by omega)]
      simp
    · simp only [escS, if_neg hc, List.length_cons] at h
      simp only [escS, if_neg hc, exT]
      rw [exT_esc ref val r f _ n (by omega)]
      simp
  | _, 0, _, _, h => by omega

theorem expand_esc (V : Vs) (a : Str) (h : a.length ≤ 4000) : expandS V (escS a) = (a, 0) := by
  unfold expandS
  rw [expS, exT_esc _ _ a _ _ _ (by omega)]
  exact shortS_le (by simpa using h)

theorem escS_none : ∀ a : Str, 36 ∉ a → escS a = a
  | [], _ => rfl
  | c :: r, h => by
    have hc : c ≠ 36 := fun e => h (by simp [e])
    rw [escS, if_neg hc, escS_none r fun e => h (by simp [e])]
theorem escS_app : ∀ a b : Str, escS (a ++ b) = escS a ++ escS b
  | [], b => rfl
  | c :: r, b => by
    simp only [List.cons_append, escS]
    split <;> simp [escS_app r b]
theorem escS_len : ∀ a : Str, (escS a).length ≤ 2 * a.length
  | [] => by simp [escS]
  | c :: r => by
    have := escS_len r
    simp only [escS]
    split <;> simp <;> omega

end Go.Proofs.YtmcfnnpihlediaaGreatDoor.Ex

/- The law VarsPlain. -/
namespace Go.Proofs.YtmcfnnpihlediaaGreatDoor.Ex
open Go
attribute [-simp] rgn rgnD exec_seq exec_cond exec_block keepS

theorem expand_len (V : Vs) (a x : Str) (h : expandS V a = (x, 0)) : x.length ≤ 4000 := by
  unfold expandS at h
  obtain ⟨x', m, he⟩ := ans0 (z := expS (lev 20) V 0 a) (by rw [h])
  rw [he] at h
  simp only [Prod.mk.injEq, and_true] at h
  subst h
  exact (exT_app (refS (lev 20) V) (valS (lev 20) V) [] (a.length + 1) [] 0 a x' m (by omega) he).2

def plI (a b : Str) (A : Vs) (j : Nat) (pf : PF) : Prop := pf 1 = .str a ∧ pf 2 = .str b ∧ pf 8 = .box 0 0 ∧ pf 11 = .str (escS (a.take j)) ∧ pf 12 = .bool (decide (36 ∉ a.take j)) ∧ pf 13 = .int .i64 j

section
variable [XX]

set_option maxHeartbeats 8000000 in
theorem law4v (hX : FullV) (n : Nat) (hn : 3001000 ≤ n) (V0 : Vs) (a b : Str) : CP (F (n + 1)) 4 [rowAV V0, .str a, .str b] (.bool true) := by
  obtain ⟨n, rfl⟩ : ∃ q, n = q + 2 := ⟨n - 2, by omega⟩
  have c11 := v11 hX (n + 1) (by omega)
  have c12 := v12 hX n V0 (by omega)
  have hg := rowsL_good V0
  generalize rowsL V0 = z at *
  obtain ⟨A, ok⟩ := z
  simp only at c12 hg
  have hok := hg.ok (by omega)
  simp only [CP, rowAV, varsAV] at c11 c12
  have hrs : ∃ S, runFn Tryz.prog own1 (F (n + 2)) (n + 2) Tryz.f4 (Tryz.f4.body.getD .skip) [rowAV V0, .str a, .str b] [] = some ([.bool true], S) := by
    cases ok
    · simp [runFn, Tryz.f4, rowAV, c11, c12]
    · by_cases g1 : 800 < a.length
      · have g1' : decide (800 < (a.length : Int)) = true := by simp; omega
        simp [runFn, Tryz.f4, rowAV, c11, c12, g1']
      · have g1' : decide (800 < (a.length : Int)) = false := by simp; omega
        by_cases g2 : 800 < b.length
        · have g2' : decide (800 < (b.length : Int)) = true := by simp; omega
          simp [runFn, Tryz.f4, rowAV, c11, c12, g1', g2']
        · have g2' : decide (800 < (b.length : Int)) = false := by simp; omega
          simp [runFn, Tryz.f4, rowAV, c11, c12, g1', g2']
          generalize hI : iter _ _ _ = r
          obtain ⟨pf', rfl, p1, p2, p8, p11, p12, p13⟩ := iter_count 0 (plI a b A) a.length
            (fun j pf hj h => by
              obtain ⟨p1, p2, p8, p11, p12, p13⟩ := h
              have hat : a[j]? = some a[j] := List.getElem?_eq_getElem hj
              have w1 : IntKind.wrap .i64 ((j : Int) + 1) = (j : Int) + 1 := wrap64 (by omega) (by omega)
              have hb := byte_eq a[j] 36 (by decide)
              have he1 := escS_len (a.take j)
              have he2 : (a.take j).length ≤ 800 := by rw [List.length_take]; omega
              have hsl : List.take 1 (List.drop j a) = [a[j]] := by
                rw [List.drop_eq_getElem_cons hj]; rfl
              have b1 : (0 : Int) ≤ (j : Int) + 1 := by omega
              have b2 : (j : Int) + 1 ≤ (a.length : Int) := by omega
              have b3 : (j : Int) ≤ (j : Int) + 1 := by omega
              have t1 : ((j : Int) + 1).toNat = j + 1 := by omega
              have l1 : (escS (a.take j)).length + 1 ≤ 9223372036854775807 := by omega
              have l2 : (escS (a.take j)).length + 1 + 1 ≤ 9223372036854775807 := by omega
              have l3 : (escS (a.take j)).length + 2 ≤ 9223372036854775807 := by omega
              have hmn : min 1 (a.length - j) = 1 := by omega
              have htk := List.take_succ_eq_append_getElem hj
              by_cases hc : a[j] = 36
              · have hb' : (((a[j]).toNat : Int) == 36) = true := by rw [show (36 : Int) = ((36 : Nat) : Int) from rfl, hb]; simp [hc]
                refine ⟨_, by simp [p1, p2, p8, p11, p12, p13, hj, hat, hb', w1, hsl, b1, b2, b3, t1, l1, l2, l3, hmn]; rfl, ?_⟩
                refine ⟨by simp [p1], by simp [p2], by simp [p8], ?_, ?_, by simp⟩
                · rw [htk, escS_app]; simp [hc, escS]
                · rw [htk]; simp [hc]
              · have hb' : (((a[j]).toNat : Int) == 36) = false := by rw [show (36 : Int) = ((36 : Nat) : Int) from rfl, hb]; simpa using hc
                have hc' : ¬ 36 = a[j] := fun e => hc e.symm
                refine ⟨_, by simp [p1, p2, p8, p11, p12, p13, hj, hat, hb', w1, hsl, b1, b2, b3, t1, l1, l2, l3, hmn]; rfl, ?_⟩
                refine ⟨by simp [p1], by simp [p2], by simp [p8], ?_, ?_, by simp⟩
                · rw [htk, escS_app]; simp [hc, escS]
                · have hiff : (36 ∉ a.take (j + 1)) ↔ (36 ∉ a.take j) := by rw [htk]; simp only [List.mem_append, List.mem_singleton, hc', or_false]
                  have e : decide (36 ∉ a.take (j + 1)) = decide (36 ∉ a.take j) := by rw [decide_eq_decide]; exact hiff
                  rw [e]
                  simp [p12])
            (fun pf h => by
              obtain ⟨p1, p2, p8, p11, p12, p13⟩ := h
              refine ⟨_, by simp [p1, p13]; rfl, ?_⟩
              refine ⟨by simp [p1], by simp [p2], by simp [p8], by simp [p11], by simp [p12], by simp [p13]⟩)
            a.length 0 (n + 2) _ r (by omega) hI (by simp [plI, escS]) (by omega)
          rw [List.take_length] at p11 p12
          have hel := escS_len a
          have q0 := v13 hX (n + 1) (by omega) A (escS a) hok (by omega)
          rw [expand_esc A a (by omega)] at q0
          have qof := v18 hX (n + 2) (by omega) A a hok (by omega)
          have q1 := v13 hX (n + 1) (by omega) A a hok (by omega)
          have q2 := v13 hX (n + 1) (by omega) A b hok (by omega)
          have q3 := v13 hX (n + 1) (by omega) A (a ++ b) hok (by simp; omega)
          have happ := expand_app A a b
          have hx4 := expand_len A a
          have hy4 := expand_len A b
          have hof : 36 ∉ a → expandS A a = (a, 0) := fun h => by
            have := expand_esc A a (by omega)
            rwa [escS_none a h] at this
          generalize expandS A a = xe at *
          generalize expandS A b = ye at *
          generalize expandS A (a ++ b) = ze at *
          obtain ⟨x, ex⟩ := xe
          obtain ⟨y, ey⟩ := ye
          obtain ⟨z, ez⟩ := ze
          simp only [CP, varsAV, rowAV] at q0 qof q1 q2 q3
          have hl0 : a.length + b.length ≤ 9223372036854775807 := by omega
          have hnd : ∀ d : Bool, decide (36 ∉ a) = d → (d = true → x = a) := fun d h1 h2 => by
            subst h1
            have := hof (by simpa using h2)
            simp only [Prod.mk.injEq] at this
            exact this.1
          obtain ⟨dd, hdd⟩ : ∃ dd, decide (36 ∉ a) = dd := ⟨_, rfl⟩
          have hnd := hnd dd hdd
          rw [hdd] at p12
          have haa : (a == a) = true := by simp
          have hxa : dd = true → (x == a) = true := fun h => by simpa using hnd h
          by_cases hex : ex = 0
          · subst hex
            by_cases hey : ey = 0
            · subst hey
              have hx4 := hx4 x rfl
              have hy4 := hy4 y rfl
              have l1 : x.length + y.length ≤ 9223372036854775807 := by omega
              have w1 : IntKind.wrap .i64 ((x.length : Int) + (y.length : Int)) = (x.length : Int) + (y.length : Int) := wrap64 (by omega) (by omega)
              rcases happ x y rfl rfl with h | ⟨h, h4⟩ | h
              · simp only [Prod.mk.injEq] at h
                obtain ⟨rfl, rfl⟩ := h
                cases dd
                · simp [p1, p2, p8, p11, p12, q0, q1, q2, q3, qof, hl0, l1, w1]
                · have hxa := hnd rfl
                  subst hxa
                  simp [p1, p2, p8, p11, p12, q0, q1, q2, q3, qof, hl0, l1, w1]
              · simp only [Prod.mk.injEq] at h
                obtain ⟨rfl, rfl⟩ := h
                have h4' : decide (4000 < (x.length : Int) + (y.length : Int)) = true := by simp; omega
                cases dd
                · simp [p1, p2, p8, p11, p12, q0, q1, q2, q3, qof, hl0, l1, w1, h4']
                · have hxa := hnd rfl
                  subst hxa
                  simp [p1, p2, p8, p11, p12, q0, q1, q2, q3, qof, hl0, l1, w1, h4']
              · simp only [Prod.mk.injEq] at h
                obtain ⟨rfl, rfl⟩ := h
                cases dd
                · simp [p1, p2, p8, p11, p12, q0, q1, q2, q3, qof, hl0, l1, w1]
                · have hxa := hnd rfl
                  subst hxa
                  simp [p1, p2, p8, p11, p12, q0, q1, q2, q3, qof, hl0, l1, w1]
            · have hey' : ((ey : Int) != 0) = true := by simp; omega
              cases dd
              · simp [p1, p2, p8, p11, p12, q0, q1, q2, q3, qof, hl0, hey']
              · have hxa := hnd rfl
                subst hxa
                simp [p1, p2, p8, p11, p12, q0, q1, q2, q3, qof, hl0, hey']
          · have hex' : ((ex : Int) != 0) = true := by simp; omega
            cases dd
            · simp [p1, p2, p8, p11, p12, q0, q1, q2, q3, qof, hl0, hex']
            · have hxa := hnd rfl
              subst hxa
              simp [p1, p2, p8, p11, p12, q0, q1, q2, q3, qof, hl0, hex']
  obtain ⟨S, h⟩ := hrs
  refine F_cp (rs := [.bool true]) (S := S) (by simp only [noBoxL, noBox, noBox_row, Bool.and_self]) rfl ?_
  rw [F_fn rfl rfl rfl Tryz.func4 rfl]
  exact h

end
end Go.Proofs.YtmcfnnpihlediaaGreatDoor.Ex

/- What conditions, calls and repetitions come to. -/
namespace Go.Proofs.YtmcfnnpihlediaaGreatDoor.Ex
open Go

/-- No sign. -/
def plainC (c : UInt8) : Prop := c ≠ 36 ∧ c ≠ 58 ∧ c ≠ 32 ∧ c ≠ 9 ∧ c ≠ 41

theorem opens_ne {c : UInt8} (h : c ≠ 36) (r : Str) : opens (c :: r) = none := by
  cases r with
  | nil => rfl
  | cons d r => simp [opens, h]

theorem plain_close {c : UInt8} (h : plainC c) (n : Nat) (r : Str) : closeI (n + 5) [] (36 :: 40 :: c :: 41 :: r) = some 3 := by
  obtain ⟨h1, _, _, _, h2⟩ := h
  have e1 : opens (c :: 41 :: r) = none := opens_ne h1 _
  have e2 : opens (41 :: r) = none := opens_ne (by decide) _
  have e3 : opens (36 :: 40 :: c :: 41 :: r) = some 41 := rfl
  simp [closeI, e1, e2, e3, h2]

theorem plain_exp (L : Option (Exp × Exp)) (V : Vs) (n : Nat) {c : UInt8} (h : c ≠ 36) : expS L V n [c] = (([c], 0), n) := by
  have h1 : (36 : UInt8) ∉ [c] := fun e => h (List.mem_singleton.1 e).symm
  rw [expS, exT_none _ _ _ _ _ h1]; rfl

/-- A simple variable's reference. -/
theorem ref_var (k : Nat) (V : Vs) (n : Nat) {c : UInt8} (h : plainC c) {nm t : Str} (hg : getV V [c] = some (nm, t, true)) (hn : n + 1 ≤ 2000) : refS (lev (k + 1)) V n [c] = ((t, 0), n + 1) := by
  obtain ⟨h1, h2, h3, h4, h5⟩ := h
  have hi : idxBl [c] = none := by simp [idxBl, isBl, h3, h4]
  have h6 : ¬ (58 : UInt8) = c := fun e => h2 e.symm
  have hc : cutS [c] [[58]] = ([c], [], []) := by simp [cutS, cutI, opens, isPre, h6]
  rw [lev]
  simp only [refS]
  rw [if_neg (by omega), bodyS, hi]
  simp only [restS]
  rw [hc]
  simp only [ne_eq, not_true_eq_false, false_and, if_false, plain_exp _ _ _ h1, if_true]
  rw [valS, hg]
  rfl

theorem exT_var (k : Nat) (V : Vs) (acc : Str) (n : Nat) (a : Str) (ha : 36 ∉ a) {c : UInt8} (h : plainC c) {nm t : Str} (hg : getV V [c] = some (nm, t, true)) (hn : n + 1 ≤ 2000) (r : Str) :
    exT (refS (lev (k + 1)) V) (valS (lev (k + 1)) V) ((a ++ 36 :: 40 :: c :: 41 :: r).length + 1) acc n (a ++ 36 :: 40 :: c :: 41 :: r) =
      exT (refS (lev (k + 1)) V) (valS (lev (k + 1)) V) (r.length + 1) (acc ++ a ++ t) (n + 1) r := by
  rw [exT_step _ _ _ _ _ _ _ ha, if_neg (by decide), if_pos (by decide)]
  rw [show (36 :: 40 :: c :: 41 :: r).length + 1 = r.length + 5 by simp, plain_close h]
  simp only [Option.map_some]
  have e1 : ((36 :: 40 :: c :: 41 :: r).take 3).drop 2 = [c] := rfl
  have e2 : (36 :: 40 :: c :: 41 :: r).drop (3 + 1) = r := rfl
  rw [e1, e2, ref_var k V n h hg hn]
  simp only [if_true]

theorem exp_var (k : Nat) (V : Vs) (n : Nat) {c : UInt8} (h : plainC c) {nm t : Str} (hg : getV V [c] = some (nm, t, true)) (hn : n + 1 ≤ 2000) (ht : t.length ≤ 4000) : expS (lev (k + 1)) V n [36, 40, c, 41] = ((t, 0), n + 1) := by
  have := exT_var k V [] n [] (by simp) h hg hn []
  rw [expS]
  simp only [List.nil_append] at this
  rw [show List.length [36, 40, c, 41] + 1 = List.length (36 :: 40 :: c :: 41 :: []) + 1 from rfl, this]
  simp only [exT]
  rw [shortS_le (by simpa using ht)]

/-- One reference alone. -/
theorem exp_ref (L : Option (Exp × Exp)) (V : Vs) (n : Nat) (body : Str) (hcl : closeI ((36 :: 40 :: (body ++ [41])).length + 1) [] (36 :: 40 :: (body ++ [41])) = some (body.length + 2)) {t : Str} {m : Nat} (hr : refS L V n body = ((t, 0), m)) (ht : t.length ≤ 4000) :
    expS L V n (36 :: 40 :: (body ++ [41])) = ((t, 0), m) := by
  have := exT_step (refS L V) (valS L V) [] n [] 40 (body ++ [41]) (by simp)
  simp only [List.nil_append] at this
  rw [expS, this, if_neg (by decide), if_pos (by decide), hcl]
  simp only [Option.map_some]
  have e1 : ((36 :: 40 :: (body ++ [41])).take (body.length + 2)).drop 2 = body := by simp
  have e2 : (36 :: 40 :: (body ++ [41])).drop (body.length + 2 + 1) = [] := by simp
  rw [e1, e2, hr]
  simp only [if_true, List.length_nil, exT, List.nil_append]
  rw [shortS_le ht]

/-! ### The law's variables -/
def waysV (a b c : Str) : Vs := [([97], a, true), ([98], b, true), ([99], c, true), ([102], [91, 36, 40, 49, 41, 124, 36, 40, 50, 41, 93], false)]
theorem rows_ways (a b c : Str) : rowsS (waysV a b c) = waysV a b c := by
  simp [rowsS, waysV, setV, Op.bytesLess]

theorem ways_a (a b c : Str) : getV (waysV a b c) [97] = some ([97], a, true) := rfl
theorem ways_b (a b c : Str) : getV (waysV a b c) [98] = some ([98], b, true) := rfl
theorem ways_c (a b c : Str) : getV (waysV a b c) [99] = some ([99], c, true) := rfl

theorem ways_if (a b c : Str) (ha : a.length ≤ 800) (hb : b.length ≤ 800) (hc : c.length ≤ 800) :
    expandS (waysV a b c) [36,40,105,102,32,36,40,97,41,44,36,40,98,41,44,36,40,99,41,41] = (if trimB a = [] then c else b, 0) := by
  have hr : ∃ m, refS (lev 20) (waysV a b c) 0 [105,102,32,36,40,97,41,44,36,40,98,41,44,36,40,99,41] = ((if trimB a = [] then c else b, 0), m) := by
    rw [lev]
    simp only [refS]
    rw [if_neg (by omega), bodyS, show idxBl [105,102,32,36,40,97,41,44,36,40,98,41,44,36,40,99,41] = some (1 + 1) from by decide]
    simp only
    rw [show ([105,102,32,36,40,97,41,44,36,40,98,41,44,36,40,99,41] : Str).take (1 + 1) = [105, 102] from rfl, show takesL [105, 102] = (2, 3) from rfl]
    simp only
    rw [show argsL ((([105,102,32,36,40,97,41,44,36,40,98,41,44,36,40,99,41] : Str).drop (1 + 1)).dropWhile isBl) 3 = [[36,40,97,41], [36,40,98,41], [36,40,99,41]] from by decide +kernel]
    rw [if_neg (by decide), if_neg (by decide), functionS, if_pos rfl]
    simp only
    rw [exp_var 18 _ _ (by unfold plainC; decide) (ways_a a b c) (by omega) (by omega)]
    simp only [if_true]
    by_cases ht : trimB a = []
    · rw [if_pos ht, if_pos ht, exp_var 18 _ _ (by unfold plainC; decide) (ways_c a b c) (by omega) (by omega)]
      exact ⟨_, rfl⟩
    · rw [if_neg ht, if_neg ht, exp_var 18 _ _ (by unfold plainC; decide) (ways_b a b c) (by omega) (by omega)]
      exact ⟨_, rfl⟩
  obtain ⟨m, hr⟩ := hr
  unfold expandS
  rw [show ([36,40,105,102,32,36,40,97,41,44,36,40,98,41,44,36,40,99,41,41] : Str) = 36 :: 40 :: ([105,102,32,36,40,97,41,44,36,40,98,41,44,36,40,99,41] ++ [41]) from rfl,
    exp_ref _ _ _ _ (by decide +kernel) hr (by split <;> omega)]

end Go.Proofs.YtmcfnnpihlediaaGreatDoor.Ex

/- What a call, a repetition, and two references come to; how many words there are. -/
namespace Go.Proofs.YtmcfnnpihlediaaGreatDoor.Ex
open Go

theorem ways_two (a b c : Str) (ha : a.length ≤ 800) (hb : b.length ≤ 800) : expandS (waysV a b c) [36,40,97,41,36,40,98,41] = (a ++ b, 0) := by
  unfold expandS
  have h1 := exT_var 19 (waysV a b c) [] 0 [] (by simp) (c := 97) (by unfold plainC; decide) (ways_a a b c) (by omega) [36, 40, 98, 41]
  have h2 := exT_var 19 (waysV a b c) a 1 [] (by simp) (c := 98) (by unfold plainC; decide) (ways_b a b c) (by omega) []
  simp only [List.nil_append, List.append_nil] at h1 h2
  rw [expS, show List.length ([36,40,97,41,36,40,98,41] : Str) + 1 = List.length ((36 : UInt8) :: 40 :: 97 :: 41 :: [36, 40, 98, 41]) + 1 from rfl, h1]
  rw [show List.length ([36,40,98,41] : Str) + 1 = List.length ((36 : UInt8) :: 40 :: 98 :: 41 :: []) + 1 from rfl, h2]
  simp only [exT, List.length_nil]
  exact shortS_le (by simp; omega)

theorem ways_call (a b c : Str) (ha : a.length ≤ 800) (hb : b.length ≤ 800) :
    expandS (waysV a b c) [36,40,99,97,108,108,32,102,44,36,40,97,41,44,36,40,98,41,41] = ([91] ++ a ++ [124] ++ b ++ [93], 0) := by
  have hF : ∀ (V : Vs) (n : Nat), getV V [49] = some ([49], a, true) → getV V [50] = some ([50], b, true) → n ≤ 100 → expS (lev 19) V n [91, 36, 40, 49, 41, 124, 36, 40, 50, 41, 93] = (([91] ++ a ++ [124] ++ b ++ [93], 0), n + 2) := fun V n h1 h2 hn => by
    have q1 := exT_var 18 V [] n [91] (by decide) (c := 49) (by unfold plainC; decide) h1 (by omega) [124, 36, 40, 50, 41, 93]
    have q2 := exT_var 18 V ([91] ++ a) (n + 1) [124] (by decide) (c := 50) (by unfold plainC; decide) h2 (by omega) [93]
    have q3 := exT_none (refS (lev 19) V) (valS (lev 19) V) ([91] ++ a ++ [124] ++ b) (n + 1 + 1) [93] (by decide)
    simp only [List.nil_append] at q1
    rw [expS]
    refine q1.trans (q2.trans (q3.trans ?_))
    rw [shortS_le (by simp; omega)]
  have hr : ∃ m, refS (lev 20) (waysV a b c) 0 [99,97,108,108,32,102,44,36,40,97,41,44,36,40,98,41] = (([91] ++ a ++ [124] ++ b ++ [93], 0), m) := by
    rw [lev]
    simp only [refS]
    rw [if_neg (by omega), bodyS, show idxBl [99,97,108,108,32,102,44,36,40,97,41,44,36,40,98,41] = some (3 + 1) from by decide]
    simp only
    rw [show ([99,97,108,108,32,102,44,36,40,97,41,44,36,40,98,41] : Str).take (3 + 1) = [99, 97, 108, 108] from rfl, show takesL [99, 97, 108, 108] = (1, 9) from rfl]
    simp only
    rw [show argsL ((([99,97,108,108,32,102,44,36,40,97,41,44,36,40,98,41] : Str).drop (3 + 1)).dropWhile isBl) 9 = [[102], [36,40,97,41], [36,40,98,41]] from by decide +kernel]
    rw [if_neg (by decide), if_neg (by decide), functionS, if_neg (by decide), if_neg (by decide)]
    have hall : allS (expS (lev 19) (waysV a b c)) (0 + 1) [[102], [36,40,97,41], [36,40,98,41]] = (([[102], a, b], 0), 0 + 1 + 1 + 1) := by
      simp only [allS]
      rw [plain_exp _ _ _ (by decide)]
      simp only [if_true]
      rw [exp_var 18 _ _ (by unfold plainC; decide) (ways_a a b c) (by omega) (by omega)]
      simp only [if_true]
      rw [exp_var 18 _ _ (by unfold plainC; decide) (ways_b a b c) (by omega) (by omega)]
      simp only [if_true]
    rw [hall]
    simp only [if_true]
    rw [show getV (waysV a b c) (trimB [102]) = some ([102], [91, 36, 40, 49, 41, 124, 36, 40, 50, 41, 93], false) from rfl]
    simp only [setArgs]
    rw [hF _ _ ?_ ?_ (by omega)]
    · exact ⟨_, rfl⟩
    · rw [getV_set_ne _ _ (show ([49] : Str) ≠ decL 2 by decide)]
      exact getV_set_same (decL 1, a, true) _
    · exact getV_set_same (decL 2, b, true) _
  obtain ⟨m, hr⟩ := hr
  unfold expandS
  rw [show ([36,40,99,97,108,108,32,102,44,36,40,97,41,44,36,40,98,41,41] : Str) = 36 :: 40 :: ([99,97,108,108,32,102,44,36,40,97,41,44,36,40,98,41] ++ [41]) from rfl,
    exp_ref _ _ _ _ (by decide +kernel) hr (by simp; omega)]

def dotsL (k : Nat) : Str := joinL [32] (List.replicate k [46])

theorem allS_dots (V : Vs) (own : Str) : ∀ (l : List Str) (n : Nat), n + l.length ≤ 2000 → allS (eachS (expS (lev 19)) V own [46]) n l = ((List.replicate l.length [46], 0), n + l.length)
  | [], n, _ => rfl
  | w :: r, n, h => by
    simp only [List.length_cons] at h
    have he : eachS (expS (lev 19)) V own [46] n w = (([46], 0), n + 1) := by
      rw [eachS, if_neg (by omega), plain_exp _ _ _ (by decide)]
    simp only [allS, he, if_true]
    rw [allS_dots V own r (n + 1) (by omega)]
    simp only [if_true, List.length_cons, List.replicate_succ]
    congr 1
    omega

theorem join_rep (k : Nat) : (dotsL k).length ≤ 2 * k := by
  unfold dotsL
  induction k with
  | zero => simp [joinL]
  | succ k ih =>
    cases k with
    | zero => simp [joinL]
    | succ k => simp only [List.replicate_succ, joinL, List.length_append, List.length_cons, List.length_nil] at ih ⊢; omega
theorem dots_comm : ∀ k, 46 :: 32 :: joinL [32] (List.replicate (k + 1) [46]) = joinL [32] (List.replicate (k + 1) [46]) ++ [32, 46]
  | 0 => rfl
  | k + 1 => by
    have h1 : joinL [32] (List.replicate (k + 1 + 1) [46]) = 46 :: 32 :: joinL [32] (List.replicate (k + 1) [46]) := by
      rw [List.replicate_succ, List.replicate_succ]; rfl
    rw [h1]
    simp only [List.cons_append]
    rw [← dots_comm k]
theorem dots_succ : ∀ k, dotsL (k + 1) = dotsL k ++ (if 0 < k then [32, 46] else [46])
  | 0 => rfl
  | k + 1 => by
    unfold dotsL
    have h1 : joinL [32] (List.replicate (k + 1 + 1) [46]) = 46 :: 32 :: joinL [32] (List.replicate (k + 1) [46]) := by
      rw [List.replicate_succ, List.replicate_succ]; rfl
    rw [h1, dots_comm, if_pos (by omega)]

theorem ways_each (a b c : Str) (ha : a.length ≤ 800) : expandS (waysV a b c) [36,40,102,111,114,101,97,99,104,32,120,44,36,40,97,41,44,46,41] = (dotsL (wordsL a).length, 0) := by
  have hw : (wordsL a).length ≤ 801 := by have := wordsL_sum a; omega
  have hd := join_rep (wordsL a).length
  have hr : ∃ m, refS (lev 20) (waysV a b c) 0 [102,111,114,101,97,99,104,32,120,44,36,40,97,41,44,46] = ((dotsL (wordsL a).length, 0), m) := by
    rw [lev]
    simp only [refS]
    rw [if_neg (by omega), bodyS, show idxBl [102,111,114,101,97,99,104,32,120,44,36,40,97,41,44,46] = some (6 + 1) from by decide]
    simp only
    rw [show ([102,111,114,101,97,99,104,32,120,44,36,40,97,41,44,46] : Str).take (6 + 1) = [102,111,114,101,97,99,104] from rfl, show takesL [102,111,114,101,97,99,104] = (3, 3) from rfl]
    simp only
    rw [show argsL ((([102,111,114,101,97,99,104,32,120,44,36,40,97,41,44,46] : Str).drop (6 + 1)).dropWhile isBl) 3 = [[120], [36,40,97,41], [46]] from by decide +kernel]
    rw [if_neg (by decide), if_neg (by decide), functionS, if_neg (by decide), if_pos rfl]
    simp only
    have hall : allS (expS (lev 19) (waysV a b c)) (0 + 1) [[120], [36,40,97,41]] = (([[120], a], 0), 0 + 1 + 1) := by
      simp only [allS]
      rw [plain_exp _ _ _ (by decide)]
      simp only [if_true]
      rw [exp_var 18 _ _ (by unfold plainC; decide) (ways_a a b c) (by omega) (by omega)]
      simp only [if_true]
    rw [hall]
    simp only [if_true]
    rw [wordsS, allS_dots _ _ _ _ (by omega)]
    simp only [if_true]
    exact ⟨_, by rw [show joinL [32] (List.replicate (wordsL a).length [46]) = dotsL (wordsL a).length from rfl, shortS_le (by omega)]⟩
  obtain ⟨m, hr⟩ := hr
  unfold expandS
  rw [show ([36,40,102,111,114,101,97,99,104,32,120,44,36,40,97,41,44,46,41] : Str) = 36 :: 40 :: ([102,111,114,101,97,99,104,32,120,44,36,40,97,41,44,46] ++ [41]) from rfl,
    exp_ref _ _ _ _ (by decide +kernel) hr (by omega)]

/-! ### How many words begin -/
def startsN : Bool → Str → Nat
  | _, [] => 0
  | w, c :: r => if isBl c then startsN false r else (if w then 0 else 1) + startsN true r

theorem wordsGo_starts : ∀ (s cur : Str), (wordsGo s cur).length = (if cur = [] then 0 else 1) + startsN (!decide (cur = [])) s
  | [], cur => by
    simp only [wordsGo, startsN]
    split <;> simp
  | c :: r, cur => by
    simp only [wordsGo, startsN]
    by_cases hb : isBl c = true
    · simp only [hb, if_true]
      by_cases hc : cur = []
      · simp only [hc, if_true]
        rw [wordsGo_starts r []]
        simp
      · simp only [hc, if_false, List.length_cons]
        rw [wordsGo_starts r []]
        simp; omega
    · simp only [hb, Bool.false_eq_true, if_false]
      rw [wordsGo_starts r (cur ++ [c])]
      by_cases hc : cur = []
      · simp [hc]
      · simp [hc]
theorem words_starts (s : Str) : (wordsL s).length = startsN false s := by
  rw [wordsL, wordsGo_starts]; simp

theorem starts_none : ∀ s : Str, (startsN false s = 0) ↔ s.dropWhile isBl = []
  | [] => by simp [startsN]
  | c :: r => by
    simp only [startsN, List.dropWhile_cons]
    by_cases hb : isBl c = true
    · simp only [hb, if_true]; exact starts_none r
    · simp only [hb]; simp

theorem dropWhile_nil (p : UInt8 → Bool) : ∀ l : Str, l.dropWhile p = [] → ∀ x ∈ l, p x = true
  | [], _, x, hx => by cases hx
  | c :: r, h, x, hx => by
    rw [List.dropWhile_cons] at h
    split at h
    · rename_i hc
      rcases List.mem_cons.1 hx with rfl | hx
      · exact hc
      · exact dropWhile_nil p r h x hx
    · cases h

theorem trim_none (s : Str) : trimB s = [] ↔ (wordsL s).length = 0 := by
  rw [words_starts, starts_none, trimB]
  constructor
  · intro h
    rw [trimR] at h
    have h2 : (s.dropWhile isBl).reverse.dropWhile isBl = [] := by simpa using h
    cases hd : s.dropWhile isBl with
    | nil => rfl
    | cons c r =>
      have hc : isBl c = false := by
        have := List.head_dropWhile_not isBl (l := s) (by rw [hd]; simp)
        simp only [hd, List.head_cons] at this
        simpa using this
      have : ∀ x ∈ (s.dropWhile isBl).reverse, isBl x = true := by
        intro x hx
        exact dropWhile_nil _ _ h2 x hx
      have := this c (by rw [hd]; simp)
      rw [hc] at this; cases this
  · intro h
    rw [h]; rfl

end Go.Proofs.YtmcfnnpihlediaaGreatDoor.Ex

/- The law VarsWays. -/
namespace Go.Proofs.YtmcfnnpihlediaaGreatDoor.Ex
open Go
attribute [-simp] rgn rgnD exec_seq exec_cond exec_block keepS

theorem rowsGo_small : ∀ (l acc : Vs), (rowsGo acc l).2 = true → ∀ x ∈ l, bigV x = false
  | [], _, _, x, hx => by cases hx
  | y :: r, acc, h, x, hx => by
    rw [rowsGo] at h
    split at h
    · cases h
    · rename_i hb
      rcases List.mem_cons.1 hx with rfl | hx
      · simpa using hb
      · exact rowsGo_small r _ h x hx

def wyI (a b c : Str) (j : Nat) (pf : PF) : Prop :=
  pf 0 = .str a ∧ pf 1 = .str b ∧ pf 2 = .str c ∧ pf 8 = .box 0 0 ∧ pf 14 = .int .i64 j ∧ ∃ (k : Nat) (w : Bool), pf 12 = .int .i64 k ∧ pf 13 = .bool w ∧ pf 11 = .bool (decide (k = 0)) ∧ k ≤ j ∧ (w = true → 1 ≤ k) ∧ k + startsN w (a.drop j) = (wordsL a).length
def wyJ (a b c : Str) (k : Nat) (t15 : Str) (j : Nat) (pf : PF) : Prop :=
  pf 0 = .str a ∧ pf 1 = .str b ∧ pf 8 = .box 0 0 ∧ pf 12 = .int .i64 k ∧ pf 15 = .str t15 ∧ pf 16 = .str (dotsL j) ∧ pf 17 = .int .i64 j

section
variable [XX]

set_option maxHeartbeats 8000000 in
theorem law5v (hX : FullV) (n : Nat) (hn : 3001000 ≤ n) (a b c : Str) : CP (F (n + 1)) 5 [.str a, .str b, .str c] (.bool true) := by
  obtain ⟨n, rfl⟩ : ∃ q, n = q + 2 := ⟨n - 2, by omega⟩
  have c11 := v11 hX (n + 1) (by omega)
  have c12 := v12 hX n (waysV a b c) (by omega)
  have hrl : (rowsL (waysV a b c)).2 = true → ((rowsL (waysV a b c)).1 = waysV a b c) ∧ a.length ≤ 600 ∧ b.length ≤ 600 ∧ c.length ≤ 600 := by
    intro h
    have hb : ∀ x ∈ waysV a b c, bigV x = false := by
      rw [rowsL, if_neg (by simp [waysV])] at h
      exact rowsGo_small _ _ h
    have ha := hb ([97], a, true) (by simp [waysV])
    have hb2 := hb ([98], b, true) (by simp [waysV])
    have hc := hb ([99], c, true) (by simp [waysV])
    simp only [bigV, Bool.or_eq_false_iff, decide_eq_false_iff_not] at ha hb2 hc
    rw [rowsL_ok _ (by simp [waysV]) hb, rows_ways]
    exact ⟨rfl, by omega, by omega, by omega⟩
  have hgd := rowsL_good (waysV a b c)
  generalize rowsL (waysV a b c) = z at *
  obtain ⟨A, ok⟩ := z
  simp only at c12 hrl hgd
  have hok := hgd.ok (by omega)
  simp only [CP, rowAV, varsAV, waysV, List.map_cons, List.map_nil, varAV] at c11 c12
  have hrs : ∃ S, runFn Tryz.prog own1 (F (n + 2)) (n + 2) Tryz.f5 (Tryz.f5.body.getD .skip) [.str a, .str b, .str c] [] = some ([.bool true], S) := by
    cases ok
    · simp [runFn, Tryz.f5, rowAV, c11, c12]
    · obtain ⟨hA, la, lb, lc⟩ := hrl rfl
      have w0 : IntKind.wrap .i64 ((a.length : Int) + (b.length : Int)) = (a.length : Int) + (b.length : Int) := wrap64 (by omega) (by omega)
      have w0' : IntKind.wrap .i64 ((a.length : Int) + (b.length : Int) + (c.length : Int)) = (a.length : Int) + (b.length : Int) + (c.length : Int) := wrap64 (by omega) (by omega)
      by_cases g1 : 800 < a.length + b.length + c.length
      · have g1' : decide (800 < (a.length : Int) + (b.length : Int) + (c.length : Int)) = true := by simp only [decide_eq_true_eq]; omega
        simp [runFn, Tryz.f5, rowAV, c11, c12, w0, w0', g1']
      · have g1' : decide (800 < (a.length : Int) + (b.length : Int) + (c.length : Int)) = false := by simp only [decide_eq_false_iff_not]; omega
        have q1 := v18 hX (n + 2) (by omega) A [36,40,105,102,32,36,40,97,41,44,36,40,98,41,44,36,40,99,41,41] hok (by decide)
        have q2 := v18 hX (n + 2) (by omega) A [36,40,99,97,108,108,32,102,44,36,40,97,41,44,36,40,98,41,41] hok (by decide)
        have q3 := v18 hX (n + 2) (by omega) A [36,40,102,111,114,101,97,99,104,32,120,44,36,40,97,41,44,46,41] hok (by decide)
        have q4 := v18 hX (n + 2) (by omega) A [36,40,97,41,36,40,98,41] hok (by decide)
        rw [hA, ways_if a b c (by omega) (by omega) (by omega)] at q1
        rw [hA, ways_call a b c (by omega) (by omega)] at q2
        rw [hA, ways_each a b c (by omega)] at q3
        rw [hA, ways_two a b c (by omega) (by omega)] at q4
        have hwl := wordsL_sum a
        have htn := trim_none a
        rw [← hA] at q1 q2 q3 q4
        simp only [CP, varsAV, rowAV] at q1 q2 q3 q4
        simp [runFn, Tryz.f5, rowAV, c11, c12, w0, w0', g1']
        generalize hI : iter _ _ _ = r
        obtain ⟨pf', rfl, p0, p1, p2, p8, p14, k, w, p12, p13, p11, hkj, hwk, hinv⟩ := iter_count 0 (wyI a b c) a.length
          (fun j pf hj h => by
            obtain ⟨p0, p1, p2, p8, p14, k, w, p12, p13, p11, hkj, hwk, hinv⟩ := h
            have hat : a[j]? = some a[j] := List.getElem?_eq_getElem hj
            have hdr : a.drop j = a[j] :: a.drop (j + 1) := List.drop_eq_getElem_cons hj
            rw [hdr] at hinv
            simp only [startsN] at hinv
            have w1 : IntKind.wrap .i64 ((j : Int) + 1) = (j : Int) + 1 := wrap64 (by omega) (by omega)
            have w2 : IntKind.wrap .i64 ((k : Int) + 1) = (k : Int) + 1 := wrap64 (by omega) (by omega)
            have hb32 := byte_eq a[j] 32 (by decide)
            have hb9 := byte_eq a[j] 9 (by decide)
            by_cases hc : isBl a[j] = true
            · rw [if_pos hc] at hinv
              by_cases h32 : a[j] = 32
              · have e1 : (((a[j]).toNat : Int) == 32) = true := by rw [show (32 : Int) = ((32 : Nat) : Int) from rfl, hb32]; simp [h32]
                refine ⟨_, by simp [p0, p1, p2, p8, p11, p12, p13, p14, hj, hat, e1, w1]; rfl, ?_⟩
                exact ⟨by simp [p0], by simp [p1], by simp [p2], by simp [p8], by simp, k, false, by simp [p12], by simp, by simp [p11], by omega, by simp, hinv⟩
              · have e1 : (((a[j]).toNat : Int) == 32) = false := by rw [show (32 : Int) = ((32 : Nat) : Int) from rfl, hb32]; simpa using h32
                have h9 : a[j] = 9 := by simpa [isBl, h32] using hc
                have e2 : (((a[j]).toNat : Int) == 9) = true := by rw [show (9 : Int) = ((9 : Nat) : Int) from rfl, hb9]; simp [h9]
                refine ⟨_, by simp [p0, p1, p2, p8, p11, p12, p13, p14, hj, hat, e1, e2, w1]; rfl, ?_⟩
                exact ⟨by simp [p0], by simp [p1], by simp [p2], by simp [p8], by simp, k, false, by simp [p12], by simp, by simp [p11], by omega, by simp, hinv⟩
            · rw [if_neg hc] at hinv
              have h32 : a[j] ≠ 32 := fun e => hc (by simp [isBl, e])
              have h9 : a[j] ≠ 9 := fun e => hc (by simp [isBl, e])
              have e1 : (((a[j]).toNat : Int) == 32) = false := by rw [show (32 : Int) = ((32 : Nat) : Int) from rfl, hb32]; simpa using h32
              have e2 : (((a[j]).toNat : Int) == 9) = false := by rw [show (9 : Int) = ((9 : Nat) : Int) from rfl, hb9]; simpa using h9
              cases w
              · simp only [Bool.false_eq_true, if_false] at hinv
                refine ⟨_, by simp [p0, p1, p2, p8, p11, p12, p13, p14, hj, hat, e1, e2, w1, w2]; rfl, ?_⟩
                exact ⟨by simp [p0], by simp [p1], by simp [p2], by simp [p8], by simp, k + 1, true, by simp, by simp, by simp, by omega, by simp, by omega⟩
              · simp only [if_true, Nat.zero_add] at hinv
                have hk1 := hwk rfl
                refine ⟨_, by simp [p0, p1, p2, p8, p11, p12, p13, p14, hj, hat, e1, e2, w1, w2]; rfl, ?_⟩
                exact ⟨by simp [p0], by simp [p1], by simp [p2], by simp [p8], by simp, k, true, by simp [p12], by simp, by simp; omega, by omega, hwk, hinv⟩)
          (fun pf h => by
            obtain ⟨p0, p1, p2, p8, p14, k, w, p12, p13, p11, hkj, hwk, hinv⟩ := h
            refine ⟨_, by simp [p0, p14]; rfl, ?_⟩
            exact ⟨by simp [p0], by simp [p1], by simp [p2], by simp [p8], by simp [p14], k, w, by simp [p12], by simp [p13], by simp [p11], hkj, hwk, hinv⟩)
          a.length 0 (n + 2) _ r (by omega) hI (by simp [wyI, words_starts]) (by omega)
        rw [List.drop_length] at hinv
        have hk : k = (wordsL a).length := by simpa [startsN] using hinv
        subst hk
        by_cases hz : (wordsL a).length = 0
        · have hz' : decide ((wordsL a).length = 0) = true := by simpa using hz
          rw [hz'] at p11
          rw [if_pos (htn.2 hz)] at q1
          simp [p0, p1, p2, p8, p11, p12]
          generalize hI : iter _ _ _ = r
          obtain ⟨pf2, rfl, o0, o1, o8, o12, o15, o16, o17⟩ := iter_count 2 (wyJ a b c (wordsL a).length c) (wordsL a).length
            (fun j pf hj h => by
              obtain ⟨o0, o1, o8, o12, o15, o16, o17⟩ := h
              have hdl := join_rep j
              have hds := dots_succ j
              have w1 : IntKind.wrap .i64 ((j : Int) + 1) = (j : Int) + 1 := wrap64 (by omega) (by omega)
              have l1 : (dotsL j).length + 1 ≤ 9223372036854775807 := by omega
              have l2 : (dotsL j).length + 1 + 1 ≤ 9223372036854775807 := by omega
              have l3 : (dotsL j).length + 2 ≤ 9223372036854775807 := by omega
              by_cases hj0 : 0 < j
              · rw [if_pos hj0] at hds
                refine ⟨_, by simp [o0, o1, o8, o12, o15, o16, o17, hj, hj0, w1, l1, l2, l3]; rfl, ?_⟩
                exact ⟨by simp [o0], by simp [o1], by simp [o8], by simp [o12], by simp [o15], by simp [hds], by simp⟩
              · rw [if_neg hj0] at hds
                refine ⟨_, by simp [o0, o1, o8, o12, o15, o16, o17, hj, hj0, w1, l1, l2, l3]; rfl, ?_⟩
                exact ⟨by simp [o0], by simp [o1], by simp [o8], by simp [o12], by simp [o15], by simp [hds], by simp⟩)
            (fun pf h => by
              obtain ⟨o0, o1, o8, o12, o15, o16, o17⟩ := h
              refine ⟨_, by simp [o12, o17]; rfl, ?_⟩
              exact ⟨by simp [o0], by simp [o1], by simp [o8], by simp [o12], by simp [o15], by simp [o16], by simp [o17]⟩)
            (wordsL a).length 0 (n + 2) _ r (by omega) hI (by simp [wyJ, p0, p1, p2, p8, p12, dotsL, joinL]) (by omega)
          have z1 : a.length + 1 ≤ 9223372036854775807 := by omega
          have z2 : a.length + 1 + 1 ≤ 9223372036854775807 := by omega
          have z3 : a.length + 1 + (b.length + 1) ≤ 9223372036854775807 := by omega
          have z4 : a.length + 1 + 1 + b.length ≤ 9223372036854775807 := by omega
          have z5 : a.length + 1 + 1 + b.length + 1 ≤ 9223372036854775807 := by omega
          have z6 : a.length + b.length ≤ 9223372036854775807 := by omega
          have z7 : a.length + (b.length + 1) + 1 ≤ 9223372036854775807 := by omega
          have z8 : a.length + (b.length + 1 + 1) + 1 ≤ 9223372036854775807 := by omega
          have z9 : 1 + a.length ≤ 9223372036854775807 := by omega
          have z10 : a.length + (b.length + 1) + 1 + 1 ≤ 9223372036854775807 := by omega
          simp at q1 q2 q3 q4
          simp [o0, o1, o8, o15, o16, q1, q2, q3, q4, z1, z2, z3, z4, z5, z6, z7, z8, z9, z10]
        · have hz' : decide ((wordsL a).length = 0) = false := by simpa using hz
          rw [hz'] at p11
          rw [if_neg (fun e => hz (htn.1 e))] at q1
          simp [p0, p1, p2, p8, p11, p12]
          generalize hI : iter _ _ _ = r
          obtain ⟨pf2, rfl, o0, o1, o8, o12, o15, o16, o17⟩ := iter_count 2 (wyJ a b c (wordsL a).length b) (wordsL a).length
            (fun j pf hj h => by
              obtain ⟨o0, o1, o8, o12, o15, o16, o17⟩ := h
              have hdl := join_rep j
              have hds := dots_succ j
              have w1 : IntKind.wrap .i64 ((j : Int) + 1) = (j : Int) + 1 := wrap64 (by omega) (by omega)
              have l1 : (dotsL j).length + 1 ≤ 9223372036854775807 := by omega
              have l2 : (dotsL j).length + 1 + 1 ≤ 9223372036854775807 := by omega
              have l3 : (dotsL j).length + 2 ≤ 9223372036854775807 := by omega
              by_cases hj0 : 0 < j
              · rw [if_pos hj0] at hds
                refine ⟨_, by simp [o0, o1, o8, o12, o15, o16, o17, hj, hj0, w1, l1, l2, l3]; rfl, ?_⟩
                exact ⟨by simp [o0], by simp [o1], by simp [o8], by simp [o12], by simp [o15], by simp [hds], by simp⟩
              · rw [if_neg hj0] at hds
                refine ⟨_, by simp [o0, o1, o8, o12, o15, o16, o17, hj, hj0, w1, l1, l2, l3]; rfl, ?_⟩
                exact ⟨by simp [o0], by simp [o1], by simp [o8], by simp [o12], by simp [o15], by simp [hds], by simp⟩)
            (fun pf h => by
              obtain ⟨o0, o1, o8, o12, o15, o16, o17⟩ := h
              refine ⟨_, by simp [o12, o17]; rfl, ?_⟩
              exact ⟨by simp [o0], by simp [o1], by simp [o8], by simp [o12], by simp [o15], by simp [o16], by simp [o17]⟩)
            (wordsL a).length 0 (n + 2) _ r (by omega) hI (by simp [wyJ, p0, p1, p2, p8, p12, dotsL, joinL]) (by omega)
          have z1 : a.length + 1 ≤ 9223372036854775807 := by omega
          have z2 : a.length + 1 + 1 ≤ 9223372036854775807 := by omega
          have z3 : a.length + 1 + (b.length + 1) ≤ 9223372036854775807 := by omega
          have z4 : a.length + 1 + 1 + b.length ≤ 9223372036854775807 := by omega
          have z5 : a.length + 1 + 1 + b.length + 1 ≤ 9223372036854775807 := by omega
          have z6 : a.length + b.length ≤ 9223372036854775807 := by omega
          have z7 : a.length + (b.length + 1) + 1 ≤ 9223372036854775807 := by omega
          have z8 : a.length + (b.length + 1 + 1) + 1 ≤ 9223372036854775807 := by omega
          have z9 : 1 + a.length ≤ 9223372036854775807 := by omega
          have z10 : a.length + (b.length + 1) + 1 + 1 ≤ 9223372036854775807 := by omega
          simp at q1 q2 q3 q4
          simp [o0, o1, o8, o15, o16, q1, q2, q3, q4, z1, z2, z3, z4, z5, z6, z7, z8, z9, z10]
  obtain ⟨S, h⟩ := hrs
  refine F_cp (rs := [.bool true]) (S := S) rfl rfl ?_
  rw [F_fn rfl rfl rfl Tryz.func5 rfl]
  exact h

end
end Go.Proofs.YtmcfnnpihlediaaGreatDoor.Ex

/- Assignments. -/
namespace Go.Proofs.YtmcfnnpihlediaaGreatDoor.Ex
open Go
attribute [-simp] rgn rgnD exec_seq exec_cond exec_block keepS

theorem expand_le (V : Vs) (t : Str) (h : (expandS V t).2 = 0) : (expandS V t).1.length ≤ 4000 := expand_len V t _ (by rw [← h])

def moreS (f : Bool) (old x : Str) : Str := if f = true then old ++ [32] ++ x else x
def assignS (V : Vs) (name op t : Str) : Vs × Nat :=
  if nameL name = false then ([], 1)
  else if op = [61] then (setV (name, t, false) V, 0)
  else if op = [58, 61] then (if (expandS V t).2 = 0 then (setV (name, (expandS V t).1, true) V, 0) else ([], (expandS V t).2))
  else if op = [63, 61] then (if (gotL V name).2 = true then (V, 0) else (setV (name, t, false) V, 0))
  else if op = [43, 61] then
    (if (gotL V name).1.2.2 = true then
      (if (expandS V t).2 = 0 then (setV (name, moreS (gotL V name).2 (gotL V name).1.2.1 (expandS V t).1, true) V, 0) else ([], (expandS V t).2))
    else (setV (name, moreS (gotL V name).2 (gotL V name).1.2.1 t, false) V, 0))
  else ([], 1)

section
variable [XX]
def FullM : Prop := FullV ∧ XX.m = some gName

theorem v30 (hM : FullM) (n : Nat) (s : Str) (hs : s.length ≤ 9223372036854775807) : CP (F (n + 1)) 30 [.str s] (.bool (nameL s)) :=
  F_ext (g := gName) (rs := [.bool (nameL s)]) hM.2 rfl rfl (by simp [gName, hs])

theorem got_len (V : Vs) (name : Str) (hV : okV V 20) : (gotL V name).1.2.1.length ≤ 200000 := by
  unfold gotL
  cases hg : getV V name with
  | none => simp
  | some x =>
    have := hV.2.2 x (List.mem_of_find?_eq_some hg)
    exact this

set_option maxHeartbeats 8000000 in
theorem v20 (hM : FullM) (n : Nat) (hn : 3000800 ≤ n) (V : Vs) (name op t : Str) (hV : okV V 20) (h1 : name.length ≤ 9223372036854775807) (ht : t.length ≤ 200000) :
    CP (F (n + 1)) 20 [varsAV V, .str name, .str op, .str t] (.tup [varsAV (assignS V name op t).1, .int .i64 (assignS V name op t).2]) := by
  obtain ⟨n, rfl⟩ : ∃ q, n = q + 2 := ⟨n - 2, by omega⟩
  have hX := hM.1
  have c30 := v30 hM (n + 1) name h1
  have c15 := v15 (n + 2) V name (by have := hV.2.1; omega) (by have := hV.2.1; omega)
  have c13 := v13 hX (n + 1) (by omega) V t hV ht
  have c19 := fun (y1 y2 : Str) (y3 : Bool) => v19 hX (n + 1) V (y1, y2, y3) hV.1 (by have := hV.2.1; omega)
  have hgl := got_len V name hV
  simp only [CP, varsAV, rowAV, varAV] at c30 c15 c13 c19
  have hrs : ∃ S, runFn Tryz.prog own1 (F (n + 2)) (n + 2) Tryz.f20 (Tryz.f20.body.getD .skip) [varsAV V, .str name, .str op, .str t] [] = some ([varsAV (assignS V name op t).1, .int .i64 (assignS V name op t).2], S) := by
    unfold assignS
    cases hnl : nameL name
    · simp [runFn, Tryz.f20, varsAV, rowAV, c30, hnl]
    · rw [hnl] at c30
      simp only [Bool.true_eq_false, if_false]
      by_cases o1 : op = [61]
      · subst o1
        simp [runFn, Tryz.f20, varsAV, rowAV, varAV, c30, c15, c19]
      · have o1' : (op == [61]) = false := by simpa using o1
        rw [if_neg o1]
        by_cases o2 : op = [58, 61]
        · subst o2
          rw [if_pos rfl]
          by_cases he : (expandS V t).2 = 0
          · rw [he] at c13
            simp [runFn, Tryz.f20, varsAV, rowAV, varAV, c30, c15, c19, c13, he]
          · have he' : (((expandS V t).2 : Int) != 0) = true := by simp; omega
            simp [runFn, Tryz.f20, varsAV, rowAV, varAV, c30, c15, c19, c13, he, he']
        · have o2' : (op == [58, 61]) = false := by simpa using o2
          rw [if_neg o2]
          by_cases o3 : op = [63, 61]
          · subst o3
            rw [if_pos rfl]
            cases hf : (gotL V name).2
            · rw [hf] at c15
              simp [runFn, Tryz.f20, varsAV, rowAV, varAV, c30, c15, c19]
            · rw [hf] at c15
              simp [runFn, Tryz.f20, varsAV, rowAV, varAV, c30, c15, c19]
          · have o3' : (op == [63, 61]) = false := by simpa using o3
            rw [if_neg o3]
            by_cases o4 : op = [43, 61]
            · subst o4
              rw [if_pos rfl]
              have hxl := expand_le V t
              generalize gotL V name = g at *
              obtain ⟨⟨gn, gt, gs⟩, gf⟩ := g
              simp only at hgl c15
              generalize expandS V t = xe at *
              obtain ⟨x, e⟩ := xe
              simp only at c13 hxl
              have l1 : gt.length + 1 ≤ 9223372036854775807 := by omega
              have l2 : gt.length + 1 + t.length ≤ 9223372036854775807 := by omega
              have l4 : gt.length + (t.length + 1) ≤ 9223372036854775807 := by omega
              cases gs
              · cases gf
                · simp [runFn, Tryz.f20, varsAV, rowAV, varAV, c30, c15, c19, moreS]
                · simp [runFn, Tryz.f20, varsAV, rowAV, varAV, c30, c15, c19, moreS, l1, l2, l4]
              · by_cases he : e = 0
                · have hxl := hxl he
                  have l3 : gt.length + 1 + x.length ≤ 9223372036854775807 := by omega
                  have l5 : gt.length + (x.length + 1) ≤ 9223372036854775807 := by omega
                  subst he
                  cases gf
                  · simp [runFn, Tryz.f20, varsAV, rowAV, varAV, c30, c15, c19, c13, moreS]
                  · simp [runFn, Tryz.f20, varsAV, rowAV, varAV, c30, c15, c19, c13, moreS, l1, l3, l5]
                · have he' : ((e : Int) != 0) = true := by simp; omega
                  simp [runFn, Tryz.f20, varsAV, rowAV, varAV, c30, c15, c19, c13, he, he']
            · have o4' : (op == [43, 61]) = false := by simpa using o4
              rw [if_neg o4]
              simp [runFn, Tryz.f20, varsAV, rowAV, varAV, c30, c15, o1', o2', o3', o4']
  obtain ⟨S, h⟩ := hrs
  refine F_cp (rs := [varsAV (assignS V name op t).1, .int .i64 (assignS V name op t).2]) (S := S) (by simp only [noBoxL, noBox, varsAV, noBox_row, Bool.and_self]) (by simp only [noBoxL, noBox, varsAV, noBox_row, Bool.and_self]) ?_
  rw [F_fn rfl rfl rfl Tryz.func20 rfl]
  exact h

end
end Go.Proofs.YtmcfnnpihlediaaGreatDoor.Ex

/- The rows' frame, where parse.Name is told of too. -/
namespace Go.Proofs.YtmcfnnpihlediaaGreatDoor.Ex
open Go Go.RowKit Go.Shelf

/-- parse.Name is told of, too. -/
@[reducible] def X2 : XX := ⟨some gOne, some gJoined, some gSet, none, none, some gName⟩
theorem full2 : @FullM X2 := ⟨⟨⟨rfl, rfl⟩, rfl⟩, rfl⟩
theorem ext_2 {W : World} (hW : Good W) : ∀ f g, @ext0 X2 f = some g → callable Tryz.prog f = true ∧ FnOK Tryz.prog (GW W) own1 f g :=
  @ext_all W X2 hW (@XOK.mk X2 W (fun g h => by injection h with h; subst h; exact ⟨by kernel_rfl, ok26 hW⟩) (fun g h => by injection h with h; subst h; exact ⟨by kernel_rfl, ok47 hW⟩)
    (fun g h => by injection h with h; subst h; exact ⟨by kernel_rfl, ok19 hW⟩) (fun g h => by cases h) (fun g h => by cases h) (fun g h => by injection h with h; subst h; exact ⟨by kernel_rfl, ok30⟩))

/-- A walked law: the machine's call. -/
theorem law_calls2 {W : World} (hW : Good W) {n : Nat} {f : FuncId} {avs : List AV} {R : Reads} {args : List Value} (h : CP (@F X2 n) f avs (.bool true)) (hs : Stab R W) (ha : VRs R [] args avs) :
    Calls Tryz.prog f args.toArray W fun e w' => e = .returned (.bool true) ∧ Below W.heap.size W w' := by
  simp only [CP, callP] at h
  split at h
  case isFalse => cases h
  split at h
  case h_2 => cases h
  rename_i rs S hF
  split at h
  case isFalse => cases h
  injection h with h
  refine (@calls_of W X2 (ext_2 hW) n f R W args avs rs S (Below.refl _ _) hs ha hF).mono fun e w' hp => ?_
  obtain ⟨vs, R', bl, rfl, hv', hst, hsr, ho⟩ := hp
  refine ⟨?_, stp_below hst⟩
  match rs, vs, hv', h with
  | [r], [u], hv', h =>
    have h1 := hv'.2 0 (by simp) (by simp)
    simp only [packAV] at h
    subst h
    simp only [List.getElem_cons_zero] at h1
    rw [h1.bool_inv]; rfl
  | [], vs, hv', h => cases h
  | _ :: _ :: _, _, _, h => cases h
  | [r], [], hv', h => exact absurd hv'.1 (by simp)
  | [r], _ :: _ :: _, hv', h => exact absurd hv'.1 (by simp)

end Go.Proofs.YtmcfnnpihlediaaGreatDoor.Ex

/- What a law is handed: an assignment, a row of them. -/
namespace Go.Proofs.YtmcfnnpihlediaaGreatDoor.Ex
open Go Go.RowKit Go.Shelf Go.ChangeShapes Go.WideShapes Go.ChangeAt
set_option maxRecDepth 100000

/-- An assignment: a name, a sign, a text. -/
abbrev AL := Str × Str × Str
def actAV (x : AL) : AV := .agg [.str x.1, .str x.2.1, .str x.2.2]
def actsAV (l : List AL) : AV := .sl 3 (l.map actAV)

theorem vr_act {R : Reads} {M : List Nat} (s t u : ByteArray) : VR R M (.agg #[.string s, .string t, .string u]) (actAV (s.data.toList, t.data.toList, u.data.toList)) :=
  .agg _ _ rfl fun i h1 h2 => by
    have hi : i < 3 := by simpa using h1
    match i, hi with
    | 0, _ => exact vr_string s
    | 1, _ => exact vr_string t
    | 2, _ => exact vr_string u

section
variable {H : Type} {enc : TypeId × Value → H} {w : World} {base : Nat} {spare : Nat → Bool} {held : Bool}

theorem cells_act {fuel : Nat} {cs : List Value} {x : DataW H × List MemPlace} (h : DataW.trod enc Tryz.prog w base spare held fuel 51 cs = some x) : ∃ s t u, cs = [.string s, .string t, .string u] := by
  obtain ⟨y0, y1, y2, n, rfl, hl, h0, h1, h2⟩ := Deep.trod_struct3 Tryz.underlying51 h
  have c51 : Tryz.prog.cellsOf 51 = 3 := by kernel_rfl
  have c9 : Tryz.prog.cellsOf 9 = 1 := by kernel_rfl
  rw [c51] at hl
  match cs, hl with
  | [v0, v1, v2], _ =>
    simp only [c9, List.drop_zero, List.drop_succ_cons, List.take_succ_cons, List.take_zero] at h0 h1 h2
    obtain ⟨s, e0, _⟩ := DataW.trod_string Tryz.underlying9 h0
    obtain ⟨t, e1, _⟩ := DataW.trod_string Tryz.underlying9 h1
    obtain ⟨u, e2, _⟩ := DataW.trod_string Tryz.underlying9 h2
    simp only [List.cons.injEq, and_true] at e0 e1 e2
    exact ⟨s, t, u, by rw [e0, e1, e2]⟩

theorem open_act {r : Reach} {b0 : Nat} {v : Value} {d : DataW H} {ps : List MemPlace} (hval : Value.okWide Tryz.prog w r b0 51 v) (hd : DataW.Trod enc Tryz.prog w base spare held 51 v d ps) :
    ∃ s t u, v = .agg #[.string s, .string t, .string u] ∧ s.data.toList.length ≤ 9223372036854775807 := by
  have hval' := hval
  obtain ⟨cs, rfl, hsz⟩ := okWide_struct Tryz.underlying51 hval
  obtain ⟨fuel, hf⟩ := hd
  obtain ⟨s, t, u, hcs⟩ := cells_act hf
  have hcs' : cs = #[.string s, .string t, .string u] := by
    simp only [Value.cells] at hcs
    apply Array.toList_inj.1
    simpa using hcs
  subst hcs'
  refine ⟨s, t, u, rfl, ?_⟩
  simp only [Value.okWide, Tryz.underlying51] at hval'
  obtain ⟨cs, he, _, ts, hts, _, hc⟩ := hval'
  injection he with he
  subst he
  have ets : Tryz.prog.cellTypes Tryz.prog.depth 51 = some [9, 9, 9] := by kernel_rfl
  rw [ets] at hts
  injection hts with hts
  subst hts
  obtain ⟨u', hu, hok⟩ := hc 0 (.string s) rfl
  simp at hu
  subst hu
  simp only [Cell.okWide, Cell.ok, Tryz.underlying9, IntKind.max] at hok
  have e : s.data.toList.length = s.size := by simp
  rw [e]
  have h9 : (s.size : Int) ≤ 9223372036854775807 := by simpa [IntKind.signed, IntKind.bits] using hok
  omega

theorem open_acts {r : Reach} {b0 : Nat} {v : Value} {d : DataW H} {ps : List MemPlace} (hval : Value.okWide Tryz.prog w r b0 49 v) (hd : DataW.Trod enc Tryz.prog w base spare held 49 v d ps) :
    ∃ V : List AL, VR (Mem w) [] v (actsAV V) := by
  obtain ⟨a', len', cap', rfl⟩ := okWide_slice Tryz.underlying49 hval
  obtain ⟨fuel, hf⟩ := hd
  rcases Deep.open_slice Tryz.underlying49 hf with ⟨hcs, _⟩ | ⟨a, len, cap, m, n, D, Pl, hcs, hb, hlc, hcm, hm, _, hx⟩
  · simp [Value.cells] at hcs
    obtain ⟨rfl, rfl, rfl⟩ := hcs
    exact ⟨[], .slnil 3⟩
  · simp [Value.cells] at hcs
    obtain ⟨rfl, rfl, rfl⟩ := hcs
    have hlm : len' ≤ m := by rw [hm]; split <;> omega
    have c51 : Tryz.prog.cellsOf 51 = 3 := by kernel_rfl
    have each : ∀ i, i < len' → ∃ x : AL, w.cell? (a.add (i * 3)) = some (.string ⟨x.1.toArray⟩) ∧ w.cell? (a.add (i * 3 + 1)) = some (.string ⟨x.2.1.toArray⟩) ∧ w.cell? (a.add (i * 3 + 2)) = some (.string ⟨x.2.2.toArray⟩) := fun i hi => by
      obtain ⟨cs', h1, h2⟩ := hx i (by omega)
      rw [c51] at h1
      obtain ⟨_, hlen, hcell⟩ := World.cells?_some h1
      obtain ⟨s, t, b, rfl⟩ := cells_act h2
      refine ⟨(s.data.toList, t.data.toList, b.data.toList), ?_, ?_, ?_⟩
      · have := hcell 0 (by omega)
        rw [Deep.add_add] at this
        simpa using this
      · have := hcell 1 (by omega)
        rw [Deep.add_add] at this
        simpa using this
      · have := hcell 2 (by omega)
        rw [Deep.add_add] at this
        simpa using this
    haveI : Inhabited AL := ⟨([], [], [])⟩
    obtain ⟨X, hX⟩ := Deep.choose_lt each
    refine ⟨(List.range len').map X, .sl a len' cap' 3 _ (fun i j => (([.string ⟨(X i).1.toArray⟩, .string ⟨(X i).2.1.toArray⟩, .string ⟨(X i).2.2.toArray⟩] : List Value)[j]?).getD Go.undef) (by simp) hlc (fun i hi => by simp [actAV, AV.cells]) ?_ ?_⟩
    · intro i j hi hj
      have hi' : i < len' := by simpa using hi
      obtain ⟨h0, h1, h2⟩ := hX i hi'
      match j, hj with
      | 0, _ => exact ⟨h0, rfl⟩
      | 1, _ => exact ⟨h1, rfl⟩
      | 2, _ => exact ⟨h2, rfl⟩
    · intro i j hi hj
      have hj' : j < 3 := by simpa [actAV, AV.cells] using hj
      simp only [List.getElem_map, List.getElem_range]
      match j, hj' with
      | 0, _ => exact .str _
      | 1, _ => exact .str _
      | 2, _ => exact .str _
end

end Go.Proofs.YtmcfnnpihlediaaGreatDoor.Ex

/- Expanding, in plain Lean: what has no error is told by a deeper allowance, begun earlier, too. -/
namespace Go.Proofs.YtmcfnnpihlediaaGreatDoor.Ex
open Go

/-- Told without an error, begun some steps later: the other one tells it, too. -/
def Mo1 (g g' : Nat → Str → Ans) : Prop := ∀ n j t x m, g (n + j) t = ((x, 0), m) → ∃ m', g' n t = ((x, 0), m') ∧ m = m' + j
def MoE (E E' : Exp) : Prop := ∀ V, Mo1 (E V) (E' V)

theorem allS_mo {ex ex' : Nat → Str → Ans} (h : Mo1 ex ex') : ∀ (l : List Str) (n j : Nat) (xs : List Str) (m : Nat), allS ex (n + j) l = ((xs, 0), m) → ∃ m', allS ex' n l = ((xs, 0), m') ∧ m = m' + j
  | [], n, j, xs, m, ha => by
    simp only [allS, Prod.mk.injEq, and_true] at ha
    obtain ⟨rfl, rfl⟩ := ha
    exact ⟨n, rfl, rfl⟩
  | t :: r, n, j, xs, m, ha => by
    simp only [allS] at ha
    split at ha
    · rename_i h0
      obtain ⟨x, n1, he⟩ := ans0 h0
      rw [he] at ha
      simp only at ha
      split at ha
      · rename_i h1
        obtain ⟨ys, m1, hr⟩ := ans0 h1
        rw [hr] at ha
        simp only [Prod.mk.injEq, and_true] at ha
        obtain ⟨rfl, rfl⟩ := ha
        obtain ⟨n2, e, rfl⟩ := h n j t x n1 he
        obtain ⟨m2, e2, rfl⟩ := allS_mo h r n2 j ys m1 hr
        exact ⟨m2, by simp only [allS, e, e2, if_true], rfl⟩
      · rename_i h1
        simp only [Prod.mk.injEq] at ha
        exact absurd ha.1.2 h1
    · rename_i h0
      simp only [Prod.mk.injEq] at ha
      exact absurd ha.1.2 h0

theorem wordsS_mo {of of' : Nat → Str → Ans} (h : Mo1 of of') : Mo1 (wordsS of) (wordsS of') := by
  intro n j t x m ha
  unfold wordsS at ha ⊢
  split at ha
  · rename_i h0
    obtain ⟨ys, m1, hr⟩ := ans0 h0
    rw [hr] at ha
    simp only [Prod.mk.injEq] at ha
    obtain ⟨h1, rfl⟩ := ha
    obtain ⟨m2, e, rfl⟩ := allS_mo h _ n j ys m1 hr
    exact ⟨m2, by rw [e]; simp only [if_true]; rw [h1], rfl⟩
  · rename_i h0
    simp only [Prod.mk.injEq] at ha
    exact absurd ha.1.2 h0

theorem turnedS_mo {E W E' W' : Exp} (hE : MoE E E') (hW : MoE W W') (V : Vs) (name p q : Str) (n j : Nat) (x : Str) (m : Nat) (ha : turnedS E W V (n + j) name p q = ((x, 0), m)) :
    ∃ m', turnedS E' W' V n name p q = ((x, 0), m') ∧ m = m' + j := by
  unfold turnedS at ha ⊢
  have hs := allS_mo (hE V) [name, p, q] n j
  generalize allS (E V) (n + j) [name, p, q] = z at ha hs
  obtain ⟨⟨l, e⟩, n1⟩ := z
  simp only at ha ⊢
  by_cases h0 : e = 0
  · subst h0
    rw [if_pos rfl] at ha
    obtain ⟨n2, h1, rfl⟩ := hs l n1 rfl
    rw [h1]
    simp only [if_true]
    split at ha
    · rename_i a p' q'
      have hw := hW V n2 j a
      generalize W V (n2 + j) a = y at ha hw
      obtain ⟨⟨v, e2⟩, n3⟩ := y
      simp only at ha ⊢
      by_cases h2 : e2 = 0
      · subst h2
        rw [if_pos rfl] at ha
        obtain ⟨n4, h3, rfl⟩ := hw v n3 rfl
        rw [h3]
        simp only [if_true]
        exact wordsS_mo (fun n k t x m h => by
          simp only [Prod.mk.injEq, and_true] at h ⊢
          exact ⟨n, ⟨h.1, rfl⟩, h.2.symm⟩) n4 j v x m ha
      · rw [if_neg h2] at ha
        simp only [Prod.mk.injEq] at ha
        exact absurd ha.1.2 h2
    · simp only [Prod.mk.injEq, and_true] at ha
      obtain ⟨rfl, rfl⟩ := ha
      exact ⟨n2, rfl, rfl⟩
  · rw [if_neg h0] at ha
    simp only [Prod.mk.injEq] at ha
    exact absurd ha.1.2 h0

theorem eachS_mo {E E' : Exp} (hE : MoE E E') (V : Vs) (own c : Str) : Mo1 (eachS E V own c) (eachS E' V own c) := by
  intro n j w x m ha
  unfold eachS at ha ⊢
  split at ha
  · simp at ha
  · rename_i h
    rw [if_neg (by omega)]
    exact hE _ (n + 1) j c x m (by rwa [show n + 1 + j = n + j + 1 by omega])

theorem functionS_mo {E E' : Exp} (hE : MoE E E') (V : Vs) (name : Str) (args : List Str) (n j : Nat) (x : Str) (m : Nat) (ha : functionS E V (n + j) name args = ((x, 0), m)) :
    ∃ m', functionS E' V n name args = ((x, 0), m') ∧ m = m' + j := by
  unfold functionS at ha ⊢
  split at ha
  · rename_i hif
    rw [if_pos hif]
    split at ha
    · rename_i a b r
      simp only
      have hs := hE V n j a
      generalize E V (n + j) a = z at ha hs
      obtain ⟨⟨y, e⟩, n1⟩ := z
      simp only at ha ⊢
      by_cases h0 : e = 0
      · subst h0
        rw [if_pos rfl] at ha
        obtain ⟨n2, h1, rfl⟩ := hs y n1 rfl
        rw [h1]
        simp only [if_true]
        split at ha
        · rename_i ht
          rw [if_pos ht]
          split at ha
          · simp only [Prod.mk.injEq, and_true] at ha
            obtain ⟨rfl, rfl⟩ := ha
            exact ⟨n2, rfl, rfl⟩
          · exact hE V n2 j _ x m ha
        · rename_i ht
          rw [if_neg ht]
          exact hE V n2 j _ x m ha
      · rw [if_neg h0] at ha
        simp only [Prod.mk.injEq] at ha
        exact absurd ha.1.2 h0
    · simp only [Prod.mk.injEq, and_true] at ha
      obtain ⟨rfl, rfl⟩ := ha
      exact ⟨n, rfl, rfl⟩
  · rename_i hif
    rw [if_neg hif]
    split at ha
    · rename_i hfe
      rw [if_pos hfe]
      split at ha
      · rename_i a b c
        simp only
        have hs := allS_mo (hE V) [a, b] n j
        generalize allS (E V) (n + j) [a, b] = z at ha hs
        obtain ⟨⟨l, e⟩, n1⟩ := z
        simp only at ha ⊢
        by_cases h0 : e = 0
        · subst h0
          rw [if_pos rfl] at ha
          obtain ⟨n2, h1, rfl⟩ := hs l n1 rfl
          rw [h1]
          simp only [if_true]
          split at ha
          · exact wordsS_mo (eachS_mo hE V _ c) n2 j _ x m ha
          · simp only [Prod.mk.injEq, and_true] at ha
            obtain ⟨rfl, rfl⟩ := ha
            exact ⟨n2, rfl, rfl⟩
        · rw [if_neg h0] at ha
          simp only [Prod.mk.injEq] at ha
          exact absurd ha.1.2 h0
      · simp only [Prod.mk.injEq, and_true] at ha
        obtain ⟨rfl, rfl⟩ := ha
        exact ⟨n, rfl, rfl⟩
    · rename_i hfe
      rw [if_neg hfe]
      have hs := allS_mo (hE V) args n j
      generalize allS (E V) (n + j) args = z at ha hs
      obtain ⟨⟨l, e⟩, n1⟩ := z
      simp only at ha ⊢
      by_cases h0 : e = 0
      · subst h0
        rw [if_pos rfl] at ha
        obtain ⟨n2, h1, rfl⟩ := hs l n1 rfl
        rw [h1]
        simp only [if_true]
        split at ha
        · rename_i hc
          rw [if_pos hc]
          split at ha
          · split at ha
            · simp only [Prod.mk.injEq, and_true] at ha
              obtain ⟨rfl, rfl⟩ := ha
              exact ⟨n2, rfl, rfl⟩
            · exact hE _ n2 j _ x m ha
          · simp only [Prod.mk.injEq, and_true] at ha
            obtain ⟨rfl, rfl⟩ := ha
            exact ⟨n2, rfl, rfl⟩
        · rename_i hc
          rw [if_neg hc]
          simp only [Prod.mk.injEq] at ha
          obtain ⟨h1, rfl⟩ := ha
          exact ⟨n2, by rw [h1], rfl⟩
      · rw [if_neg h0] at ha
        simp only [Prod.mk.injEq] at ha
        exact absurd ha.1.2 h0

theorem restS_mo {E W E' W' : Exp} (hE : MoE E E') (hW : MoE W W') (V : Vs) : Mo1 (restS E W V) (restS E' W' V) := by
  intro n j c x m ha
  unfold restS at ha ⊢
  split at ha
  · rename_i h
    rw [if_pos h]
    exact turnedS_mo hE hW V _ _ _ n j x m ha
  · rename_i h
    rw [if_neg h]
    split at ha
    · rename_i h0
      obtain ⟨y, n1, he⟩ := ans0 h0
      rw [he] at ha
      obtain ⟨n2, h1, rfl⟩ := hE V n j c y n1 he
      rw [h1]
      exact hW V n2 j y x m ha
    · rename_i h0
      simp only [Prod.mk.injEq] at ha
      exact absurd ha.1.2 h0

theorem bodyS_mo {E W E' W' : Exp} (hE : MoE E E') (hW : MoE W W') (V : Vs) : Mo1 (bodyS E W V) (bodyS E' W' V) := by
  intro n j c x m ha
  unfold bodyS at ha ⊢
  split at ha
  · split at ha
    · rename_i h
      simp only [h, if_true]
      exact restS_mo hE hW V n j c x m ha
    · rename_i h
      simp only [h, if_false]
      split at ha
      · simp at ha
      · rename_i h2
        simp only [h2, if_false]
        exact functionS_mo hE V _ _ n j x m ha
  · exact restS_mo hE hW V n j c x m ha

def MoL (L L' : Option (Exp × Exp)) : Prop := ∀ p, L = some p → ∃ p', L' = some p' ∧ MoE p.1 p'.1 ∧ MoE p.2 p'.2

theorem refS_mo {L L' : Option (Exp × Exp)} (h : MoL L L') (V : Vs) : Mo1 (refS L V) (refS L' V) := by
  intro n j c x m ha
  cases L with
  | none => simp [refS] at ha
  | some p =>
    obtain ⟨p', rfl, h1, h2⟩ := h p rfl
    simp only [refS] at ha ⊢
    split at ha
    · simp at ha
    · rw [if_neg (by omega)]
      exact bodyS_mo h1 h2 V (n + 1) j c x m (by rwa [show n + 1 + j = n + j + 1 by omega])

theorem valS_mo {L L' : Option (Exp × Exp)} (h : MoL L L') : MoE (valS L) (valS L') := by
  intro V n j c x m ha
  unfold valS at ha ⊢
  split at ha
  · simp only [Prod.mk.injEq, and_true] at ha
    obtain ⟨rfl, rfl⟩ := ha
    exact ⟨n, rfl, rfl⟩
  · split at ha
    · rename_i hs
      simp only [Prod.mk.injEq, and_true] at ha
      obtain ⟨rfl, rfl⟩ := ha
      exact ⟨n, by simp only [hs, if_true], rfl⟩
    · rename_i hs
      simp only [if_neg hs]
      cases L with
      | none => simp at ha
      | some p =>
        obtain ⟨p', rfl, h1, h2⟩ := h p rfl
        simp only at ha ⊢
        split at ha
        · simp at ha
        · rw [if_neg (by omega)]
          exact h1 V (n + 1) j _ x m (by rwa [show n + 1 + j = n + j + 1 by omega])

theorem exT_mo {ref val ref' val' : Nat → Str → Ans} (hr : Mo1 ref ref') (hv : Mo1 val val') : ∀ (f : Nat) (acc : Str) (n j : Nat) (t y : Str) (m : Nat), exT ref val f acc (n + j) t = ((y, 0), m) →
    ∃ m', exT ref' val' f acc n t = ((y, 0), m') ∧ m = m' + j
  | 0, acc, n, j, t, y, m, h => by simp [exT] at h
  | f + 1, acc, n, j, [], y, m, h => by
    simp only [exT, Prod.mk.injEq] at h
    obtain ⟨h1, rfl⟩ := h
    exact ⟨n, by simp only [exT]; rw [h1], rfl⟩
  | f + 1, acc, n, j, c :: r, y, m, h => by
    simp only [exT] at h ⊢
    by_cases hc : c = 36
    · rw [if_pos hc] at h
      simp only [if_pos hc]
      cases r with
      | nil => simp at h
      | cons d r' =>
        simp only at h ⊢
        by_cases hd : d = 36
        · rw [if_pos hd] at h
          simp only [if_pos hd]
          exact exT_mo hr hv f _ n j r' y m h
        · rw [if_neg hd] at h
          simp only [if_neg hd]
          by_cases ho : d = 40 ∨ d = 123
          · rw [if_pos ho] at h
            simp only [if_pos ho]
            split at h
            · simp at h
            · rename_i i hi
              split at h
              · rename_i h0
                obtain ⟨z, n1, he⟩ := ans0 h0
                rw [he] at h
                obtain ⟨n2, e, rfl⟩ := hr n j _ z n1 he
                simp only [e, if_true]
                exact exT_mo hr hv f _ n2 j _ y m h
              · rename_i h0
                simp only [Prod.mk.injEq] at h
                exact absurd h.1.2 h0
          · rw [if_neg ho] at h
            simp only [if_neg ho]
            split at h
            · rename_i h0
              obtain ⟨z, n1, he⟩ := ans0 h0
              rw [he] at h
              obtain ⟨n2, e, rfl⟩ := hv n j _ z n1 he
              simp only [e, if_true]
              exact exT_mo hr hv f _ n2 j _ y m h
            · rename_i h0
              simp only [Prod.mk.injEq] at h
              exact absurd h.1.2 h0
    · rw [if_neg hc] at h
      simp only [if_neg hc]
      exact exT_mo hr hv f _ n j r y m h

theorem expS_mo {L L' : Option (Exp × Exp)} (h : MoL L L') : MoE (expS L) (expS L') := by
  intro V n j t x m ha
  exact exT_mo (refS_mo h V) (valS_mo h V) _ [] n j t x m ha

theorem lev_mo : ∀ k i, MoL (lev k) (lev (k + i))
  | 0, i => fun p h => by cases h
  | k + 1, i => fun p h => by
    simp only [lev, Option.some.injEq] at h
    subst h
    refine ⟨_, by rw [show k + 1 + i = k + i + 1 by omega, lev], expS_mo (lev_mo k i), valS_mo (lev_mo k i)⟩

/-- Told without an error, deeper and later: told from without, too. -/
theorem expand_of_deep {k n : Nat} (hk : k ≤ 20) {V : Vs} {t x : Str} {m : Nat} (h : expS (lev k) V n t = ((x, 0), m)) : expandS V t = (x, 0) := by
  obtain ⟨m', h1, _⟩ := expS_mo (lev_mo k (20 - k)) V 0 n t x m (by rwa [Nat.zero_add])
  rw [show k + (20 - k) = 20 by omega] at h1
  unfold expandS
  rw [h1]

def ownN : Str := [111, 119, 110]
def lateN : Str := [108, 97, 116, 101]
/-- A reference to a simple variable of that name. -/
theorem own_exp (V : Vs) {nm T : Str} (hg : getV V ownN = some (nm, T, true)) (hT : T.length ≤ 4000) : expandS V [36, 40, 111, 119, 110, 41] = (T, 0) := by
  have hr : refS (lev 20) V 0 [111, 119, 110] = ((T, 0), 1) := by
    rw [show lev 20 = some (expS (lev 19), valS (lev 19)) from rfl]
    simp only [refS]
    rw [if_neg (by decide), bodyS, show idxBl [111, 119, 110] = none by decide]
    simp only [restS]
    rw [show cutS [111, 119, 110] [[58]] = ([111, 119, 110], [], []) by decide]
    simp only [ne_eq, not_true_eq_false, false_and, if_false]
    rw [show expS (lev 19) V (0 + 1) [111, 119, 110] = (([111, 119, 110], 0), 1) by rw [expS, exT_none _ _ _ _ _ (by decide), List.nil_append, shortS_le (by decide)]]
    simp only [if_true]
    rw [valS, show getV V [111, 119, 110] = some (nm, T, true) from hg]
    simp only [if_true]
  unfold expandS expS
  have h := exT_step (refS (lev 20) V) (valS (lev 20) V) [] 0 [] 40 [111, 119, 110, 41] (by simp)
  simp only [List.nil_append] at h
  rw [h, if_neg (by decide), if_pos (by decide), show closeI _ [] (36 :: 40 :: [111, 119, 110, 41]) = some 5 by decide]
  simp only [Option.map_some]
  rw [show ((36 :: 40 :: [111, 119, 110, 41] : Str).take 5).drop 2 = [111, 119, 110] from rfl, hr]
  simp only [if_true]
  rw [show (36 :: 40 :: [111, 119, 110, 41] : Str).drop (5 + 1) = [] from rfl]
  simp only [exT]
  rw [shortS_le hT]

/-- A reference to a variable of that name that is not simple, told without an error. -/
theorem late_exp (V : Vs) {nm T x : Str} (hg : getV V lateN = some (nm, T, false)) (h : expandS V [36, 40, 108, 97, 116, 101, 41] = (x, 0)) : expandS V T = (x, 0) := by
  have hr : refS (lev 20) V 0 [108, 97, 116, 101] = expS (lev 18) V 2 T := by
    rw [show lev 20 = some (expS (lev 19), valS (lev 19)) from rfl]
    simp only [refS]
    rw [if_neg (by decide), bodyS, show idxBl [108, 97, 116, 101] = none by decide]
    simp only [restS]
    rw [show cutS [108, 97, 116, 101] [[58]] = ([108, 97, 116, 101], [], []) by decide]
    simp only [ne_eq, not_true_eq_false, false_and, if_false]
    rw [show expS (lev 19) V (0 + 1) [108, 97, 116, 101] = (([108, 97, 116, 101], 0), 1) by rw [expS, exT_none _ _ _ _ _ (by decide), List.nil_append, shortS_le (by decide)]]
    simp only [if_true]
    rw [valS, show getV V [108, 97, 116, 101] = some (nm, T, false) from hg]
    simp only [Bool.false_eq_true, if_false]
    rw [show lev 19 = some (expS (lev 18), valS (lev 18)) from rfl]
    simp only
    rw [if_neg (by decide)]
  unfold expandS expS at h
  have h2 := exT_step (refS (lev 20) V) (valS (lev 20) V) [] 0 [] 40 [108, 97, 116, 101, 41] (by simp)
  simp only [List.nil_append] at h2
  rw [h2, if_neg (by decide), if_pos (by decide), show closeI _ [] (36 :: 40 :: [108, 97, 116, 101, 41]) = some 6 by decide] at h
  simp only [Option.map_some] at h
  rw [show ((36 :: 40 :: [108, 97, 116, 101, 41] : Str).take 6).drop 2 = [108, 97, 116, 101] from rfl, hr] at h
  split at h
  · rename_i h0
    obtain ⟨y, m, he⟩ := ans0 h0
    rw [he, show (36 :: 40 :: [108, 97, 116, 101, 41] : Str).drop (6 + 1) = [] from rfl] at h
    simp only [exT] at h
    have hy := (shortS_0 h).1
    subst hy
    exact expand_of_deep (by decide) he
  · rename_i h0
    simp only [Prod.mk.injEq] at h
    exact absurd h.2 h0

end Go.Proofs.YtmcfnnpihlediaaGreatDoor.Ex

/- The law VarsSimple. -/
namespace Go.Proofs.YtmcfnnpihlediaaGreatDoor.Ex
open Go
attribute [-simp] rgn rgnD exec_seq exec_cond exec_block keepS

theorem assignS_ok {Y : Vs} {nm op t : Str} {Z : Vs} (h : assignS Y nm op t = (Z, 0)) (ht : t.length ≤ 4000) (hY : ∀ x ∈ Y, x.2.1.length ≤ 4000) :
    Z = Y ∨ ∃ T b, Z = setV (nm, T, b) Y ∧ T.length ≤ 8001 := by
  have hg : (gotL Y nm).1.2.1.length ≤ 4000 := by
    unfold gotL
    cases hg : getV Y nm with
    | none => simp
    | some x => exact hY x (List.mem_of_find?_eq_some hg)
  have hm : ∀ f (o x : Str), o.length ≤ 4000 → x.length ≤ 4000 → (moreS f o x).length ≤ 8001 := by
    intro f o x h1 h2
    unfold moreS
    split
    · simp; omega
    · omega
  unfold assignS at h
  split at h
  · simp at h
  · split at h
    · simp only [Prod.mk.injEq, and_true] at h
      exact .inr ⟨t, false, h.symm, by omega⟩
    · split at h
      · split at h
        · rename_i h0
          simp only [Prod.mk.injEq, and_true] at h
          exact .inr ⟨_, true, h.symm, by have := expand_le Y t h0; omega⟩
        · rename_i h0
          simp only [Prod.mk.injEq] at h
          exact absurd h.2 h0
      · split at h
        · split at h
          · simp only [Prod.mk.injEq, and_true] at h
            exact .inl h.symm
          · simp only [Prod.mk.injEq, and_true] at h
            exact .inr ⟨t, false, h.symm, by omega⟩
        · split at h
          · split at h
            · split at h
              · rename_i h0
                simp only [Prod.mk.injEq, and_true] at h
                exact .inr ⟨_, true, h.symm, hm _ _ _ hg (expand_le Y t h0)⟩
              · rename_i h0
                simp only [Prod.mk.injEq] at h
                exact absurd h.2 h0
            · simp only [Prod.mk.injEq, and_true] at h
              exact .inr ⟨_, false, h.symm, hm _ _ _ hg ht⟩
          · simp at h

section
variable [XX]

set_option maxHeartbeats 8000000 in
theorem law9v (hM : FullM) (n : Nat) (hn : 3001000 ≤ n) (V0 : Vs) (s nm op t : Str) (hnm : nm.length ≤ 9223372036854775807) :
    CP (F (n + 1)) 9 [rowAV V0, .str s, .agg [.str nm, .str op, .str t]] (.bool true) := by
  have hX := hM.1
  obtain ⟨n, rfl⟩ : ∃ q, n = q + 2 := ⟨n - 2, by omega⟩
  have c11 := v11 hX (n + 1) (by omega)
  have c12 := v12 hX n V0 (by omega)
  have hg := rowsL_good V0
  generalize rowsL V0 = z at *
  obtain ⟨A, ok⟩ := z
  simp only at c12 hg
  have hok := hg.ok (by omega)
  simp only [CP, rowAV, varsAV] at c11 c12
  have hrs : ∃ S, runFn Tryz.prog own1 (F (n + 2)) (n + 2) Tryz.f9 (Tryz.f9.body.getD .skip) [rowAV V0, .str s, .agg [.str nm, .str op, .str t]] [] = some ([.bool true], S) := by
    cases ok
    · simp [runFn, Tryz.f9, rowAV, c11, c12]
    · by_cases g1 : 600 < s.length
      · have g1' : decide (600 < (s.length : Int)) = true := by simp; omega
        simp [runFn, Tryz.f9, rowAV, c11, c12, g1']
      have g1' : decide (600 < (s.length : Int)) = false := by simp; omega
      by_cases g2 : 600 < t.length
      · have g2' : decide (600 < (t.length : Int)) = true := by simp; omega
        simp [runFn, Tryz.f9, rowAV, c11, c12, g1', g2']
      have g2' : decide (600 < (t.length : Int)) = false := by simp; omega
      by_cases g3 : nm = [111, 119, 110]
      · have g3' : (nm == [111, 119, 110]) = true := by simpa using g3
        simp [runFn, Tryz.f9, rowAV, c11, c12, g1', g2', g3']
      have g3' : (nm == [111, 119, 110]) = false := by simpa using g3
      by_cases g4 : nm = [108, 97, 116, 101]
      · have g4' : (nm == [108, 97, 116, 101]) = true := by simpa using g4
        simp [runFn, Tryz.f9, rowAV, c11, c12, g1', g2', g3', g4']
      have g4' : (nm == [108, 97, 116, 101]) = false := by simpa using g4
      have q1 := v13 hX (n + 1) (by omega) A s hok (by omega)
      simp only [CP, varsAV, rowAV] at q1
      by_cases he : (expandS A s).2 = 0
      case neg =>
        have he' : (((expandS A s).2 : Int) != 0) = true := by simp; omega
        simp [runFn, Tryz.f9, rowAV, c11, c12, g1', g2', g3', g4', q1, he']
      have hnl := expand_le A s he
      obtain ⟨now, hnow⟩ : ∃ now, expandS A s = (now, 0) := ⟨(expandS A s).1, by rw [← he]⟩
      rw [hnow] at q1 hnl
      simp only at q1 hnl
      have hA600 : ∀ x ∈ A, x.2.1.length ≤ 600 := fun x hx => by
        have := hg.2.2 x hx
        simp only [bigV, Bool.or_eq_false_iff, decide_eq_false_iff_not] at this
        omega
      have hAl := hg.2.1
      -- the three assignments
      have q2 := v20 hM (n + 1) (by omega) A ownN [58, 61] s hok (by decide) (by omega)
      have e2 : assignS A ownN [58, 61] s = (setV (ownN, now, true) A, 0) := by
        unfold assignS
        rw [if_neg (by decide), if_neg (by decide), if_pos rfl, hnow, if_pos rfl]
      rw [e2] at q2
      obtain ⟨X, hXe⟩ : ∃ X, X = setV (ownN, now, true) A := ⟨_, rfl⟩
      have hXo : ordV X = true := by rw [hXe]; exact ordV_set _ hg.1
      have hXl : X.length ≤ 31 := by rw [hXe]; have := setV_len (ownN, now, true) A; omega
      have hXt : ∀ x ∈ X, x.2.1.length ≤ 4000 := fun x hx => by
        rw [hXe] at hx
        rcases setV_mem _ _ _ hx with rfl | hx
        · exact hnl
        · have := hA600 x hx; omega
      have hXg : getV X ownN = some (ownN, now, true) := by rw [hXe]; exact getV_set_same (ownN, now, true) A
      rw [← hXe] at q2
      have hXk : okV X 20 := ⟨hXo, by omega, fun x hx => by have := hXt x hx; omega⟩
      have q3 := v20 hM (n + 1) (by omega) X lateN [61] s hXk (by decide) (by omega)
      have e3 : assignS X lateN [61] s = (setV (lateN, s, false) X, 0) := by
        unfold assignS
        rw [if_neg (by decide), if_pos rfl]
      rw [e3] at q3
      obtain ⟨Y, hYe⟩ : ∃ Y, Y = setV (lateN, s, false) X := ⟨_, rfl⟩
      have hYo : ordV Y = true := by rw [hYe]; exact ordV_set _ hXo
      have hYl : Y.length ≤ 32 := by rw [hYe]; have := setV_len (lateN, s, false) X; omega
      have hYt : ∀ x ∈ Y, x.2.1.length ≤ 4000 := fun x hx => by
        rw [hYe] at hx
        rcases setV_mem _ _ _ hx with rfl | hx
        · simp only; omega
        · exact hXt x hx
      have hYg : getV Y ownN = some (ownN, now, true) := by rw [hYe, getV_set_ne _ _ (show ownN ≠ lateN by decide)]; exact hXg
      have hYh : getV Y lateN = some (lateN, s, false) := by rw [hYe]; exact getV_set_same (lateN, s, false) X
      rw [← hYe] at q3
      have hYk : okV Y 20 := ⟨hYo, by omega, fun x hx => by have := hYt x hx; omega⟩
      have q4 := v20 hM (n + 1) (by omega) Y nm op t hYk hnm (by omega)
      have hok4 := @assignS_ok Y nm op t
      generalize assignS Y nm op t = zz at *
      obtain ⟨Z, e⟩ := zz
      simp only [CP, varsAV, rowAV, ownN, lateN] at q2 q3 q4
      by_cases he4 : e = 0
      case neg =>
        have he' : ((e : Int) != 0) = true := by simp; omega
        simp [runFn, Tryz.f9, rowAV, c11, c12, g1', g2', g3', g4', q1, q2, q3, q4, he']
      subst he4
      have hZ := hok4 rfl (by omega) hYt
      have hZk : okV Z 20 ∧ getV Z ownN = some (ownN, now, true) ∧ getV Z lateN = some (lateN, s, false) := by
        rcases hZ with rfl | ⟨T, b, rfl, hT⟩
        · exact ⟨hYk, hYg, hYh⟩
        · refine ⟨⟨ordV_set _ hYo, by have := setV_len (nm, T, b) Y; omega, fun x hx => ?_⟩, ?_, ?_⟩
          · rcases setV_mem _ _ _ hx with rfl | hx
            · simp only; omega
            · have := hYt x hx; omega
          · rw [getV_set_ne _ _ (fun h => g3 h.symm)]; exact hYg
          · rw [getV_set_ne _ _ (fun h => g4 h.symm)]; exact hYh
      obtain ⟨hZk, hZg, hZh⟩ := hZk
      have r1 := v13 hX (n + 1) (by omega) Z [36, 40, 111, 119, 110, 41] hZk (by decide)
      rw [own_exp Z hZg hnl] at r1
      have r2 := v13 hX (n + 1) (by omega) Z s hZk (by omega)
      have r3 := v13 hX (n + 1) (by omega) Z [36, 40, 108, 97, 116, 101, 41] hZk (by decide)
      have r4 := v15 (n + 2) X ownN (by omega) (by omega)
      have e4 : gotL X ownN = ((ownN, now, true), true) := by simp [gotL, hXg]
      rw [e4] at r4
      have hlt := fun x => @late_exp Z lateN s x hZh
      generalize expandS Z s = ds at *
      generalize expandS Z [36, 40, 108, 97, 116, 101, 41] = ks at *
      obtain ⟨d, j⟩ := ds
      obtain ⟨k, m⟩ := ks
      simp only [CP, varsAV, rowAV, varAV, ownN] at r1 r2 r3 r4
      by_cases hm : m = 0
      · subst hm
        have := hlt k rfl
        simp only [Prod.mk.injEq] at this
        obtain ⟨rfl, rfl⟩ := this
        simp [runFn, Tryz.f9, rowAV, c11, c12, g1', g2', g3', g4', q1, q2, q3, q4, r1, r2, r3, r4, zeroCells]
      · have hm' : ((m : Int) != 0) = true := by simp; omega
        simp [runFn, Tryz.f9, rowAV, c11, c12, g1', g2', g3', g4', q1, q2, q3, q4, r1, r2, r3, r4, hm', zeroCells]
  obtain ⟨S, h⟩ := hrs
  refine F_cp (rs := [.bool true]) (S := S) (by simp only [noBoxL, noBox, noBox_row, Bool.and_self]) rfl ?_
  rw [F_fn rfl rfl rfl Tryz.func9 rfl]
  exact h

end
end Go.Proofs.YtmcfnnpihlediaaGreatDoor.Ex

namespace Go.Proofs.YtmcfnnpihlediaaGreatDoor.varsSimple
open Go Go.RowKit Go.Shelf Go.ChangeShapes Go.WideShapes Go.ChangeAt Go.Proofs.YtmcfnnpihlediaaGreatDoor.Ex
open Go.ChangeMaps (open_string shut_string)

theorem reads (os : Os) {H : Type} (enc : TypeId × Value → H) : ∃ places, DataW.whole enc Tryz.prog ((laidWorld os).forCall (fun _ _ => 0) ⟨#[], #[.slice none 0 0, .string ⟨#[]⟩, .agg #[.string ⟨#[]⟩, .string ⟨#[]⟩, .string ⟨#[]⟩]], []⟩).memory Tryz.f9.params.toList Rows.varsSimpleSpec.vars false (#[.slice none 0 0, .string ⟨#[]⟩, .agg #[.string ⟨#[]⟩, .string ⟨#[]⟩, .string ⟨#[]⟩]] : Array Value).toList 8 = some ([.nil, .lit (.string []), .agg [.lit (.string []), .lit (.string []), .lit (.string [])]], [], places) :=
  ⟨[], by kernel_rfl⟩

set_option maxRecDepth 100000 in
set_option maxHeartbeats 2000000 in
theorem contract (H : Type) (enc : TypeId × Value → H) (W : World) (base : Nat) (args : Array Value) (ds gs : List (DataW H)) (before : List MemPlace)
    (hval : ∀ (j : Nat) t v, Tryz.f9.params[j]? = some t → args[j]? = some v → Value.okWide Tryz.prog W .any base t v)
    (hW : DataW.Whole enc Tryz.prog Tryz.f9.params.toList Rows.varsSimpleSpec.vars false W args.toList ds gs before) (hL : laidMetH Tryz.prog Rows.varsSimpleRow.laid W) (hsh : W.ShapedOpen Tryz.prog) :
    Calls Tryz.prog 9 args W fun e W' => ∃ v, e = .returned v ∧ Rows.varsSimpleSpec.post enc Tryz.prog Tryz.f9 false true false false W args v W' := by
  have hG : Ex.Good W := good_of hL hsh
  have hW' := hW
  obtain ⟨p, q, hA0, hV, rfl, hfz, hnd⟩ := hW
  have hA : DataW.TrodAll enc Tryz.prog W 0 (fun _ => true) true Tryz.f9.params.toList args.toList ds p := hA0
  rw [Tryz.params9] at hA hval
  obtain ⟨v0, vs0, d0, ds0, p0, q0, hargs0, hds0, hp0, h0, r0⟩ := trodAll_cons hA
  obtain ⟨v1, vs1, d1, ds1, p1, q1, hargs1, hds1, hp1, h1, r1⟩ := trodAll_cons r0
  obtain ⟨v2, vs2, d2, ds2, p2, q2, hargs2, hds2, hp2, h2, r2⟩ := trodAll_cons r1
  obtain ⟨hn1, hn2, hn3⟩ := trodAll_nil r2
  subst hn1 hn2 hn3
  subst hargs2 hds2 hp2
  subst hargs1 hds1 hp1
  subst hds0 hp0
  obtain rfl : args = #[v0, v1, v2] := by cases args; simp_all
  obtain ⟨rfl, rfl⟩ := trodVars_none hV
  have k0 := h0
  have k1 := h1
  have k2 := h2
  obtain ⟨V0, x0⟩ := open_vars (hval 0 22 v0 rfl rfl) h0
  obtain ⟨s1, rfl⟩ := okWide_string Tryz.underlying9 (hval 1 9 v1 rfl rfl)
  obtain ⟨s2, t2, u2, rfl, hl2⟩ := open_act (hval 2 51 v2 rfl rfl) h2
  have l0 : ∀ x ∈ p0, x.block < W.heap.size := fun x hx => by simpa using hW'.lt x (by simp [hx])
  have l1 : ∀ x ∈ p1, x.block < W.heap.size := fun x hx => by simpa using hW'.lt x (by simp [hx])
  have l2 : ∀ x ∈ p2, x.block < W.heap.size := fun x hx => by simpa using hW'.lt x (by simp [hx])
  clear hA0
  simp only [List.append_nil] at hW'
  obtain ⟨n, hn⟩ : ∃ n, 3001000 ≤ n := ⟨_, Nat.le_refl _⟩
  have walk := law_calls2 hG (R := Mem W) (@law9v X2 full2 n hn V0 s1.data.toList s2.data.toList t2.data.toList u2.data.toList hl2) (Mem.stab W) (vrs_cons (x0) (vrs_cons (vr_string s1) (vrs_one (vr_act s2 t2 u2))))
  refine walk.mono fun e W' ⟨he, hbel⟩ => ?_
  subst he
  refine ⟨_, rfl, _, _, _, [], (p0 ++ (p1 ++ (p2 ++ []))), [], hW', ?_, ?_, ?_, hbel.frame _, fun h => by cases h⟩
  · exact trodAll_cons_mk (shut_bool Tryz.underlying4 _) trodAll_mk0
  · exact trodAll_cons_mk (Below.trod laidOut (by kernel_rfl) (of_decide_eq_true (by kernel_rfl)) k0 hbel l0) (trodAll_cons_mk (Below.trod laidOut (by kernel_rfl) (of_decide_eq_true (by kernel_rfl)) k1 hbel l1) (trodAll_cons_mk (Below.trod laidOut (by kernel_rfl) (of_decide_eq_true (by kernel_rfl)) k2 hbel l2) trodAll_mk0))
  · rfl

set_option maxRecDepth 100000 in
theorem lifted (os : Os) (started : os.Started) (H : Type) (enc : TypeId × Value → H) (F : Stop.Interp) :
    ReturnsInHanded {} Tryz.checked os 9 .any ((OpenSpec.ofChange Rows.varsSimpleSpec).preRow enc Tryz.prog Tryz.f9 Rows.varsSimpleRow.domain false Rows.varsSimpleRow.laid) (((OpenSpec.ofChange Rows.varsSimpleSpec).at F).post enc Tryz.prog Tryz.f9 false true false false) := by
  obtain ⟨places, hx⟩ := reads os enc
  refine returnsInHanded_of_row (C := Tryz.checked) (s := (OpenSpec.ofChange Rows.varsSimpleSpec)) own0 started (by kernel_rfl) Tryz.func9
    (witness_row_atRef (enc := enc) (C := Tryz.checked) false (laidWorld os) #[.slice none 0 0, .string ⟨#[]⟩, .agg #[.string ⟨#[]⟩, .string ⟨#[]⟩, .string ⟨#[]⟩]] rfl (by kernel_rfl) (by kernel_rfl) (by kernel_rfl)
      (OpenSpec.preRow_of_cond 8 hx (by kernel_rfl) (fun k hk => by cases hk) (by kernel_rfl) (laid_met os _))) ?_
  intro W base args ds gs before hval hW _ hcond _ hL hsh _
  exact contract H enc W base args ds gs before hval hW hL hsh

set_option maxRecDepth 100000 in
theorem said : Rows.VarsSimpleSaid :=
  OpenClaim.holds_of_cond 9 Tryz.f9 rfl rfl rfl rfl rfl rfl rfl ⟨rfl, rfl, rfl, rfl, rfl⟩ rfl rfl rfl rfl rfl (by kernel_rfl) Tryz.func9 (by kernel_rfl)
    (of_decide_eq_true (by kernel_rfl)) (by unfold Func.isWrapper; first | (rw [if_pos (by decide +kernel)]; kernel_rfl) | (rw [if_neg (by decide +kernel)]; exact ⟨rfl, rfl⟩))
    (fun os started H enc _ F => by rw [OpenClaim.pre_eq_preRow]; exact lifted os started H enc F)

theorem plain (f : FuncId) (fn : Func) (hf : Tryz.pinned.checked.prog.funcNamed "cooperage/cooperagelaw11.VarsSimple" = some f) (hfn : Tryz.pinned.checked.prog.funcs[f]? = some fn) :
    true = Tryz.pinned.checked.prog.looks [] ∧ ∀ (j : Nat) t, fn.params[j]? = some t → Tryz.pinned.checked.prog.wantsStandIn t = false := by
  obtain rfl : f = 9 := Option.some.inj ((show Tryz.prog.funcNamed "cooperage/cooperagelaw11.VarsSimple" = some 9 by kernel_rfl).symm.trans hf) |>.symm
  obtain rfl : fn = Tryz.f9 := (Option.some.inj (Tryz.func9.symm.trans hfn)).symm
  refine ⟨by kernel_rfl, fun j t ht => ?_⟩
  rw [Tryz.params9] at ht
  have hm := Array.mem_of_getElem? ht
  simp at hm
  rcases hm with rfl | rfl | rfl
  · exact (show Tryz.prog.wantsStandIn 22 = false by kernel_rfl)
  · exact (show Tryz.prog.wantsStandIn 9 = false by kernel_rfl)
  · exact (show Tryz.prog.wantsStandIn 51 = false by kernel_rfl)

/-- The card. -/
theorem card : Rows.VarsSimpleCardSaid :=
  Claim7.holds_tied_plain_at .later [] _ _ _ _ said (fun _ h => by cases h) (by kernel_rfl) (fun _ h => by cases h) varsSimple_row_tie rfl ⟨rfl, rfl⟩ (by kernel_rfl) rfl plain (by kernel_rfl)
end Go.Proofs.YtmcfnnpihlediaaGreatDoor.varsSimple
