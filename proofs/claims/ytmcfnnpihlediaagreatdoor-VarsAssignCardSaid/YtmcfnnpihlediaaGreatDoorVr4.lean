/- Part 4 of the proof: what is walked and what is not, the pure interpreter over the code and its soundness, plain laws. -/
import Derived.Test.YtmcfnnpihlediaaGreatDoorVr3
import Derived.Laws.AppendOwn
import Derived.Lib.AppendZerosOnto
import Derived.Lib.Overlaps
import Derived.Lib.LazyBuf
import Derived.Shelf.Spec.SlicesInsert
import Derived.Shelf.Spec.SlicesInsertGrow
import Derived.Deep.MidRow
set_option linter.unusedSimpArgs false
set_option linter.unusedVariables false
set_option linter.unusedSectionVars false

/- Two lists are the same; a number as a text; words put together one by one. -/
namespace Go.Proofs.YtmcfnnpihlediaaGreatDoor.Ex
open Go

theorem w64 {i : Nat} (h : i ≤ 4000000000) : IntKind.wrap .i64 ((i : Int) + 1) = ((i + 1 : Nat) : Int) := by
  rw [wrap64 (by omega) (by omega)]; omega

theorem dig_slice : ∀ d : Fin 10, (([48, 49, 50, 51, 52, 53, 54, 55, 56, 57] : Str).drop d.val).take 1 = [digB d.val] := by decide
theorem dig_slice' (d : Nat) (h : d < 10) : (([48, 49, 50, 51, 52, 53, 54, 55, 56, 57] : Str).drop d).take 1 = [digB d] := dig_slice ⟨d, h⟩

theorem tmod10 (m : Nat) : ((m : Int).tmod 10) = ((m % 10 : Nat) : Int) := by
  rw [Int.tmod_eq_emod_of_nonneg (by omega)]; omega
theorem tdiv10 (m : Nat) : ((m : Int).tdiv 10) = ((m / 10 : Nat) : Int) := by
  rw [Int.tdiv_eq_ediv_of_nonneg (by omega)]; omega

def decI (k : Nat) (x : Nat × Str) : Prop := (x.2 = [] ∧ x.1 = k) ∨ (x.2 ≠ [] ∧ x.1 = 0 ∧ x.2 = decL k) ∨ (x.2 ≠ [] ∧ x.1 ≠ 0 ∧ decL x.1 ++ x.2 = decL k)
theorem decI_step {k m : Nat} {s : Str} (h : decI k (m, s)) (hgo : m ≠ 0 ∨ s = []) : decI k (m / 10, digB (m % 10) :: s) := by
  have key : decL m ++ s = decL k := by
    rcases h with ⟨h1, h2⟩ | ⟨h1, h2, h3⟩ | ⟨h1, h2, h3⟩
    · simp only at h1 h2; rw [h1, h2, List.append_nil]
    · simp only at h1 h2; rcases hgo with h | h
      · exact absurd h2 h
      · exact absurd h h1
    · exact h3
  by_cases hm : m < 10
  · refine .inr (.inl ⟨by simp, ?_, ?_⟩)
    · show m / 10 = 0; omega
    · show digB (m % 10) :: s = decL k
      rw [decL_small hm] at key
      rw [← key, Nat.mod_eq_of_lt hm]; rfl
  · refine .inr (.inr ⟨by simp, ?_, ?_⟩)
    · show m / 10 ≠ 0; omega
    · show decL (m / 10) ++ digB (m % 10) :: s = decL k
      rw [decL_big hm] at key
      rw [← key]; simp
theorem decI_len {k m : Nat} {s : Str} (h : decI k (m, s)) (hk : k < 1000000000) : s.length ≤ 9 := by
  have hl := decL_len 8 k (by simpa using hk)
  rcases h with ⟨h1, _⟩ | ⟨_, _, h3⟩ | ⟨_, _, h3⟩
  · simp only at h1; rw [h1]; simp
  · simp only at h3; rw [h3]; omega
  · have := congrArg List.length h3
    simp only [List.length_append] at this; omega

theorem joinL_app (l : List Str) (w : Str) (h : l ≠ []) : joinL [32] (l ++ [w]) = joinL [32] l ++ 32 :: w := by
  induction l with
  | nil => exact absurd rfl h
  | cons a l ih =>
    cases l with
    | nil => simp [joinL]
    | cons b l =>
      have := ih (by simp)
      show a ++ [32] ++ joinL [32] ((b :: l) ++ [w]) = a ++ [32] ++ joinL [32] (b :: l) ++ 32 :: w
      rw [this]; simp
theorem joinL_take (l : List Str) (i : Nat) (h : i < l.length) : joinL [32] (l.take (i + 1)) = (if i = 0 then [] else joinL [32] (l.take i) ++ [32]) ++ l[i] := by
  rw [List.take_succ_eq_append_getElem h]
  by_cases hi : i = 0
  · subst hi; simp [joinL]
  · rw [joinL_app _ _ (fun e => by have h9 := congrArg List.length e; rw [List.length_take, List.length_nil] at h9; omega), if_neg hi]; simp

theorem sumLen_take (l : List Str) (i : Nat) : sumLen (l.take i) ≤ sumLen l := by
  induction l generalizing i with
  | nil => simp
  | cons a l ih => cases i with
    | zero => simp [sumLen]
    | succ i => have := ih i; simp only [List.take_succ_cons, sumLen]; omega

set_option maxHeartbeats 1000000 in
theorem cp25 [XX] (n : Nat) (l : List Str) (hb : sumLen l + l.length ≤ 40000000) (hn : l.length < n) : CP (F (n + 1)) 99 [.sl 1 (l.map .str)] (.str (joinL [32] l)) := by
  refine F_cp (rs := [.str (joinL [32] l)]) (S := []) (by simp [noBoxL, noBox]) rfl ?_
  rw [F_fn rfl rfl rfl Tryz.func99 rfl]
  simp [runFn, Tryz.f99]
  generalize hI : iter _ _ _ = r
  obtain ⟨pf', rfl, h⟩ := iter_count 0 (fun i pf => pf 0 = .sl 1 (l.map .str) ∧ pf 3 = .str (joinL [32] (l.take i)) ∧ pf 4 = .int .i64 i) l.length
    (fun i pf hi h => by
      obtain ⟨h0, h3, h4⟩ := h
      have hw := w64 (i := i) (by omega)
      have hj := joinL_take l i hi
      have l1 : (joinL [32] (l.take i)).length ≤ 40000000 := by
        have h1 := join_length_le (l.take i)
        have h2 := sumLen_take l i
        have h3 : (l.take i).length ≤ l.length := by rw [List.length_take]; omega
        omega
      have l2 : (joinL [32] (l.take (i + 1))).length ≤ 40000000 := by
        have h1 := join_length_le (l.take (i + 1))
        have h2 := sumLen_take l (i + 1)
        have h3 : (l.take (i + 1)).length ≤ l.length := by rw [List.length_take]; omega
        omega
      rw [hj] at l2 ⊢
      by_cases hi0 : i = 0
      · subst hi0
        simp only [↓reduceIte, List.nil_append] at l2
        have h3' : pf 3 = .str [] := h3
        have e1 : l[0].length ≤ 9223372036854775807 := by omega
        have e2 : IntKind.wrap .i64 1 = 1 := wrap64 (by omega) (by omega)
        simp [h0, h3', h4, hi, hw, e1, e2]
      · generalize joinL [32] (l.take i) = x at *
        rw [if_neg hi0] at l2 ⊢
        simp only [List.length_append, List.length_cons, List.length_nil] at l2
        have hi1 : 0 < i := by omega
        have e1 : x.length + 1 ≤ 9223372036854775807 := by omega
        have e2 : x.length + 1 + l[i].length ≤ 9223372036854775807 := by omega
        have e3 : x.length + (1 + l[i].length) ≤ 9223372036854775807 := by omega
        have e4 : x.length + (l[i].length + 1) ≤ 9223372036854775807 := by omega
        simp [h0, h3, h4, hi, hw, hi1, e1, e2, e3, e4])
    (fun pf h => by
      obtain ⟨h0, h3, h4⟩ := h
      simp [h0, h3, h4]) l.length 0 n _ r (by omega) hI (by simp [joinL]) (by omega)
  obtain ⟨h0, h3, h4⟩ := h
  simp [h3]

theorem a25 [XX] {n : Nat} (hn : deep n) (l : List Str) (hb : sumLen l + l.length ≤ 1000000) : callP (F n) (.f 99) [.sl 1 (l.map .str)] = some (.str (joinL [32] l)) := by
  unfold deep at hn
  obtain ⟨m, rfl⟩ : ∃ m, n = m + 1 := ⟨n - 1, by omega⟩
  exact cp25 m l (by omega) (by omega)

end Go.Proofs.YtmcfnnpihlediaaGreatDoor.Ex

/- What is sorted: each word once, in order. -/
namespace Go.Proofs.YtmcfnnpihlediaaGreatDoor.Ex
open Go

theorem any_take (w : List Str) (x : Str) (k : Nat) (h : k < w.length) : (w.take (k + 1)).any (· == x) = ((w.take k).any (· == x) || w[k] == x) := by
  rw [List.take_succ_eq_append_getElem h]; simp only [List.any_append, List.any_cons, List.any_nil, Bool.or_false]
theorem any_full {w : List Str} {x : Str} (h : x ∈ w) : (w.take w.length).any (· == x) = true := by
  rw [List.take_length]; simpa using h

theorem strict_get : ∀ {l : List Str}, strict l → ∀ i (h : i + 1 < l.length), Op.bytesLess l[i] l[i + 1] = true
  | x :: y :: r, hs, 0, _ => hs.1
  | x :: y :: r, hs, i + 1, h => strict_get (strict_tail hs) i (by simpa using h)
theorem strict_not_leq {l : List Str} (hs : strict l) (i : Nat) (h : i + 1 < l.length) : (Op.bytesLess l[i + 1] l[i] || l[i + 1] == l[i]) = false := by
  have h1 := strict_get hs i h
  have h2 : Op.bytesLess l[i + 1] l[i] = false := by
    cases hb : Op.bytesLess l[i + 1] l[i] with
    | false => rfl
    | true => have := less_trans h1 hb; rw [less_irrefl] at this; cases this
  have h3 : (l[i + 1] == l[i]) = false := by
    cases hb : (l[i + 1] == l[i]) with
    | false => rfl
    | true =>
      have e : l[i + 1] = l[i] := by simpa using hb
      rw [e, less_irrefl] at h1; cases h1
  rw [h2, h3]; rfl

theorem sortU_lenT (t : Str) : (sortU (wordsL t)).length ≤ t.length + 1 := by
  have h1 := sortU_sum (wordsL t)
  have h2 := wordsL_sum t
  omega

theorem dropWhile_len (s : Str) : (s.dropWhile isBl).length ≤ s.length := (List.dropWhile_sublist _).length_le

theorem take_pre (a t : Str) : (t.take a.length == a) = isPre a t := by
  cases h : isPre a t with
  | true => simpa using ((isPre_iff a t).1 h).1
  | false =>
    cases h2 : (t.take a.length == a) with
    | false => rfl
    | true =>
      have e : t.take a.length = a := by simpa using h2
      have : isPre a t = true := (isPre_iff a t).2 ⟨e, by have := congrArg List.length e; simp at this; omega⟩
      rw [h] at this; cases this

end Go.Proofs.YtmcfnnpihlediaaGreatDoor.Ex

/- Steps that do not look ahead: what stands behind a step is not looked at before the step is done. -/
namespace Go.Proofs.YtmcfnnpihlediaaGreatDoor.Ex
open Go

noncomputable def sq (P : Program) (own : FuncId → Bool) (call : CallT) (n : Nat) (rd : Option Nat) (nt : Nat) (b : Code) (r : Option (PX × Cfg)) : Option (PX × Cfg) := match r with
  | some (.norm, c') => exec P own call n rd nt b c'
  | r => r
noncomputable def cnd (P : Program) (own : FuncId → Bool) (call : CallT) (n : Nat) (rd : Option Nat) (nt : Nat) (x y : Code) (c : Cfg) (b : Option AV) : Option (PX × Cfg) := match b with
  | some (.bool t) => if t then exec P own call n rd nt x c else exec P own call n rd nt y c
  | _ => none
def blk (id : Nat) (r : Option (PX × Cfg)) : Option (PX × Cfg) := match r with
  | some (.ex i, c') => if i = id then some (.norm, c') else some (.ex i, c')
  | r => r
noncomputable def rg1 (P : Program) (own : FuncId → Bool) (call : CallT) (ops : Array Oper) (o : Oper) (r : List Oper) (pf : PF) (x : Option (AV × Obs)) : Option (PF × Obs) := match x with
  | some (x, S') => rgn P own call ops r (updO pf o.dst x) S'
  | none => none
noncomputable def rg0 (P : Program) (own : FuncId → Bool) (call : CallT) (ops : Array Oper) (o : Oper) (r : List Oper) (pf : PF) (S : Obs) (b : Option Bool) : Option (PF × Obs) := match b with
  | some true => rg1 P own call ops o r pf (evOp P own call ops o pf S)
  | some false => rgn P own call ops r (updO pf o.dst .undef) S
  | none => none
noncomputable def rd1 (P : Program) (own : FuncId → Bool) (call : CallT) (ops : Array Oper) (o : Oper) (r : List Oper) (pf : PF) (x : Option (AV × Obs)) : Option (PF × Obs) := match x with
  | some p => rgnD P own call ops r (updO pf o.dst p.1) p.2
  | none => none
noncomputable def rd0 (P : Program) (own : FuncId → Bool) (call : CallT) (ops : Array Oper) (o : Oper) (r : List Oper) (pf : PF) (S : Obs) (b : Option Bool) : Option (PF × Obs) := match b with
  | some true => rd1 P own call ops o r pf (evX P own call ops S o pf)
  | some false => rgnD P own call ops r (updO pf o.dst .undef) S
  | none => none
section
variable {P : Program} {own : FuncId → Bool} {call : CallT} {n : Nat} {rd : Option Nat} {nt : Nat} {c : Cfg} {a b : Code} {ops : Array Oper} {o : Oper} {r : List Oper} {pf : PF} {S S' : Obs} {x : AV}
@[simp high] theorem exec_sq : exec P own call n rd nt (.seq a b) c = sq P own call n rd nt b (exec P own call n rd nt a c) := _root_.id rfl
@[simp] theorem sq_norm : sq P own call n rd nt b (some (.norm, c)) = exec P own call n rd nt b c := _root_.id rfl
@[simp] theorem sq_ex {i : Nat} : sq P own call n rd nt b (some (.ex i, c)) = some (.ex i, c) := _root_.id rfl
@[simp] theorem sq_ret : sq P own call n rd nt b (some (.ret, c)) = some (.ret, c) := _root_.id rfl
@[simp high] theorem exec_cnd {k : Operand} : exec P own call n rd nt (.cond k a b) c = cnd P own call n rd nt a b c (opv c.pf k) := _root_.id rfl
@[simp] theorem cnd_true : cnd P own call n rd nt a b c (some (.bool true)) = exec P own call n rd nt a c := _root_.id rfl
@[simp] theorem cnd_false : cnd P own call n rd nt a b c (some (.bool false)) = exec P own call n rd nt b c := _root_.id rfl
@[simp high] theorem exec_blk {id : Nat} {k : Code} : exec P own call n rd nt (.block id k) c = blk id (exec P own call n rd nt k c) := _root_.id rfl
@[simp] theorem blk_norm {id : Nat} : blk id (some (.norm, c)) = some (.norm, c) := _root_.id rfl
@[simp] theorem blk_ret {id : Nat} : blk id (some (.ret, c)) = some (.ret, c) := _root_.id rfl
@[simp] theorem blk_ex {id i : Nat} : blk id (some (.ex i, c)) = if i = id then some (.norm, c) else some (.ex i, c) := _root_.id rfl
@[simp high] theorem rgn_nil' : rgn P own call ops [] pf S = some (pf, S) := _root_.id rfl
@[simp high] theorem rgn_cons' : rgn P own call ops (o :: r) pf S = rg0 P own call ops o r pf S (wantA ops pf o) := _root_.id rfl
@[simp] theorem rg0_true : rg0 P own call ops o r pf S (some true) = rg1 P own call ops o r pf (evOp P own call ops o pf S) := _root_.id rfl
@[simp] theorem rg0_false : rg0 P own call ops o r pf S (some false) = rgn P own call ops r (updO pf o.dst .undef) S := _root_.id rfl
@[simp] theorem rg1_some : rg1 P own call ops o r pf (some (x, S')) = rgn P own call ops r (updO pf o.dst x) S' := _root_.id rfl
@[simp high] theorem rgnD_nil' : rgnD P own call ops [] pf S = some (pf, S) := _root_.id rfl
@[simp high] theorem rgnD_cons' : rgnD P own call ops (o :: r) pf S = rd0 P own call ops o r pf S (wantA ops pf o) := _root_.id rfl
@[simp] theorem rd0_true : rd0 P own call ops o r pf S (some true) = rd1 P own call ops o r pf (evX P own call ops S o pf) := _root_.id rfl
@[simp] theorem rd0_false : rd0 P own call ops o r pf S (some false) = rgnD P own call ops r (updO pf o.dst .undef) S := _root_.id rfl
@[simp] theorem rd1_some : rd1 P own call ops o r pf (some (x, S')) = rgnD P own call ops r (updO pf o.dst x) S' := _root_.id rfl
end

end Go.Proofs.YtmcfnnpihlediaaGreatDoor.Ex

/- What is walked, over what is not: the machine's calls. -/
namespace Go.Proofs.YtmcfnnpihlediaaGreatDoor.Ex
open Go Go.RowKit Go.Shelf

theorem fns_chk : fns.all (chkFn Tryz.prog own1) = true := by kernel_rfl
theorem mixed : Tryz.prog.follows .mixedOrders = true := by kernel_rfl

section
variable {W : World}

/-- What is taken for a function of the program is what it does. -/
structure XOK [XX] (W : World) : Prop where
  x : ∀ g, XX.x = some g → callable Tryz.prog 112 = true ∧ FnOK Tryz.prog (GW W) own1 112 g
  y : ∀ g, XX.y = some g → callable Tryz.prog 144 = true ∧ FnOK Tryz.prog (GW W) own1 144 g
  z : ∀ g, XX.z = some g → callable Tryz.prog 19 = true ∧ FnOK Tryz.prog (GW W) own1 19 g
  c : ∀ g, XX.c = some g → callable Tryz.prog 39 = true ∧ FnOK Tryz.prog (GW W) own1 39 g
  p : ∀ g, XX.p = some g → callable Tryz.prog 64 = true ∧ FnOK Tryz.prog (GW W) own1 64 g
  m : ∀ g, XX.m = some g → callable Tryz.prog 30 = true ∧ FnOK Tryz.prog (GW W) own1 30 g

theorem ext_all [XX] (hW : Good W) (hX : XOK W) : ∀ f g, ext0 f = some g → callable Tryz.prog f = true ∧ FnOK Tryz.prog (GW W) own1 f g := by
  intro f g h
  unfold ext0 at h
  split at h
  · exact hX.x g h
  · exact hX.y g h
  · exact hX.z g h
  · exact hX.m g h
  · injection h with h; subst h; exact ⟨by kernel_rfl, ok22 hW⟩
  · injection h with h; subst h; exact ⟨by kernel_rfl, ok32⟩
  · injection h with h; subst h; exact ⟨by kernel_rfl, ok34 hW⟩
  · injection h with h; subst h; exact ⟨by kernel_rfl, ok35⟩
  · injection h with h; subst h; exact ⟨by kernel_rfl, ok40 hW⟩
  · injection h with h; subst h; exact ⟨by kernel_rfl, ok50 hW⟩
  · injection h with h; subst h; exact ⟨by kernel_rfl, ok63⟩
  · injection h with h; subst h; exact ⟨by kernel_rfl, ok64⟩
  · injection h with h; subst h; exact ⟨by kernel_rfl, ok128⟩
  · injection h with h; subst h; exact ⟨by kernel_rfl, ok129 hW⟩
  · injection h with h; subst h; exact ⟨by kernel_rfl, ok131⟩
  · injection h with h; subst h; exact ⟨by kernel_rfl, ok132⟩
  · injection h with h; subst h; exact ⟨by kernel_rfl, ok158⟩
  · injection h with h; subst h; exact ⟨by kernel_rfl, ok116⟩
  · cases h

/-- A pure call's answer is the machine's. -/
theorem calls_of [XX] (hext : ∀ f g, ext0 f = some g → callable Tryz.prog f = true ∧ FnOK Tryz.prog (GW W) own1 f g) {n : Nat} {f : FuncId} {R : Reads} {w : World} {args : List Value} {avs rs : List AV} {S : Obs}
    (hb : Below W.heap.size W w) (hs : Stab R w) (ha : VRs R [] args avs) (h : F n (.f f) avs [] = some (rs, S)) (hnp : isPan rs = false := by rfl) :
    Calls Tryz.prog f args.toArray w fun e w' => ∃ vs R' bl, e = .returned (retv vs) ∧ VRs R' (mains bl) vs rs ∧ Stp R [] w R' bl w' ∧ SR (lokB own1) R' bl w' S ∧
      (own1 f = true → ∃ v sz xs, vs = [v] ∧ rs = [.sl sz xs] ∧ OwnV R' 0 w' v sz ∧ ∀ b, blockOf v = some b → (w.heap.size ≤ b ∨ b ∈ fp []) ∧ b ∉ fp bl) :=
  (show Calls Tryz.prog f args.toArray w _ from fnS_sound mixed hext eo_all fns_chk n (.f f) R [] w [] args avs rs S ⟨hb, by simp [fp], hb.size⟩ hs ⟨rfl, by simp [fp], by simp [fp], by intro i p o h; simp at h⟩ ha h).mono fun e w' hp => by
    rcases hp with h | ⟨x, u, R', bl', rfl, _⟩
    · exact h
    · simp [isPan, isPan1] at hnp

theorem noPan_of {rs : List AV} (h : noBoxL rs = true) : isPan rs = false := by
  match rs, h with
  | [], _ => rfl
  | [x], h => cases x <;> first | rfl | (simp [noBoxL, noBox] at h)
  | _ :: _ :: _, _ => rfl

theorem stp_below {R R' : Reads} {bl : BL} {w w' : World} (h : Stp R [] w R' bl w') : Below w.heap.size w w' :=
  ⟨h.os, h.tape, h.output, h.size, fun k hk => h.blk k hk (by simp [fp])⟩
end

/-- Level nought: of none anything is told. -/
@[reducible] def X0 : XX := ⟨none, none, none, none, none, none⟩
theorem ext_0 {W : World} (hW : Good W) : ∀ f g, @ext0 X0 f = some g → callable Tryz.prog f = true ∧ FnOK Tryz.prog (GW W) own1 f g :=
  @ext_all W X0 hW (@XOK.mk X0 W (fun g h => by cases h) (fun g h => by cases h) (fun g h => by cases h) (fun g h => by cases h) (fun g h => by cases h) (fun g h => by cases h))

/-- A row of texts of the call's own. -/
def OwnStrs (base : Nat) (w : World) (v : Value) (l : List Str) : Prop :=
  (l = [] ∧ v = .slice none 0 0) ∨ (∃ b c cur e, v = .slice (some ⟨b, 0, none⟩) l.length c ∧ base ≤ b ∧ b < w.heap.size ∧ w.heap[b]? = some (.cells cur e (0, 0)) ∧ l.length ≤ c ∧ c ≤ maxLen ∧ cur.size = c ∧
    ∀ (i : Nat) (hi : i < l.length), cur[i]? = some (.string ⟨l[i].toArray⟩))

theorem ownStrs_of {R : Reads} {M : List Nat} {w : World} {v : Value} {l : List Str} {base : Nat} (hs : Stab R w) (hv : VR R M v (.sl 1 (l.map .str))) (ho : OwnV R 0 w v 1) (hb : ∀ b, blockOf v = some b → base ≤ b) : OwnStrs base w v l := by
  rcases ho with rfl | ⟨b, n, c, cur, e, rfl, h2, h3, h4, h5, h6, h7⟩
  · rcases hv.strs hs with ⟨rfl, _⟩ | ⟨hne, b, o, c, h, _⟩
    · exact .inl ⟨rfl, rfl⟩
    · cases h
  · have hlt : b < w.heap.size := (Array.getElem?_eq_some_iff.1 h3).1
    have hn : n = l.length := by
      obtain ⟨A, m, c', h, hm, _⟩ := hv.slice_inv
      injection h with e1 e2 e3
      rw [e2, hm]; simp
    subst hn
    refine .inr ⟨b, c, cur, e, rfl, hb b rfl, hlt, h3, h4, h5, by omega, fun i hi => ?_⟩
    rcases hv.strs hs with ⟨hl, _⟩ | ⟨hne, b', o, c', h, _, _, hcell⟩
    · rw [hl] at hi; simp at hi
    · injection h with e1 e2 e3
      injection e1 with e1
      injection e1 with e1 e4 e5
      subst e1 e4
      have := (hcell i hi).1
      rw [Nat.zero_add, cells_of_block h3] at this
      exact this

/-- text.Words: a row of its own. -/
theorem words_calls {W w : World} (hW : Good W) (hb : Below W.heap.size W w) (s : Str) (hs : s.length ≤ 100000000) :
    Calls Tryz.prog 110 #[.string ⟨s.toArray⟩] w fun e w' => ∃ v, e = .returned v ∧ Below w.heap.size w w' ∧ OwnStrs w.heap.size w' v (wordsL s) := by
  letI : XX := X0
  have h := cp19 (s.length + 5) s (by omega) (by omega)
  simp only [CP, callP] at h
  split at h
  case isFalse => cases h
  split at h
  case h_2 => cases h
  rename_i rs S hF
  split at h
  case isFalse => cases h
  rename_i hnr
  injection h with h
  refine (calls_of (ext_0 hW) (R := fun _ _ => False) hb (fun _ _ h => h.elim) (vrs_one (.str s)) hF (noPan_of hnr)).mono fun e w' hp => ?_
  obtain ⟨vs, R', bl, rfl, hv, hst, hsr, ho⟩ := hp
  obtain ⟨v, sz, xs, rfl, h2, h3, h4⟩ := ho rfl
  subst h2
  simp only [packAV] at h
  rw [h] at hv
  injection h with e1 e2
  subst e1
  refine ⟨v, rfl, stp_below hst, ownStrs_of hst.stab (hv.2 0 (by simp) (by simp)) h3 fun b hb => ?_⟩
  rcases (h4 b hb).1 with h5 | h5
  · exact h5
  · simp [fp] at h5

/-- text.Join of a row that stands in the world. -/
theorem join_calls {W w : World} (hW : Good W) (hb : Below W.heap.size W w) (l : List Str) (hl : (joinL [32] l).length ≤ lim) (v : Value)
    (hv : (l = [] ∧ (v = .slice none 0 0 ∨ ∃ a c, v = .slice (some a) 0 c)) ∨ (l ≠ [] ∧ ∃ b c, v = .slice (some ⟨b, 0, none⟩) l.length c ∧ l.length ≤ c ∧ ∀ (i : Nat) (hi : i < l.length), w.cell? ⟨b, i, none⟩ = some (.string ⟨l[i].toArray⟩))) :
    Calls Tryz.prog 111 #[v] w fun e w' => e = .returned (.string ⟨(joinL [32] l).toArray⟩) ∧ Below w.heap.size w w' := by
  letI : XX := X0
  have h := cp21 0 l hl
  simp only [CP, callP] at h
  split at h
  case isFalse => cases h
  split at h
  case h_2 => cases h
  rename_i rs S hF
  split at h
  case isFalse => cases h
  rename_i hnr
  injection h with h
  have hvr : VR (Mem w) [] v (.sl 1 (l.map .str)) := by
    rcases hv with ⟨rfl, rfl | ⟨a, c, rfl⟩⟩ | ⟨hne, b, c, rfl, hc, hcell⟩
    · exact .slnil 1
    · exact .sl a 0 c 1 [] (fun _ _ => Go.undef) rfl (Nat.zero_le _) (by simp) (by simp) (by simp)
    · refine .sl _ _ _ _ _ (fun i _ => .string ⟨(l[i]?.getD []).toArray⟩) (by simp) hc (by simp [AV.cells]) ?_ ?_
      · intro i j hi hj
        have hi' : i < l.length := by simpa using hi
        rw [add_plain, List.getElem?_eq_getElem hi']
        have : j = 0 := by omega
        subst this
        rw [Nat.mul_one, Nat.add_zero]
        exact ⟨hcell i hi', rfl⟩
      · intro i j hi hj
        have hi' : i < l.length := by simpa using hi
        simp only [List.getElem_map, AV.cells, List.length_singleton] at hj ⊢
        have : j = 0 := by omega
        subst this
        rw [List.getElem?_eq_getElem hi']
        exact .str _
  refine (calls_of (ext_0 hW) hb (Mem.stab w) (vrs_one hvr) hF (noPan_of hnr)).mono fun e w' hp => ?_
  obtain ⟨vs, R', bl, rfl, hv', hst, hsr, ho⟩ := hp
  refine ⟨?_, stp_below hst⟩
  match rs, vs, hv', h with
  | [r], [u], hv', h =>
    have h1 := hv'.2 0 (by simp) (by simp)
    simp only [packAV] at h
    subst h
    simp only [List.getElem_cons_zero] at h1
    rw [h1.str_inv]; rfl
  | [], vs, hv', h => cases h
  | _ :: _ :: _, _, _, h => cases h
  | [r], [], hv', h => exact absurd hv'.1 (by simp)
  | [r], _ :: _ :: _, hv', h => exact absurd hv'.1 (by simp)
end Go.Proofs.YtmcfnnpihlediaaGreatDoor.Ex

/- Variables, in plain Lean: what a text expands to. -/
namespace Go.Proofs.YtmcfnnpihlediaaGreatDoor.Ex
open Go




/-- What closes what opens at a text's beginning. -/
def opens : Str → Option UInt8
  | c :: d :: _ => if c = 36 then (if d = 40 then some 41 else if d = 123 then some 125 else none) else none
  | _ => none

/-- Where what is open closes. -/
def closeI : Nat → Str → Str → Option Nat
  | 0, _, _ => none
  | _ + 1, _, [] => none
  | f + 1, st, c :: r =>
    match opens (c :: r) with
    | some d => (closeI f (d :: st) (r.drop 1)).map (· + 2)
    | none =>
      match st with
      | [] => (closeI f [] r).map (· + 1)
      | d :: st' => if c = d then (if st' = [] then some 0 else (closeI f st' r).map (· + 1)) else (closeI f (d :: st') r).map (· + 1)

/-- The first of some signs that is outside. -/
def cutI (signs : List Str) : Nat → Str → Str → Option (Nat × Str)
  | 0, _, _ => none
  | _ + 1, _, [] => none
  | f + 1, st, c :: r =>
    match opens (c :: r) with
    | some d => (cutI signs f (d :: st) (r.drop 1)).map fun p => (p.1 + 2, p.2)
    | none =>
      match st with
      | [] =>
        (match signs.find? fun g => g != [] && isPre g (c :: r) with
        | some g => some (0, g)
        | none => (cutI signs f [] r).map fun p => (p.1 + 1, p.2))
      | d :: st' => (cutI signs f (if c = d then st' else d :: st') r).map fun p => (p.1 + 1, p.2)
def cutS (s : Str) (signs : List Str) : Str × Str × Str :=
  match cutI signs (s.length + 1) [] s with
  | some (i, g) => (s.take i, g, s.drop (i + g.length))
  | none => (s, [], [])

def takesL (name : Str) : Nat × Nat :=
  if name = [105, 102] then (2, 3) else if name = [102, 111, 114, 101, 97, 99, 104] then (3, 3) else if name = [99, 97, 108, 108] then (1, 9) else (manyL name, manyL name)

def argsGo : Nat → Str → List Str
  | 0, s => [s]
  | k + 1, s => if (cutS s [[44]]).2.1 = [] then [s] else (cutS s [[44]]).1 :: argsGo k (cutS s [[44]]).2.2
def argsL (s : Str) (most : Nat) : List Str := argsGo (most - 1) s

/-- A text, an error, the steps so far. -/
abbrev Ans := (Str × Nat) × Nat
abbrev Exp := Vs → Nat → Str → Ans
def shortS (s : Str) : Str × Nat := if 4000 < s.length then ([], 3) else (s, 0)

def exT (ref val : Nat → Str → Ans) : Nat → Str → Nat → Str → Ans
  | 0, _, n, _ => (([], 2), n)
  | _ + 1, acc, n, [] => (shortS acc, n)
  | f + 1, acc, n, c :: r =>
    if c = 36 then
      match r with
      | [] => (([], 2), n)
      | d :: r' =>
        if d = 36 then exT ref val f (acc ++ [36]) n r'
        else if d = 40 ∨ d = 123 then
          match closeI (r.length + 2) [] (c :: r) with
          | none => (([], 2), n)
          | some i =>
            if (ref n (((c :: r).take i).drop 2)).1.2 = 0 then
              exT ref val f (acc ++ (ref n (((c :: r).take i).drop 2)).1.1) (ref n (((c :: r).take i).drop 2)).2 ((c :: r).drop (i + 1))
            else (([], (ref n (((c :: r).take i).drop 2)).1.2), (ref n (((c :: r).take i).drop 2)).2)
        else
          if (val n [d]).1.2 = 0 then exT ref val f (acc ++ (val n [d]).1.1) (val n [d]).2 r'
          else (([], (val n [d]).1.2), (val n [d]).2)
    else exT ref val f (acc ++ [c]) n r

def allS (ex : Nat → Str → Ans) : Nat → List Str → (List Str × Nat) × Nat
  | n, [] => (([], 0), n)
  | n, t :: r =>
    if (ex n t).1.2 = 0 then
      if (allS ex (ex n t).2 r).1.2 = 0 then (((ex n t).1.1 :: (allS ex (ex n t).2 r).1.1, 0), (allS ex (ex n t).2 r).2) else (([], (allS ex (ex n t).2 r).1.2), (allS ex (ex n t).2 r).2)
    else (([], (ex n t).1.2), (ex n t).2)

def wordsS (of : Nat → Str → Ans) (n : Nat) (t : Str) : Ans :=
  if (allS of n (wordsL t)).1.2 = 0 then (shortS (joinL [32] (allS of n (wordsL t)).1.1), (allS of n (wordsL t)).2) else (([], (allS of n (wordsL t)).1.2), (allS of n (wordsL t)).2)

def patS (p q : Str) : Str × Str := if openL p then (p, q) else (37 :: p, 37 :: q)

def turnedS (E W : Exp) (V : Vs) (n : Nat) (name p q : Str) : Ans :=
  match allS (E V) n [name, p, q] with
  | ((l, e), n1) =>
    if e = 0 then
      match l with
      | [a, p', q'] =>
        (match W V n1 a with
        | ((v, e2), n2) => if e2 = 0 then wordsS (fun n w => ((substL (patS p' q').1 (patS p' q').2 w, 0), n)) n2 v else (([], e2), n2))
      | _ => (([], 0), n1)
    else (([], e), n1)

def setArgs : Nat → List Str → Vs → Vs
  | _, [], V => V
  | k, t :: r, V => setArgs (k + 1) r (setV (decL k, t, true) V)

def eachS (E : Exp) (V : Vs) (own c : Str) (n : Nat) (w : Str) : Ans :=
  if 2000 < n + 1 then (([], 12), n + 1) else E (setV (own, w, true) V) (n + 1) c

def functionS (E : Exp) (V : Vs) (n : Nat) (name : Str) (args : List Str) : Ans :=
  if name = [105, 102] then
    match args with
    | a :: b :: r =>
      (match E V n a with
      | ((x, e), n1) => if e = 0 then (if trimB x = [] then (match r with | [] => (([], 0), n1) | c :: _ => E V n1 c) else E V n1 b) else (([], e), n1))
    | _ => (([], 0), n)
  else if name = [102, 111, 114, 101, 97, 99, 104] then
    match args with
    | [a, b, c] =>
      (match allS (E V) n [a, b] with
      | ((l, e), n1) =>
        if e = 0 then
          (match l with
          | [x, y] => wordsS (eachS E V (trimB x) c) n1 y
          | _ => (([], 0), n1))
        else (([], e), n1))
    | _ => (([], 0), n)
  else
    match allS (E V) n args with
    | ((l, e), n1) =>
      if e = 0 then
        if name = [99, 97, 108, 108] then
          (match l with
          | x :: r => (match getV V (trimB x) with | none => (([], 0), n1) | some v => E (setArgs 1 r (setV ([48], trimB x, true) V)) n1 v.2.1)
          | [] => (([], 0), n1))
        else (callL name l, n1)
      else (([], e), n1)

def restS (E W : Exp) (V : Vs) (n : Nat) (c : Str) : Ans :=
  if (cutS c [[58]]).2.1 ≠ [] ∧ (cutS (cutS c [[58]]).2.2 [[61]]).2.1 ≠ [] then
    turnedS E W V n (cutS c [[58]]).1 (cutS (cutS c [[58]]).2.2 [[61]]).1 (cutS (cutS c [[58]]).2.2 [[61]]).2.2
  else if (E V n c).1.2 = 0 then W V (E V n c).2 (E V n c).1.1 else (([], (E V n c).1.2), (E V n c).2)

def bodyS (E W : Exp) (V : Vs) (n : Nat) (c : Str) : Ans :=
  match idxBl c with
  | some (i + 1) =>
    if (takesL (c.take (i + 1))).2 = 0 then restS E W V n c
    else if (argsL ((c.drop (i + 1)).dropWhile isBl) (takesL (c.take (i + 1))).2).length < (takesL (c.take (i + 1))).1 then (([], 1), n)
    else functionS E V n (c.take (i + 1)) (argsL ((c.drop (i + 1)).dropWhile isBl) (takesL (c.take (i + 1))).2)
  | _ => restS E W V n c

/-- A reference, where what is within it is expanded by E, a variable's value told by W. -/
def refS (L : Option (Exp × Exp)) (V : Vs) (n : Nat) (c : Str) : Ans :=
  match L with
  | none => (([], 15), n)
  | some p => if 2000 < n + 1 then (([], 12), n + 1) else bodyS p.1 p.2 V (n + 1) c

def valS (L : Option (Exp × Exp)) (V : Vs) (n : Nat) (name : Str) : Ans :=
  match getV V name with
  | none => (([], 0), n)
  | some x =>
    if x.2.2 = true then ((x.2.1, 0), n) else
    match L with
    | none => (([], 15), n)
    | some p => if 2000 < n + 1 then (([], 12), n + 1) else p.1 V (n + 1) x.2.1

def expS (L : Option (Exp × Exp)) (V : Vs) (n : Nat) (t : Str) : Ans := exT (refS L V) (valS L V) (t.length + 1) [] n t

def lev : Nat → Option (Exp × Exp)
  | 0 => none
  | k + 1 => some (expS (lev k), valS (lev k))

/-- Expanded, from without. -/
def expandS (V : Vs) (t : Str) : Str × Nat := (expS (lev 20) V 0 t).1

def rowsS (l : Vs) : Vs := l.foldl (fun v x => setV x v) []
end Go.Proofs.YtmcfnnpihlediaaGreatDoor.Ex

/- Variables: small functions. -/
namespace Go.Proofs.YtmcfnnpihlediaaGreatDoor.Ex
open Go
attribute [-simp] rgn rgnD exec_seq exec_cond exec_block

theorem isPre_len {a b : Str} (h : isPre a b = true) : a.length ≤ b.length := by
  induction a generalizing b with
  | nil => simp
  | cons x a ih =>
    cases b with
    | nil => simp [isPre] at h
    | cons y b =>
      simp only [isPre, Bool.and_eq_true] at h
      have := ih h.2
      simp; omega

theorem isPre_take {a b : Str} : isPre a b = (decide (a.length ≤ b.length) && (b.take a.length == a)) := by
  induction a generalizing b with
  | nil => simp [isPre]
  | cons x a ih =>
    cases b with
    | nil => simp [isPre]
    | cons y b =>
      simp only [isPre, ih, List.length_cons, List.take_succ_cons]
      by_cases h : x = y
      · subst h; simp
      · have h2 : (x == y) = false := by simpa using h
        have h3 : (y == x) = false := by simpa using fun e => h e.symm
        simp [h2, h3]

theorem v70 [XX] (n : Nat) (s p : Str) : CP (F (n + 1)) 70 [.str s, .str p] (.bool (isPre p s)) := by
  refine F_cp (rs := [.bool (isPre p s)]) (S := []) rfl rfl ?_
  rw [F_fn rfl rfl rfl Tryz.func70 rfl, isPre_take]
  by_cases h : p.length ≤ s.length
  · have h1 : (0 : Int) ≤ (p.length : Int) ∧ (p.length : Int) ≤ (s.length : Int) := by omega
    simp [runFn, Tryz.f70, h, h1]
  · simp [runFn, Tryz.f70, h]

theorem v49 [XX] (n : Nat) (s p : Str) : CP (F (n + 2)) 49 [.str s, .str p] (.bool (isPre p s)) := by
  have h := v70 n s p
  simp only [CP] at h
  refine F_cp (rs := [.bool (isPre p s)]) (S := []) rfl rfl ?_
  rw [F_fn rfl rfl rfl Tryz.func49 rfl]
  simp [runFn, Tryz.f49, h]

theorem v34 [XX] (n : Nat) (s : Str) : CP (F (n + 1)) 34 [.str s] (.tup [.str (shortS s).1, .int .i64 (shortS s).2]) := by
  refine F_cp (rs := [.str (shortS s).1, .int .i64 (shortS s).2]) (S := []) rfl rfl ?_
  rw [F_fn rfl rfl rfl Tryz.func34 rfl]
  unfold shortS
  by_cases h : 4000 < s.length
  · have h1 : decide (4000 < (s.length : Int)) = true := by simp; omega
    simp [runFn, Tryz.f34, h, h1]
  · have h1 : decide (4000 < (s.length : Int)) = false := by simp; omega
    simp [runFn, Tryz.f34, h, h1]

theorem v52 [XX] (n : Nat) (name : Str) : CP (F (n + 2)) 52 [.str name] (.tup [.int .i64 (takesL name).1, .int .i64 (takesL name).2]) := by
  have h := cp16 n name
  simp only [CP] at h
  refine F_cp (rs := [.int .i64 (takesL name).1, .int .i64 (takesL name).2]) (S := []) rfl rfl ?_
  rw [F_fn rfl rfl rfl Tryz.func52 rfl]
  unfold takesL
  by_cases h1 : name = [105, 102]
  · subst h1
    simp [runFn, Tryz.f52]
  · by_cases h2 : name = [102, 111, 114, 101, 97, 99, 104]
    · subst h2
      simp [runFn, Tryz.f52]
    · by_cases h3 : name = [99, 97, 108, 108]
      · subst h3
        simp [runFn, Tryz.f52]
      · have e1 : (name == [105, 102]) = false := by simpa using h1
        have e2 : (name == [102, 111, 114, 101, 97, 99, 104]) = false := by simpa using h2
        have e3 : (name == [99, 97, 108, 108]) = false := by simpa using h3
        simp [runFn, Tryz.f52, h1, h2, h3, e1, e2, e3, h]

end Go.Proofs.YtmcfnnpihlediaaGreatDoor.Ex

/- Variables: what an opening opens. -/
namespace Go.Proofs.YtmcfnnpihlediaaGreatDoor.Ex
open Go
attribute [-simp] rgn rgnD exec_seq exec_cond exec_block

theorem byte_eq2 (c d : UInt8) : ((c.toNat : Int) == (d.toNat : Int)) = (c == d) := by
  by_cases h : c = d
  · subst h; simp
  · have h1 : (c == d) = false := by simpa using h
    have h2 : ¬ (c.toNat : Int) = (d.toNat : Int) := fun e => h (UInt8.toNat_inj.1 (by omega))
    rw [h1]; simpa using h2

theorem opens_eq (s : Str) : opens s = if isPre [36, 40] s = true then some 41 else if isPre [36, 123] s = true then some 125 else none := by
  match s with
  | [] => rfl
  | [c] => simp [opens, isPre]
  | c :: d :: r =>
    simp only [opens, isPre, Bool.and_true, Bool.and_eq_true, beq_iff_eq]
    by_cases h1 : c = 36
    · subst h1
      by_cases h2 : d = 40
      · subst h2; simp
      · by_cases h3 : d = 123
        · subst h3; simp
        · have e1 : ¬ (40 : UInt8) = d := fun e => h2 e.symm
          have e2 : ¬ (123 : UInt8) = d := fun e => h3 e.symm
          simp [h2, h3, e1, e2]
    · have e1 : ¬ (36 : UInt8) = c := fun e => h1 e.symm
      simp [h1, e1]

theorem closeI_fuel : ∀ (f g : Nat) (st s : Str), s.length < f → s.length < g → closeI f st s = closeI g st s
  | 0, _, _, _, h, _ => by omega
  | _ + 1, 0, _, _, _, h => by omega
  | f + 1, g + 1, st, [], _, _ => rfl
  | f + 1, g + 1, st, c :: r, h1, h2 => by
    simp only [List.length_cons] at h1 h2
    have hd : (r.drop 1).length ≤ r.length := by simp
    simp only [closeI]
    split
    · rw [closeI_fuel f g _ _ (by omega) (by omega)]
    · split
      · rw [closeI_fuel f g _ _ (by omega) (by omega)]
      · rw [closeI_fuel f g _ r (by omega) (by omega), closeI_fuel f g _ r (by omega) (by omega)]

/-- What the opening at the beginning opens, and what is behind. -/
def innerS (s : Str) : Option (Str × Str) := (closeI (s.length + 1) [] s).map fun i => ((s.take i).drop 2, s.drop (i + 1))

def inI (s : Str) (x : Nat × Str) (pf : PF) : Prop :=
  pf 0 = .str s ∧ pf 5 = .str x.2 ∧ pf 6 = .int .i64 x.1 ∧ x.1 ≤ s.length ∧ x.2.length ≤ x.1 ∧ (x.2 ≠ [] → 2 ≤ x.1) ∧
    closeI (s.length + 1) [] s = (closeI (s.length + 1) x.2 (s.drop x.1)).map (· + x.1)

def inQ (s : Str) (x : PX) (pf : PF) : Prop :=
  (x = .ex 0 ∧ closeI (s.length + 1) [] s = none) ∨ (x = .ret ∧ ∃ i, closeI (s.length + 1) [] s = some i ∧ pf 2 = .str ((s.drop 2).take (i - 2)) ∧ pf 3 = .str (s.drop (i + 1)) ∧ pf 4 = .bool true)

theorem closeI_cons (s : Str) (i : Nat) (h : i < s.length) (st : Str) :
    closeI (s.length + 1) st (s.drop i) =
    match opens (s.drop i) with
    | some d => (closeI (s.length + 1) (d :: st) (s.drop (i + 2))).map (· + 2)
    | none =>
      match st with
      | [] => (closeI (s.length + 1) [] (s.drop (i + 1))).map (· + 1)
      | d :: st' => if s[i] = d then (if st' = [] then some 0 else (closeI (s.length + 1) st' (s.drop (i + 1))).map (· + 1)) else (closeI (s.length + 1) (d :: st') (s.drop (i + 1))).map (· + 1) := by
  have hd : s.drop i = s[i] :: s.drop (i + 1) := List.drop_eq_getElem_cons h
  have e2 : (s.drop (i + 1)).drop 1 = s.drop (i + 2) := by rw [List.drop_drop]
  have l1 : (s.drop (i + 1)).length < s.length := by simp; omega
  have l2 : (s.drop (i + 2)).length < s.length := by simp; omega
  conv => lhs; rw [hd]
  simp only [closeI, e2]
  rw [← hd]
  cases opens (s.drop i) with
  | some d => simp only []; rw [closeI_fuel s.length (s.length + 1) _ _ l2 (by omega)]
  | none =>
    cases st with
    | nil => simp only []; rw [closeI_fuel s.length (s.length + 1) _ _ l1 (by omega)]
    | cons d st' => simp only []; rw [closeI_fuel s.length (s.length + 1) _ (s.drop (i + 1)) l1 (by omega), closeI_fuel s.length (s.length + 1) _ (s.drop (i + 1)) l1 (by omega)]

theorem map_map_add (o : Option Nat) (a b : Nat) : (o.map (· + a)).map (· + b) = o.map (· + (b + a)) := by
  cases o with
  | none => rfl
  | some x => simp; omega

set_option maxHeartbeats 4000000 in
theorem v36 [XX] (n : Nat) (s : Str) (hs : s.length ≤ 1000000000) (hn : s.length + 5 < n) :
    CP (F (n + 1)) 36 [.str s] (.tup [.str ((innerS s).getD ([], [])).1, .str ((innerS s).getD ([], [])).2, .bool (innerS s).isSome]) := by
  refine F_cp (rs := [.str ((innerS s).getD ([], [])).1, .str ((innerS s).getD ([], [])).2, .bool (innerS s).isSome]) (S := []) rfl rfl ?_
  rw [F_fn rfl rfl rfl Tryz.func36 rfl]
  simp [runFn, Tryz.f36]
  generalize hI : iter _ _ _ = r
  obtain ⟨x, pf', rfl, hx⟩ := iter_gen (fun x : Nat × Str => s.length - x.1) (inI s) (inQ s)
    (fun x pf h => by
      obtain ⟨i, st⟩ := x
      obtain ⟨p0, p5, p6, hi, hl, h2, hc⟩ := h
      simp only at p5 p6 hi hl h2 hc
      by_cases hlt : i < s.length
      · have c1 : ∀ p, callP (F n) (.f 49) [.str (s.drop i), .str p] = some (.bool (isPre p (s.drop i))) := fun p => by
          obtain ⟨m, rfl⟩ : ∃ m, n = m + 2 := ⟨n - 2, by omega⟩
          exact v49 m _ p
        have w1 : IntKind.wrap .i64 ((i : Int) + 1) = (i : Int) + 1 := wrap64 (by omega) (by omega)
        have w2 : IntKind.wrap .i64 ((i : Int) + 1 + 1) = (i : Int) + 2 := by rw [wrap64 (by omega) (by omega)]; omega
        have hg : s[i]? = some s[i] := List.getElem?_eq_getElem hlt
        have hst : 1 + st.length ≤ 9223372036854775807 := by omega
        rw [closeI_cons s i hlt st, opens_eq] at hc
        by_cases q1 : isPre [36, 40] (s.drop i) = true
        · left
          have hlen := isPre_len q1
          simp only [List.length_cons, List.length_nil, List.length_drop] at hlen
          refine ⟨(i + 2, 41 :: st), _, by
            simp [p0, p5, p6, hlt, hi, c1, q1, w1, w2, hst]; rfl, by simp only; omega, by simp [p0, inI]; refine ⟨by omega, by omega, ?_⟩; rw [hc, if_pos q1]; simp only [map_map_add]⟩
        · have q1' : isPre [36, 40] (s.drop i) = false := by simpa using q1
          by_cases q2 : isPre [36, 123] (s.drop i) = true
          · left
            have hlen := isPre_len q2
            simp only [List.length_cons, List.length_nil, List.length_drop] at hlen
            refine ⟨(i + 2, 125 :: st), _, by
              simp [p0, p5, p6, hlt, hi, c1, q1', q2, w1, w2, hst]; rfl, by simp only; omega, by simp [p0, inI]; refine ⟨by omega, by omega, ?_⟩; rw [hc, if_neg q1, if_pos q2]; simp only [map_map_add]⟩
          · have q2' : isPre [36, 123] (s.drop i) = false := by simpa using q2
            rw [if_neg q1, if_neg q2] at hc
            cases st with
            | nil =>
              left
              refine ⟨(i + 1, []), _, by
                simp [p0, p5, p6, hlt, hi, c1, q1', q2', w1]; rfl, by simp only; omega, by simp [p0, p5, inI]; refine ⟨by omega, ?_⟩; rw [hc]; simp only [map_map_add]⟩
            | cons d st =>
              dsimp only at hc
              have hbe := byte_eq2 s[i] d
              by_cases q3 : s[i] = d
              · rw [if_pos q3] at hc
                have q3' : (s[i] == d) = true := by simpa using q3
                rw [q3'] at hbe
                by_cases q4 : st = []
                · subst q4
                  right
                  have b3 : 2 ≤ i := h2 (by simp)
                  have b4 : (0 : Int) ≤ (i : Int) + 1 := by omega
                  have b5 : ((i : Int) + 1).toNat = i + 1 := by omega
                  have b6 : (2 : Int) ≤ (i : Int) := by omega
                  have b2 : (i : Int) + 1 ≤ (s.length : Int) := by omega
                  refine ⟨.ret, _, by simp, by
                    simp [p0, p5, p6, hlt, hi, c1, q1', q2', w1, hg, hbe, b2, b3, b4, b5, b6]; rfl, .inr ⟨rfl, i, ?_, ?_⟩⟩
                  · rw [hc]; simp
                  · simp
                · left
                  have h9 : (1 : Int) ≤ (st.length : Int) + 1 := by omega
                  have q4' : (st == []) = false := by simpa using q4
                  refine ⟨(i + 1, st), _, by
                    simp [p0, p5, p6, hlt, hi, c1, q1', q2', w1, hg, hbe, h9, q4']; rfl, by simp only; omega, by
                    simp [p0, inI]; simp at hl h2
                    refine ⟨by omega, by omega, fun _ => by omega, ?_⟩
                    rw [hc, if_neg q4, map_map_add]⟩
              · left
                have q3' : (s[i] == d) = false := by simpa using q3
                rw [q3'] at hbe
                rw [if_neg q3] at hc
                refine ⟨(i + 1, d :: st), _, by
                  simp [p0, p5, p6, hlt, hi, c1, q1', q2', w1, hg, hbe]; rfl, by simp only; omega, by
                    simp [p0, p5, inI]; simp at hl h2
                    refine ⟨by omega, by omega, by omega, ?_⟩
                    rw [hc]; simp only [map_map_add]⟩
      · right
        refine ⟨.ex 0, _, by simp, by simp [p0, p6, hlt]; rfl, .inl ⟨rfl, ?_⟩⟩
        rw [hc, List.drop_of_length_le (by omega)]
        simp [closeI])
    _ (0, []) _ _ hI (by simp [inI]) (by simp only; omega)
  rcases hx with ⟨rfl, hn0⟩ | ⟨rfl, i, h1, h2, h3, h4⟩
  · simp [innerS, hn0]
  · simp [innerS, h1, h2, h3, h4, List.drop_take]

end Go.Proofs.YtmcfnnpihlediaaGreatDoor.Ex

/- Texts cut at signs that are outside. -/
namespace Go.Proofs.YtmcfnnpihlediaaGreatDoor.Ex
open Go
attribute [-simp] rgn rgnD exec_seq exec_cond exec_block

theorem noBoxL_bytes (k : Str) : noBoxL (k.map byteAV) = true := noBoxL_map _ (fun _ => rfl) k

theorem v116 [XX] (n : Nat) (k : Str) (c : UInt8) (hk : k.length ≤ 1000000000) : CP (F (n + 1)) 116 [.sl 1 (k.map byteAV), .int .u8 c.toNat] (.sl 1 ((k ++ [c]).map byteAV)) :=
  F_ext (g := gPush) (rs := [.sl 1 ((k ++ [c]).map byteAV)]) rfl (by simp [noBoxL, noBox, noBoxL_bytes]) (by simp only [noBoxL, noBox, noBoxL_bytes, Bool.and_self]) (by
    have h : (0 : Int) ≤ (c.toNat : Int) ∧ (c.toNat : Int) < 256 := ⟨by omega, by have := c.toNat_lt; omega⟩
    simp only [gPush, bytesOf_map, hk, h, and_self, if_true]
    simp)

/-- One step over a text's beginning: what is open, how far, is it outside? -/
def stepS (st : Str) (c : UInt8) (r : Str) : Str × Nat × Bool :=
  match opens (c :: r) with
  | some d => (d :: st, 2, false)
  | none =>
    match st with
    | [] => ([], 1, true)
    | d :: st' => (if c = d then st' else d :: st', 1, false)

def stackAV (st : Str) : AV := .sl 1 (st.map byteAV).reverse

set_option maxHeartbeats 1000000 in
theorem v87 [XX] (n : Nat) (st : Str) (c : UInt8) (r : Str) (hst : st.length ≤ 1000000000) :
    CP (F (n + 3)) 87 [stackAV st, .str (c :: r)] (.tup [stackAV (stepS st c r).1, .int .i64 (stepS st c r).2.1, .bool (stepS st c r).2.2]) := by
  have h49 := fun p => v49 n (c :: r) p
  have h116 := fun d => v116 (n + 1) st.reverse d (by simpa using hst)
  have a1 := h116 41
  have a2 := h116 125
  simp only [CP, show ((41 : UInt8).toNat : Int) = 41 from rfl, show ((125 : UInt8).toNat : Int) = 125 from rfl, List.map_append, List.map_reverse, List.map_cons, List.map_nil] at h49 a1 a2
  refine F_cp (rs := [stackAV (stepS st c r).1, .int .i64 (stepS st c r).2.1, .bool (stepS st c r).2.2]) (S := []) (by simp only [noBoxL, noBox, stackAV, noBoxL_bytes, ← List.map_reverse, Bool.and_self]) (by simp only [noBoxL, noBox, stackAV, noBoxL_bytes, ← List.map_reverse, Bool.and_self]) ?_
  rw [F_fn rfl rfl rfl Tryz.func87 rfl]
  unfold stepS stackAV
  rw [opens_eq]
  by_cases q1 : isPre [36, 40] (c :: r) = true
  · simp only [if_pos q1, List.reverse_cons]
    simp [runFn, Tryz.f87, h49, q1, a1]
  · have q1' : isPre [36, 40] (c :: r) = false := by simpa using q1
    by_cases q2 : isPre [36, 123] (c :: r) = true
    · simp only [if_neg q1, if_pos q2, List.reverse_cons]
      simp [runFn, Tryz.f87, h49, q1', q2, a2]
    · have q2' : isPre [36, 123] (c :: r) = false := by simpa using q2
      simp only [if_neg q1, if_neg q2]
      cases st with
      | nil => simp [runFn, Tryz.f87, h49, q1', q2']
      | cons d st' =>
        have hbe := byte_eq2 c d
        simp only [List.length_cons] at hst
        have w1 : IntKind.wrap .i64 (st'.length : Int) = (st'.length : Int) := wrap64 (by omega) (by omega)
        have z1 : ¬ ((st'.length : Int) + 1 = 0) := by omega
        have z2 : (0 : Int) < (st'.length : Int) + 1 := by omega
        have z3 : (st'.length : Int) ≤ (st'.length : Int) + 1 := by omega
        by_cases q3 : c = d
        · subst q3
          simp [runFn, Tryz.f87, h49, q1', q2', w1, z1, z2, z3, byteAV]
        · have q3' : (c == d) = false := by simpa using q3
          rw [q3'] at hbe
          simp [runFn, Tryz.f87, h49, q1', q2', w1, z1, z2, z3, byteAV, hbe, q3]

end Go.Proofs.YtmcfnnpihlediaaGreatDoor.Ex

/- Texts cut at signs that are outside: the loop. -/
namespace Go.Proofs.YtmcfnnpihlediaaGreatDoor.Ex
open Go
attribute [-simp] rgn rgnD exec_seq exec_cond exec_block

theorem cutI_fuel (signs : List Str) : ∀ (f g : Nat) (st s : Str), s.length < f → s.length < g → cutI signs f st s = cutI signs g st s
  | 0, _, _, _, h, _ => by omega
  | _ + 1, 0, _, _, _, h => by omega
  | f + 1, g + 1, st, [], _, _ => rfl
  | f + 1, g + 1, st, c :: r, h1, h2 => by
    simp only [List.length_cons] at h1 h2
    have hd : (r.drop 1).length ≤ r.length := by simp
    simp only [cutI]
    split
    · rw [cutI_fuel signs f g _ _ (by omega) (by omega)]
    · split
      · split
        · rfl
        · rw [cutI_fuel signs f g _ _ (by omega) (by omega)]
      · rw [cutI_fuel signs f g _ r (by omega) (by omega)]

/-- What stands at a place outside. -/
def signAt (signs : List Str) (r : Str) : Option Str := signs.find? fun g => g != [] && isPre g r

theorem cutI_cons (signs : List Str) (s : Str) (i : Nat) (h : i < s.length) (st : Str) :
    cutI signs (s.length + 1) st (s.drop i) =
    if (stepS st s[i] (s.drop (i + 1))).2.2 = true then
      (match signAt signs (s.drop i) with
      | some g => some (0, g)
      | none => (cutI signs (s.length + 1) st (s.drop (i + 1))).map fun p => (p.1 + 1, p.2))
    else (cutI signs (s.length + 1) (stepS st s[i] (s.drop (i + 1))).1 (s.drop (i + (stepS st s[i] (s.drop (i + 1))).2.1))).map fun p => (p.1 + (stepS st s[i] (s.drop (i + 1))).2.1, p.2) := by
  have hd : s.drop i = s[i] :: s.drop (i + 1) := List.drop_eq_getElem_cons h
  have e2 : (s.drop (i + 1)).drop 1 = s.drop (i + 2) := by rw [List.drop_drop]
  have l1 : (s.drop (i + 1)).length < s.length := by simp; omega
  have l2 : (s.drop (i + 2)).length < s.length := by simp; omega
  have hsig : signAt signs (s.drop i) = signs.find? fun g => g != [] && isPre g (s[i] :: s.drop (i + 1)) := by rw [← hd]; rfl
  rw [hsig]
  conv => lhs; rw [hd]
  cases ho : opens (s[i] :: s.drop (i + 1)) with
  | some d => simp only [cutI, stepS, ho, e2]; rw [cutI_fuel signs s.length (s.length + 1) _ _ l2 (by omega)]; simp
  | none =>
    cases st with
    | nil => simp only [cutI, stepS, ho]; rw [cutI_fuel signs s.length (s.length + 1) _ _ l1 (by omega)]; simp; rfl
    | cons d st' => simp only [cutI, stepS, ho]; rw [cutI_fuel signs s.length (s.length + 1) _ (s.drop (i + 1)) l1 (by omega)]; simp

theorem stepS_out {st : Str} {c : UInt8} {r : Str} (h : (stepS st c r).2.2 = true) : st = [] ∧ (stepS st c r).1 = [] ∧ (stepS st c r).2.1 = 1 := by
  unfold stepS at h ⊢
  cases ho : opens (c :: r) with
  | some d => rw [ho] at h; cases h
  | none =>
    rw [ho] at h
    cases st with
    | nil => exact ⟨rfl, rfl, rfl⟩
    | cons d st' => cases h

theorem opens_len {c : UInt8} {r : Str} {d : UInt8} (h : opens (c :: r) = some d) : 1 ≤ r.length := by
  cases r with
  | nil => cases h
  | cons x r => simp

theorem stepS_le (st : Str) (c : UInt8) (r : Str) : (stepS st c r).1.length ≤ st.length + 1 ∧ 1 ≤ (stepS st c r).2.1 ∧ (stepS st c r).2.1 ≤ 2 ∧ (stepS st c r).2.1 ≤ r.length + 1 := by
  unfold stepS
  cases ho : opens (c :: r) with
  | some d => have := opens_len ho; simp; omega
  | none =>
    cases st with
    | nil => simp
    | cons d st' => by_cases hc : c = d <;> simp [hc] <;> omega

theorem map_map_cut (o : Option (Nat × Str)) (a b : Nat) : (o.map fun p => (p.1 + a, p.2)).map (fun p => (p.1 + b, p.2)) = o.map fun p => (p.1 + (b + a), p.2) := by
  cases o with
  | none => rfl
  | some x => simp; omega

def cuI (s : Str) (signs : List Str) (x : Nat × Str) (pf : PF) : Prop :=
  pf 0 = .str s ∧ pf 1 = .sl 1 (signs.map .str) ∧ pf 7 = stackAV x.2 ∧ pf 8 = .int .i64 x.1 ∧ x.1 ≤ s.length ∧ x.2.length ≤ x.1 ∧
    cutI signs (s.length + 1) [] s = (cutI signs (s.length + 1) x.2 (s.drop x.1)).map fun p => (p.1 + x.1, p.2)

def cuQ (s : Str) (signs : List Str) (x : PX) (pf : PF) : Prop :=
  (x = .ex 0 ∧ pf 0 = .str s ∧ cutI signs (s.length + 1) [] s = none) ∨
  (x = .ret ∧ ∃ i g, cutI signs (s.length + 1) [] s = some (i, g) ∧ pf 4 = .str (s.take i) ∧ pf 5 = .str g ∧ pf 6 = .str (s.drop (i + g.length)))

set_option maxHeartbeats 4000000 in
theorem v56 [XX] (n : Nat) (s : Str) (signs : List Str) (hs : s.length ≤ 1000000000) (hg : signs.length ≤ 1000) (hn : s.length + 2000 < n) :
    CP (F (n + 1)) 56 [.str s, .sl 1 (signs.map .str)] (.tup [.str (cutS s signs).1, .str (cutS s signs).2.1, .str (cutS s signs).2.2]) := by
  refine F_cp (rs := [.str (cutS s signs).1, .str (cutS s signs).2.1, .str (cutS s signs).2.2]) (S := []) (by simp [noBoxL, noBox]) rfl ?_
  rw [F_fn rfl rfl rfl Tryz.func56 rfl]
  simp [runFn, Tryz.f56]
  generalize hI : iter _ _ _ = r
  obtain ⟨x, pf', rfl, hx⟩ := iter_gen (fun x : Nat × Str => s.length - x.1) (cuI s signs) (cuQ s signs)
    (fun x pf h => by
      obtain ⟨i, st⟩ := x
      obtain ⟨p0, p1, p7, p8, hi, hl, hc⟩ := h
      simp only at p7 p8 hi hl hc
      by_cases hlt : i < s.length
      · have hd : s.drop i = s[i] :: s.drop (i + 1) := List.drop_eq_getElem_cons hlt
        have h87 : callP (F n) (.f 87) [stackAV st, .str (s.drop i)] = some (.tup [stackAV (stepS st s[i] (s.drop (i + 1))).1, .int .i64 (stepS st s[i] (s.drop (i + 1))).2.1, .bool (stepS st s[i] (s.drop (i + 1))).2.2]) := by
          obtain ⟨m, rfl⟩ : ∃ m, n = m + 3 := ⟨n - 3, by omega⟩
          rw [hd]
          exact v87 m st s[i] (s.drop (i + 1)) (by omega)
        obtain ⟨k1, k2, k3, k4⟩ := stepS_le st s[i] (s.drop (i + 1))
        simp only [List.length_drop] at k4
        rw [cutI_cons signs s i hlt st] at hc
        have w1 : IntKind.wrap .i64 ((i : Int) + ((stepS st s[i] (s.drop (i + 1))).2.1 : Int)) = (i : Int) + ((stepS st s[i] (s.drop (i + 1))).2.1 : Int) := wrap64 (by omega) (by omega)
        cases hout : (stepS st s[i] (s.drop (i + 1))).2.2 with
        | false =>
          left
          rw [hout] at h87
          simp only [hout, Bool.false_eq_true, if_false] at hc
          refine ⟨(i + (stepS st s[i] (s.drop (i + 1))).2.1, (stepS st s[i] (s.drop (i + 1))).1), ?_⟩
          generalize stepS st s[i] (s.drop (i + 1)) = z at *
          have hm : s.length - (i + z.2.1) < s.length - i := by omega
          rw [map_map_cut] at hc
          simp only [stackAV] at h87 p7
          simp [p0, p1, p7, p8, hlt, hi, h87, w1, cuI, hm, hc, stackAV]
          omega
        | true =>
          obtain ⟨rfl, e1, e2⟩ := stepS_out hout
          rw [hout, e1, e2] at h87
          rw [e2] at w1
          simp only [hout, if_true] at hc
          have w4 : IntKind.wrap .i64 ((i : Int) + 1) = (i : Int) + 1 := wrap64 (by omega) (by omega)
          have h49 : ∀ p, callP (F n) (.f 49) [.str (s.drop i), .str p] = some (.bool (isPre p (s.drop i))) := fun p => by
            obtain ⟨m, rfl⟩ : ∃ m, n = m + 2 := ⟨n - 2, by omega⟩
            exact v49 m _ p
          cases hs2 : signAt signs (s.drop i) with
          | none =>
            left
            rw [hs2] at hc
            dsimp only at hc
            rw [map_map_cut] at hc
            refine ⟨(i + 1, []), ?_⟩
            have hm : s.length - (i + 1) < s.length - i := by omega
            simp only [stackAV, List.map_nil, List.reverse_nil] at h87 p7
            simp [p0, p1, p7, p8, hlt, hi, h87, w1]
            generalize hJ : iter _ _ _ = r2
            obtain ⟨pf2, rfl, q0, q1, q8, q9, q10, q11, q30, q31⟩ := iter_count 2 (fun (k : Nat) (p : PF) => p 0 = .str s ∧ p 1 = .sl 1 (signs.map .str) ∧ p 8 = .int .i64 i ∧ p 9 = .str (s.drop i) ∧ p 10 = .sl 1 [] ∧ p 11 = .int .i64 1 ∧ p 30 = .sl 1 (signs.map .str) ∧ p 31 = .int .i64 signs.length ∧ p 32 = .int .i64 k) signs.length
              (fun k p hk hp => by
                obtain ⟨q0, q1, q8, q9, q10, q11, q30, q31, q32⟩ := hp
                have hne := List.find?_eq_none.1 hs2 signs[k] (List.getElem_mem hk)
                have w3 : IntKind.wrap .i64 ((k : Int) + 1) = (k : Int) + 1 := wrap64 (by omega) (by omega)
                by_cases he : signs[k] = []
                · simp [q0, q1, q8, q9, q10, q11, q30, q31, q32, hk, he, w3]
                · have he' : (signs[k] == []) = false := by simpa using he
                  have hp2 : isPre signs[k] (s.drop i) = false := by
                    cases h : isPre signs[k] (s.drop i) with
                    | false => rfl
                    | true => exact absurd (show (signs[k] != [] && isPre signs[k] (s.drop i)) = true by simp [he, h]) (by simpa using hne)
                  simp [q0, q1, q8, q9, q10, q11, q30, q31, q32, hk, he', w3, h49, hp2])
              (fun p hp => by
                obtain ⟨q0, q1, q8, q9, q10, q11, q30, q31, q32⟩ := hp
                simp [q0, q1, q8, q9, q10, q11, q30, q31, q32]) signs.length 0 _ _ r2 (by omega) hJ (by simp [p0, p1, p8]) (by omega)
            simp [q0, q1, q8, q9, q10, q11, cuI, hm, hc, stackAV, w4]
            omega
          | some g =>
            right
            rw [hs2] at hc
            refine ⟨.ret, ?_⟩
            simp only [stackAV, List.map_nil, List.reverse_nil] at h87 p7
            simp [p0, p1, p7, p8, hlt, hi, h87, w1]
            generalize hJ : iter _ _ _ = r2
            have hgp : g ≠ [] ∧ isPre g (s.drop i) = true := by
              have := List.find?_some hs2
              simpa using this
            have hgl := isPre_len hgp.2
            obtain ⟨x2, pf2, rfl, rfl, q4, q5, q6⟩ := iter_gen (fun k : Nat => signs.length - k) (fun (k : Nat) (p : PF) => p 0 = .str s ∧ p 8 = .int .i64 i ∧ p 9 = .str (s.drop i) ∧ p 30 = .sl 1 (signs.map .str) ∧ p 31 = .int .i64 signs.length ∧ p 32 = .int .i64 k ∧ k ≤ signs.length ∧ signAt (signs.drop k) (s.drop i) = some g)
              (fun x p => x = .ret ∧ p 4 = .str (s.take i) ∧ p 5 = .str g ∧ p 6 = .str (s.drop (i + g.length)))
              (fun k p hp => by
                obtain ⟨q0, q8, q9, q30, q31, q32, hk, hsig⟩ := hp
                have hk2 : k < signs.length := by
                  rcases Nat.lt_or_ge k signs.length with h | h
                  · exact h
                  · rw [List.drop_of_length_le h] at hsig; cases hsig
                have w3 : IntKind.wrap .i64 ((k : Int) + 1) = (k : Int) + 1 := wrap64 (by omega) (by omega)
                have hdk : signs.drop k = signs[k] :: signs.drop (k + 1) := List.drop_eq_getElem_cons hk2
                rw [hdk, signAt, List.find?_cons] at hsig
                by_cases he : (signs[k] != [] && isPre signs[k] (s.drop i)) = true
                · right
                  rw [he] at hsig
                  simp only [Option.some.injEq] at hsig
                  simp only [Bool.and_eq_true, bne_iff_ne] at he
                  have he' : (signs[k] == []) = false := by simpa using he.1
                  refine ⟨.ret, ?_⟩
                  rw [hsig] at he he'
                  have b1 : (0 : Int) ≤ (g.length : Int) := by omega
                  have b2 : (g.length : Int) ≤ ((s.drop i).length : Int) := by omega
                  simp only [List.length_drop] at b2
                  simp [q0, q8, q9, q30, q31, q32, hk2, he', h49, he.2, hsig, hi, b1, b2]
                  exact List.take_of_length_le (by simp; omega)
                · left
                  have he2 : (signs[k] != [] && isPre signs[k] (s.drop i)) = false := by simpa using he
                  rw [he2] at hsig
                  refine ⟨k + 1, ?_⟩
                  have hm3 : signs.length - (k + 1) < signs.length - k := by omega
                  by_cases he : signs[k] = []
                  · simp [q0, q8, q9, q30, q31, q32, hk2, he, w3, hm3, signAt, hsig]
                    omega
                  · have he' : (signs[k] == []) = false := by simpa using he
                    have hp2 : isPre signs[k] (s.drop i) = false := by
                      cases h : isPre signs[k] (s.drop i) with
                      | false => rfl
                      | true => rw [show (signs[k] != [] && isPre signs[k] (s.drop i)) = true by simp [he, h]] at he2; cases he2
                    simp [q0, q8, q9, q30, q31, q32, hk2, he', w3, h49, hp2, hm3, signAt, hsig]
                    omega) _ 0 _ r2 hJ (by simp [p0, p8, hs2]) (by omega)
            refine ⟨pf2, by simp, .inr ⟨rfl, i, g, by rw [hc]; simp, q4, q5, q6⟩⟩
      · right
        refine ⟨.ex 0, ?_⟩
        rw [List.drop_of_length_le (by omega)] at hc
        simp only [cutI, Option.map_none] at hc
        simp [p0, p8, hlt, cuQ, hc])
    _ (0, []) _ _ hI (by simp [cuI, stackAV]) (by simp only; omega)
  rcases hx with ⟨rfl, p0, hn0⟩ | ⟨rfl, i, g, h1, h2, h3, h4⟩
  · simp [cutS, hn0, p0]
  · simp [cutS, h1, h2, h3, h4]

end Go.Proofs.YtmcfnnpihlediaaGreatDoor.Ex

/- Arguments; what a variable is. -/
namespace Go.Proofs.YtmcfnnpihlediaaGreatDoor.Ex
open Go
attribute [-simp] rgn rgnD exec_seq exec_cond exec_block

theorem cutS_len (s : Str) (signs : List Str) : (cutS s signs).2.2.length ≤ s.length ∧ (cutS s signs).1.length ≤ s.length := by
  unfold cutS
  split
  · simp only [List.length_drop, List.length_take]; omega
  · simp

theorem argsGo_len : ∀ (k : Nat) (s : Str), (argsGo k s).length ≤ k + 1 ∧ 1 ≤ (argsGo k s).length ∧ ∀ a ∈ argsGo k s, a.length ≤ s.length
  | 0, s => by simp [argsGo]
  | k + 1, s => by
    simp only [argsGo]
    split
    · simp
    · obtain ⟨h1, h2, h3⟩ := argsGo_len k (cutS s [[44]]).2.2
      have h4 := cutS_len s [[44]]
      refine ⟨by simp; omega, by simp, fun a ha => ?_⟩
      rcases List.mem_cons.1 ha with rfl | ha
      · exact h4.2
      · have := h3 a ha; omega

def arI (s : Str) (most : Nat) (x : Nat × List Str × Str) (pf : PF) : Prop :=
  pf 0 = .str x.2.2 ∧ pf 1 = .int .i64 most ∧ pf 5 = .sl 1 (x.2.1.map .str) ∧ x.2.1.length + x.1 = most - 1 ∧ x.2.2.length ≤ s.length ∧ x.2.1 ++ argsGo x.1 x.2.2 = argsL s most
def arQ (s : Str) (most : Nat) (x : PX) (pf : PF) : Prop :=
  x = .ex 0 ∧ ∃ l t, pf 0 = .str t ∧ pf 5 = .sl 1 (l.map .str) ∧ l ++ [t] = argsL s most ∧ l.length ≤ 1000

set_option maxHeartbeats 4000000 in
theorem v53 [XX] (n : Nat) (s : Str) (most : Nat) (hm : most ≤ 20) (hs : s.length ≤ 1000000000) (hn : s.length + 3000 < n) :
    CP (F (n + 1)) 53 [.str s, .int .i64 most] (.sl 1 ((argsL s most).map .str)) := by
  refine F_cp (rs := [.sl 1 ((argsL s most).map .str)]) (S := []) (by simp [noBoxL, noBox]) (by simp [noBoxL, noBox]) ?_
  rw [F_fn rfl rfl rfl Tryz.func53 rfl]
  simp [runFn, Tryz.f53]
  generalize hI : iter _ _ _ = r
  obtain ⟨x, pf', rfl, rfl, l, t, h1, h2, h3, h4⟩ := iter_gen (fun x : Nat × List Str × Str => x.1) (arI s most) (arQ s most)
    (fun x pf h => by
      obtain ⟨k, l, t⟩ := x
      obtain ⟨p0, p1, p5, hk, ht, hinv⟩ := h
      simp only at p0 p1 p5 hk ht hinv
      have w1 : IntKind.wrap .i64 ((l.length : Int) + 1) = (l.length : Int) + 1 := wrap64 (by omega) (by omega)
      cases k with
      | zero =>
        right
        refine ⟨.ex 0, ?_⟩
        have d1 : decide ((l.length : Int) + 1 < (most : Int)) = false := by simp; omega
        simp [p0, p1, p5, w1, d1]
        refine ⟨rfl, l, t, by simp [p0], by simp [p5], hinv, by omega⟩
      | succ k =>
        have d1 : decide ((l.length : Int) + 1 < (most : Int)) = true := by simp; omega
        have h56 : callP (F n) (.f 56) [.str t, .sl 1 [.str [44]]] = some (.tup [.str (cutS t [[44]]).1, .str (cutS t [[44]]).2.1, .str (cutS t [[44]]).2.2]) := by
          obtain ⟨m, rfl⟩ : ∃ m, n = m + 1 := ⟨n - 1, by omega⟩
          exact v56 m t [[44]] (by omega) (by simp) (by omega)
        have hl := cutS_len t [[44]]
        rw [argsGo] at hinv
        by_cases hc : (cutS t [[44]]).2.1 = []
        · right
          rw [if_pos hc] at hinv
          have hc' : ((cutS t [[44]]).2.1 == []) = true := by simpa using hc
          refine ⟨.ex 0, ?_⟩
          simp [p0, p1, p5, w1, d1, h56, hc]
          refine ⟨rfl, l, t, by simp [p0], by simp [p5], hinv, by omega⟩
        · left
          rw [if_neg hc] at hinv
          have hc' : ((cutS t [[44]]).2.1 == []) = false := by simpa using hc
          have hb : (l.length + 1) * 16 ≤ 140737488355328 := by omega
          refine ⟨(k, l ++ [(cutS t [[44]]).1], (cutS t [[44]]).2.2), ?_⟩
          simp [p0, p1, p5, w1, d1, h56, hc', hb, arI, hinv]
          omega)
    _ (most - 1, [], s) _ _ hI (by simp [arI, argsL]) (by simp only; omega)
  have hb : (l.length + 1) * 16 ≤ 140737488355328 := by omega
  simp [h1, h2, ← h3, hb]

end Go.Proofs.YtmcfnnpihlediaaGreatDoor.Ex

/- What a variable is. -/
namespace Go.Proofs.YtmcfnnpihlediaaGreatDoor.Ex
open Go
attribute [-simp] rgn rgnD exec_seq exec_cond exec_block

theorem noBoxL_vars (v : Vs) : noBoxL (v.map varAV) = true := noBoxL_map _ (fun _ => rfl) v
theorem noBox_row (v : Vs) : noBox (rowAV v) = true := by simp only [rowAV, noBox, noBoxL_vars]
theorem noBox_var (x : VL) : noBox (varAV x) = true := rfl

theorem v26 [XX] (n : Nat) (x : VL) (name : Str) (id : Nat) (S : Obs) (h : S[id]? = some (.cells [.str name])) :
    F (n + 1) (.f 26) [varAV x, .box id 0] S = some ([.bool (x.1 == name)], S ++ [.cells [.str x.1, .str x.2.1, .bool x.2.2]]) := by
  have hlt : id < S.length := (List.getElem?_eq_some_iff.1 h).1
  have hS : ∀ l : Obs, (S ++ l)[id]? = some (.cells [.str name]) := fun l => by rw [List.getElem?_append_left hlt]; exact h
  rw [F_fn rfl rfl rfl Tryz.func26 rfl]
  simp [runFn, Tryz.f26, varAV, hS]

/-- The place of a name; below nought: none. -/
def idxV (v : Vs) (name : Str) : Int := match v.findIdx? (fun x => x.1 == name) with | some i => i | none => -1

set_option maxHeartbeats 4000000 in
theorem v25 [XX] (n : Nat) (v : Vs) (name : Str) (id : Nat) (S : Obs) (h : S[id]? = some (.cells [.str name])) (hv : v.length ≤ 1000000) (hn : v.length + 10 < n) :
    ∃ T, F (n + 1) (.f 25) [rowAV v, .fn 26 [] [.box id 0]] S = some ([.int .i64 (idxV v name)], S ++ T) := by
  have hlt : id < S.length := (List.getElem?_eq_some_iff.1 h).1
  rw [F_fn rfl rfl rfl Tryz.func25 rfl]
  simp [runFn, Tryz.f25, rowAV]
  generalize hI : iter _ _ _ = r
  obtain ⟨x, c, rfl, hc⟩ := iter_cfg (fun i : Nat => v.length - i)
    (fun i c => c.D = [] ∧ (∃ T, c.S = S ++ T) ∧ c.pf 0 = .sl 3 (v.map varAV) ∧ c.pf 1 = .fn 26 [] [.box id 0] ∧ c.pf 7 = .int .i64 v.length ∧ c.pf 8 = .int .i64 i ∧ i ≤ v.length ∧ ∀ k (hk : k < v.length), k < i → (v[k].1 == name) = false)
    (fun x c => c.D = [] ∧ (∃ T, c.S = S ++ T) ∧ ((x = .ret ∧ c.pf 4 = .int .i64 (idxV v name)) ∨ (x = .ex 0 ∧ idxV v name = -1)))
    (fun i c hc => by
      obtain ⟨pf, S', D'⟩ := c
      obtain ⟨rfl, ⟨T, rfl⟩, p0, p1, p7, p8, hi, hno⟩ := hc
      simp only at p0 p1 p7 p8
      by_cases hil : i < v.length
      · have hS : (S ++ T)[id]? = some (.cells [.str name]) := by rw [List.getElem?_append_left hlt]; exact h
        have h26 : F n (.f 26) [varAV v[i], .box id 0] (S ++ T) = some ([.bool (v[i].1 == name)], S ++ T ++ [.cells [.str v[i].1, .str v[i].2.1, .bool v[i].2.2]]) := by
          obtain ⟨m, rfl⟩ : ∃ m, n = m + 1 := ⟨n - 1, by omega⟩
          exact v26 m v[i] name id (S ++ T) hS
        have hnb : noBoxL [varAV v[i], .box id 0] = false := by simp [noBoxL, noBox, varAV]
        have hvl : (varAV v[i]).cells.length = 3 := rfl
        have w1 : IntKind.wrap .i64 ((i : Int) + 1) = (i : Int) + 1 := wrap64 (by omega) (by omega)
        have hla : ∀ y : VL, loadAV ⟨3, 40, true, .struct [(9, 0), (9, 1), (4, 2)], some (.agg #[.string ⟨#[]⟩, .string ⟨#[]⟩, .bool false])⟩ (varAV y) = some (varAV y) := fun y => rfl
        cases hb : (v[i].1 == name) with
        | true =>
          right
          rw [hb] at h26
          have hix : idxV v name = (i : Int) := by
            unfold idxV
            rw [List.findIdx?_eq_some_iff_getElem.2 ⟨hil, hb, fun j hj => by simpa using hno j (by omega) hj⟩]
          refine ⟨.ret, ?_⟩
          simp [p0, p1, p7, p8, hil, h26, callP_box hnb, hla, hix, -loadAV, -AV.cells, -callP_box]
        | false =>
          left
          rw [hb] at h26
          have hm : v.length - (i + 1) < v.length - i := by omega
          have hno' : ∀ k (hk : k < v.length), k < i + 1 → (v[k].1 == name) = false := fun k hk hk2 => by
            rcases Nat.lt_or_ge k i with h3 | h3
            · exact hno k hk h3
            · have : k = i := by omega
              subst this; exact hb
          refine ⟨i + 1, ⟨?_, S ++ T ++ [.cells [.str v[i].1, .str v[i].2.1, .bool v[i].2.2]], []⟩, ?_, hm, rfl, ⟨T ++ [.cells [.str v[i].1, .str v[i].2.1, .bool v[i].2.2]], by simp⟩, ?_, ?_, ?_, ?_, by omega, hno'⟩
          case refine_2 => simp [p0, p1, p7, p8, hil, h26, callP_box hnb, hla, w1, -loadAV, -AV.cells, -callP_box]; rfl
          all_goals simp [p0, p1, p7]
      · right
        have hix : idxV v name = -1 := by
          unfold idxV
          rw [List.findIdx?_eq_none_iff.2 fun x hx => ?_]
          obtain ⟨k, hk, rfl⟩ := List.getElem_of_mem hx
          exact hno k hk (by omega)
        refine ⟨.ex 0, ?_⟩
        simp [p0, p1, p7, p8, hil, hix])
    _ 0 _ _ hI (by simp) (by omega)
  obtain ⟨c1, ⟨T, c2⟩, hc⟩ := hc
  refine ⟨T, ?_⟩
  rcases hc with ⟨rfl, h4⟩ | ⟨rfl, h4⟩
  · simp [c1, c2, h4]
  · simp [c1, c2, h4]

theorem idxV_get (v : Vs) (name : Str) : (getV v name = none ∧ idxV v name = -1) ∨ (∃ i, ∃ h : i < v.length, getV v name = some v[i] ∧ idxV v name = (i : Int)) := by
  unfold idxV getV
  cases hf : v.findIdx? (fun x => x.1 == name) with
  | none =>
    left
    rw [List.findIdx?_eq_none_iff] at hf
    exact ⟨List.find?_eq_none.2 fun x hx => by simp [hf x hx], rfl⟩
  | some i =>
    right
    obtain ⟨h1, h2, h3⟩ := List.findIdx?_eq_some_iff_getElem.1 hf
    exact ⟨i, h1, List.find?_eq_some_iff_getElem.2 ⟨h2, i, h1, rfl, fun j hj => by simpa using h3 j hj⟩, rfl⟩

def varsAV (v : Vs) : AV := .agg [rowAV v]
def gotL (v : Vs) (name : Str) : VL × Bool := match getV v name with | some x => (x, true) | none => (([], [], false), false)

set_option maxHeartbeats 1000000 in
theorem v15 [XX] (n : Nat) (v : Vs) (name : Str) (hv : v.length ≤ 1000000) (hn : v.length + 20 < n) :
    CP (F n) 15 [varsAV v, .str name] (.tup [varAV (gotL v name).1, .bool (gotL v name).2]) := by
  obtain ⟨n, rfl⟩ : ∃ m, n = m + 2 := ⟨n - 2, by omega⟩
  obtain ⟨T, h25⟩ := v25 n v name 1 [.cells [rowAV v], .cells [.str name], .cells [.str [], .str [], .bool false]] rfl hv (by omega)
  have hnb : noBoxL [rowAV v, .fn 26 [] [.box 1 0]] = false := by simp [noBoxL, noBox]
  have hnb2 := noBoxL_vars v
  rcases idxV_get v name with ⟨h1, h2⟩ | ⟨i, hi, h1, h2⟩
  · rw [h2] at h25
    refine F_cp (rs := [varAV (gotL v name).1, .bool (gotL v name).2]) (S := [.cells [rowAV v], .cells [.str name], .cells [.str [], .str [], .bool false]] ++ T) (by simp [noBoxL, noBox, varsAV, rowAV, hnb2]) (by simp [noBoxL, noBox, varAV]) ?_
    rw [F_fn rfl rfl rfl Tryz.func15 rfl]
    simp only [gotL, h1]
    simp only [rowAV] at h25 hnb
    simp [runFn, Tryz.f15, varsAV, rowAV, h25, callP_box hnb, varAV, zeroCells, -callP_box]
  · rw [h2] at h25
    refine F_cp (rs := [varAV (gotL v name).1, .bool (gotL v name).2]) (S := [.cells [rowAV v], .cells [.str name], .cells [.str v[i].1, .str v[i].2.1, .bool v[i].2.2]] ++ T) (by simp [noBoxL, noBox, varsAV, rowAV, hnb2]) (by simp [noBoxL, noBox, varAV]) ?_
    rw [F_fn rfl rfl rfl Tryz.func15 rfl]
    simp only [gotL, h1]
    simp only [rowAV] at h25 hnb
    have h0 : ¬ ((i : Int) < 0) := by omega
    simp [runFn, Tryz.f15, varsAV, rowAV, h25, callP_box hnb, varAV, zeroCells, hi, h0, -callP_box]

end Go.Proofs.YtmcfnnpihlediaaGreatDoor.Ex

/- Scopes: steps, one within another, with a variable more. -/
namespace Go.Proofs.YtmcfnnpihlediaaGreatDoor.Ex
open Go
attribute [-simp] rgn rgnD exec_seq exec_cond exec_block

/-- The objects, the steps counted so far in one of them. -/
def SetN (S : Obs) (id : Nat) (m : Nat) : Obs := S.set id (.cells [.int .i64 m])
section
variable {S l T : Obs} {id m m' j : Nat} {x : Ob}
@[simp] theorem SetN_len : (SetN S id m).length = S.length := by simp [SetN]
@[simp] theorem SetN_set : SetN (SetN S id m) id m' = SetN S id m' := by simp [SetN]
theorem SetN_app (h : id < S.length) : SetN (S ++ l) id m = SetN S id m ++ l := by simp only [SetN]; rw [List.set_append_left _ _ h]
theorem SetN_at (h : id < S.length) : (SetN S id m)[id]? = some (.cells [.int .i64 m]) := by simp [SetN, h]
theorem SetN_atA (h : id < S.length) : (SetN S id m ++ l)[id]? = some (.cells [.int .i64 m]) := by rw [List.getElem?_append_left (by simpa using h)]; exact SetN_at h
theorem SetN_app2 (h : id < S.length) : SetN (SetN S id m ++ l) id m' = SetN S id m' ++ l := by rw [SetN_app (by simpa using h), SetN_set]
@[simp] theorem SetN_end : (SetN S id m ++ l)[S.length + j]? = l[j]? := by
  have := at_end (SetN S id m) l j
  simpa using this
@[simp] theorem SetN_end0 : (SetN S id m ++ l)[S.length]? = l[0]? := SetN_end (j := 0)
@[simp] theorem SetN_put : (SetN S id m ++ l).set (S.length + j) x = SetN S id m ++ l.set j x := by
  simp
@[simp] theorem SetN_put0 : (SetN S id m ++ l).set S.length x = SetN S id m ++ l.set 0 x := SetN_put (j := 0)
theorem set_front (h : id < S.length) : (S ++ l).set id (.cells [.int .i64 m]) = SetN S id m ++ l := SetN_app h
theorem SetN_same (h : S[id]? = some (.cells [.int .i64 m])) : SetN S id m = S := by
  obtain ⟨h1, h2⟩ := List.getElem?_eq_some_iff.1 h
  simp only [SetN]
  rw [← h2, List.set_getElem_self]
end

def scopeAV (V : Vs) (d : Nat) (id : Nat) : AV := .agg [rowAV V, .int .i64 d, .box id 0]
theorem noBox_scope (V : Vs) (d id : Nat) (l : List AV) : noBoxL (scopeAV V d id :: l) = false := by simp [noBoxL, noBox, scopeAV]

theorem v71 [XX] (n : Nat) (V : Vs) (d id m : Nat) (S : Obs) (h : S[id]? = some (.cells [.int .i64 m])) (hm : m ≤ 100000) :
    F (n + 1) (.f 71) [scopeAV V d id] S = some ([.int .i64 (if 2000 < m + 1 then 12 else 0)], SetN S id (m + 1) ++ [.cells [rowAV V, .int .i64 d, .box id 0]]) := by
  have hlt : id < S.length := (List.getElem?_eq_some_iff.1 h).1
  have hne : ¬ id = S.length := by omega
  have hS : ∀ l : Obs, (S ++ l)[id]? = some (.cells [.int .i64 m]) := fun l => by rw [List.getElem?_append_left hlt]; exact h
  have w1 : IntKind.wrap .i64 ((m : Int) + 1) = (m : Int) + 1 := wrap64 (by omega) (by omega)
  have hf : ∀ l : Obs, (S ++ l).set id (.cells [.int .i64 ((m : Int) + 1)]) = SetN S id (m + 1) ++ l := fun l => set_front (m := m + 1) hlt
  have ha : ∀ l : Obs, (SetN S id (m + 1) ++ l)[id]? = some (.cells [.int .i64 ((m : Int) + 1)]) := fun l => SetN_atA (m := m + 1) hlt
  rw [F_fn rfl rfl rfl Tryz.func71 rfl]
  by_cases hb : 2000 < m + 1
  · have d1 : decide ((2000 : Int) < (m : Int) + 1) = true := by simp; omega
    simp [runFn, Tryz.f71, scopeAV, rowAV, hS, w1, hf, ha, d1, hb]
  · have d1 : decide ((2000 : Int) < (m : Int) + 1) = false := by simp; omega
    simp [runFn, Tryz.f71, scopeAV, rowAV, hS, w1, hf, ha, d1, hb]

/-- A scope within one. -/
def inS (d m : Nat) : Nat × Nat := if 20 ≤ d then (15, m) else if 2000 < m + 1 then (12, m + 1) else (0, m + 1)

set_option maxHeartbeats 1000000 in
theorem v50 [XX] (n : Nat) (V : Vs) (d id m : Nat) (S : Obs) (h : S[id]? = some (.cells [.int .i64 m])) (hm : m ≤ 100000) (hd : d ≤ 1000) :
    ∃ T d', F (n + 2) (.f 50) [scopeAV V d id] S = some ([scopeAV V d' id, .int .i64 (inS d m).1], SetN S id (inS d m).2 ++ T) ∧ ((inS d m).1 = 0 → d' = d + 1) := by
  have hlt : id < S.length := (List.getElem?_eq_some_iff.1 h).1
  have w1 : IntKind.wrap .i64 ((d : Int) + 1) = (d : Int) + 1 := wrap64 (by omega) (by omega)
  have h71 := v71 n V d id m (S ++ [.cells [rowAV V, .int .i64 d, .box id 0], .cells [rowAV [], .int .i64 0, .nilp]]) (by rw [List.getElem?_append_left hlt]; exact h) hm
  rw [SetN_app hlt] at h71
  have hnb := noBox_scope V d id []
  simp only [scopeAV, rowAV, List.map_nil] at h71 hnb
  unfold inS
  by_cases h1 : 20 ≤ d
  · refine ⟨[.cells [rowAV V, .int .i64 d, .box id 0], .cells [rowAV V, .int .i64 d, .box id 0]], d, ?_, by simp [h1]⟩
    have d1 : decide ((20 : Int) ≤ (d : Int)) = true := by simp; omega
    rw [F_fn rfl rfl rfl Tryz.func50 rfl]
    simp [runFn, Tryz.f50, scopeAV, rowAV, d1, h1, zeroCells, SetN_same h]
  · have d1 : decide ((20 : Int) ≤ (d : Int)) = false := by simp; omega
    by_cases hb : 2000 < m + 1
    · rw [if_pos hb] at h71
      refine ⟨[.cells [rowAV V, .int .i64 d, .box id 0], .cells [rowAV V, .int .i64 d, .box id 0], .cells [rowAV V, .int .i64 d, .box id 0]], d, ?_, by simp [h1, hb]⟩
      rw [F_fn rfl rfl rfl Tryz.func50 rfl]
      simp [runFn, Tryz.f50, scopeAV, rowAV, d1, h1, zeroCells, h71, callP_box hnb, hb, -callP_box]
    · rw [if_neg hb] at h71
      refine ⟨[.cells [rowAV V, .int .i64 ((d : Int) + 1), .box id 0], .cells [rowAV V, .int .i64 ((d : Int) + 1), .box id 0], .cells [rowAV V, .int .i64 d, .box id 0]], d + 1, ?_, by simp [h1, hb]⟩
      rw [F_fn rfl rfl rfl Tryz.func50 rfl]
      simp [runFn, Tryz.f50, scopeAV, rowAV, d1, h1, zeroCells, h71, callP_box hnb, hb, w1, -callP_box]

end Go.Proofs.YtmcfnnpihlediaaGreatDoor.Ex

/- A scope with a variable more; what a variable is worth. -/
namespace Go.Proofs.YtmcfnnpihlediaaGreatDoor.Ex
open Go
attribute [-simp] rgn rgnD exec_seq exec_cond exec_block

/-- All that is not walked. -/
def FullV [XX] : Prop := Full ∧ XX.z = some gSet

def okV (V : Vs) (k : Nat) : Prop := ordV V = true ∧ V.length + 20 * k ≤ 100000 ∧ ∀ x ∈ V, x.2.1.length ≤ 200000

theorem setV_len (x : VL) : ∀ V : Vs, (setV x V).length ≤ V.length + 1
  | [] => by simp [setV]
  | y :: r => by
    have := setV_len x r
    simp only [setV]
    split
    · simp
    · split <;> simp <;> omega
theorem setV_mem (x : VL) : ∀ (V : Vs) (y : VL), y ∈ setV x V → y = x ∨ y ∈ V
  | [], y, h => by simpa [setV] using h
  | z :: r, y, h => by
    simp only [setV] at h
    split at h
    · rcases List.mem_cons.1 h with h | h
      · exact .inl h
      · exact .inr (List.mem_cons_of_mem _ h)
    · split at h
      · rcases List.mem_cons.1 h with h | h
        · exact .inl h
        · exact .inr h
      · rcases List.mem_cons.1 h with h | h
        · exact .inr (by simp [h])
        · rcases setV_mem x r y h with h | h
          · exact .inl h
          · exact .inr (List.mem_cons_of_mem _ h)

theorem ordV_tail {x : VL} {V : Vs} (h : ordV (x :: V) = true) : ordV V = true := by
  cases V with
  | nil => rfl
  | cons y r => simp only [ordV, Bool.and_eq_true] at h; exact h.2
theorem ordV_cons {x : VL} {V : Vs} (h : ordV V = true) (hx : ∀ y ∈ V.head?, Op.bytesLess x.1 y.1 = true) : ordV (x :: V) = true := by
  cases V with
  | nil => rfl
  | cons y r => simp only [ordV, Bool.and_eq_true]; exact ⟨hx y (by simp), h⟩
theorem setV_head (x : VL) (V : Vs) : ∀ y ∈ (setV x V).head?, y = x ∨ V.head? = some y := by
  cases V with
  | nil => simp [setV]
  | cons z r =>
    simp only [setV]
    split
    · simp
    · split <;> simp
theorem ordV_set (x : VL) : ∀ {V : Vs}, ordV V = true → ordV (setV x V) = true
  | [], _ => rfl
  | y :: r, h => by
    simp only [setV]
    split
    · rename_i he
      refine ordV_cons (ordV_tail h) fun z hz => ?_
      cases r with
      | nil => simp at hz
      | cons w r2 =>
        simp at hz; subst hz
        simp only [ordV, Bool.and_eq_true] at h
        rw [he]; exact h.1
    · split
      · rename_i hl
        exact ordV_cons h fun z hz => by simp at hz; subst hz; exact hl
      · rename_i hne hnl
        refine ordV_cons (ordV_set x (ordV_tail h)) fun z hz => ?_
        rcases setV_head x r z hz with rfl | hz
        · exact less_tri _ _ hne (by simpa using hnl)
        · cases r with
          | nil => simp at hz
          | cons w r2 =>
            simp at hz; subst hz
            simp only [ordV, Bool.and_eq_true] at h
            exact h.1

theorem okV_set {x : VL} {V : Vs} {k : Nat} (h : okV V (k + 1)) (hx : x.2.1.length ≤ 200000) : okV (setV x V) k := by
  obtain ⟨h1, h2, h3⟩ := h
  have := setV_len x V
  refine ⟨ordV_set x h1, by omega, fun y hy => ?_⟩
  rcases setV_mem x V y hy with rfl | hy
  · exact hx
  · exact h3 y hy
theorem okV_le {V : Vs} {k j : Nat} (h : okV V k) (hj : j ≤ k) : okV V j := ⟨h.1, by have := h.2.1; omega, h.2.2⟩

theorem v19 [XX] (hX : FullV) (n : Nat) (V : Vs) (x : VL) (h : ordV V = true) (hl : V.length ≤ 1000000) : CP (F (n + 1)) 19 [varsAV V, varAV x] (varsAV (setV x V)) :=
  F_ext (g := gSet) (rs := [varsAV (setV x V)]) hX.2 (by simp only [noBoxL, noBox, varsAV, noBox_row, noBox_var, Bool.and_self]) (by simp only [noBoxL, noBox, varsAV, noBox_row, Bool.and_self]) (by
    simp only [gSet, varsAV, rowAV, varAV, varsOf_map, h, hl, and_self, if_true])

set_option maxHeartbeats 1000000 in
theorem v84 [XX] (hX : FullV) (n : Nat) (V : Vs) (d id : Nat) (name t : Str) (S : Obs) (h : ordV V = true) (hl : V.length ≤ 1000000) :
    ∃ T, F (n + 2) (.f 84) [scopeAV V d id, .str name, .str t] S = some ([scopeAV (setV (name, t, true) V) d id], S ++ T) := by
  have h19 := v19 hX n V (name, t, true) h hl
  simp only [CP, varsAV, rowAV, varAV] at h19
  refine ⟨[.cells [rowAV (setV (name, t, true) V), .int .i64 d, .box id 0], .cells [rowAV (setV (name, t, true) V), .int .i64 d, .box id 0]], ?_⟩
  rw [F_fn rfl rfl rfl Tryz.func84 rfl]
  simp [runFn, Tryz.f84, scopeAV, rowAV, zeroCells, h19]

def ExpOK [XX] (n k : Nat) : Prop := ∀ (V : Vs) (t : Str) (id m : Nat) (S : Obs), okV V k → t.length ≤ 200000 → S[id]? = some (.cells [.int .i64 m]) → m ≤ 2000 →
  ∃ T, F n (.f 23) [scopeAV V (20 - k) id, .str t] S = some ([.str (expS (lev k) V m t).1.1, .int .i64 (expS (lev k) V m t).1.2], SetN S id (expS (lev k) V m t).2 ++ T)
def ValOK [XX] (n k : Nat) : Prop := ∀ (V : Vs) (t : Str) (id m : Nat) (S : Obs), okV V k → S[id]? = some (.cells [.int .i64 m]) → m ≤ 2000 →
  ∃ T, F n (.f 38) [scopeAV V (20 - k) id, .str t] S = some ([.str (valS (lev k) V m t).1.1, .int .i64 (valS (lev k) V m t).1.2], SetN S id (valS (lev k) V m t).2 ++ T)

theorem lev_succ (k : Nat) : lev (k + 1) = some (expS (lev k), valS (lev k)) := rfl

set_option maxHeartbeats 2000000 in
theorem val_of [XX] (n k : Nat) (hk : k ≤ 20) (hn : 1000000 < n) (hE : ∀ j, k = j + 1 → ExpOK n j) : ValOK (n + 1) k := by
  intro V name id m S hV hS hm
  have hlt : id < S.length := (List.getElem?_eq_some_iff.1 hS).1
  have h15 := v15 n V name (by have := hV.2.1; omega) (by have := hV.2.1; omega)
  obtain ⟨n, rfl⟩ : ∃ q, n = q + 2 := ⟨n - 2, by omega⟩
  have hnb := noBox_scope V (20 - k) id
  unfold valS
  cases hg : getV V name with
  | none =>
    have e : gotL V name = (([], [], false), false) := by simp [gotL, hg]
    rw [e] at h15
    simp only [CP, varsAV, rowAV, varAV] at h15
    refine ⟨[.cells [rowAV V, .int .i64 (20 - k : Nat), .box id 0], .cells [.str [], .str [], .bool false]], ?_⟩
    rw [F_fn rfl rfl rfl Tryz.func38 rfl]
    simp [runFn, Tryz.f38, scopeAV, rowAV, zeroCells, h15, SetN_same hS]
  | some x =>
    obtain ⟨xn, xt, xs⟩ := x
    have e : gotL V name = ((xn, xt, xs), true) := by simp [gotL, hg]
    rw [e] at h15
    simp only [CP, varsAV, rowAV, varAV] at h15
    have hmem : (xn, xt, xs) ∈ V := List.mem_of_find?_eq_some hg
    have hxt := hV.2.2 _ hmem
    simp only at hxt
    cases xs with
    | true =>
      simp only []
      refine ⟨[.cells [rowAV V, .int .i64 (20 - k : Nat), .box id 0], .cells [.str xn, .str xt, .bool true]], ?_⟩
      rw [F_fn rfl rfl rfl Tryz.func38 rfl]
      simp [runFn, Tryz.f38, scopeAV, rowAV, zeroCells, h15, SetN_same hS]
    | false =>
      simp only [Bool.false_eq_true, if_false]
      have hS2 : (S ++ [.cells [rowAV V, .int .i64 (20 - k : Nat), .box id 0], .cells [.str xn, .str xt, .bool false]])[id]? = some (.cells [.int .i64 m]) := by rw [List.getElem?_append_left hlt]; exact hS
      obtain ⟨T1, d', h50, hd'⟩ := v50 n V (20 - k) id m (S ++ [.cells [rowAV V, .int .i64 (20 - k : Nat), .box id 0], .cells [.str xn, .str xt, .bool false]]) hS2 (by omega) (by omega)
      rw [SetN_app hlt] at h50
      have hnb1 := hnb []
      simp only [scopeAV, rowAV] at h50 hnb1
      cases k with
      | zero =>
        simp only [lev]
        have e : inS (20 - 0) m = (15, m) := by simp [inS]
        rw [e] at h50
        refine ⟨[.cells [rowAV V, .int .i64 20, .box id 0], .cells [.str xn, .str xt, .bool false]] ++ T1 ++ [.cells [rowAV V, .int .i64 d', .box id 0]], ?_⟩
        rw [F_fn rfl rfl rfl Tryz.func38 rfl]
        have hnb3 : noBoxL [.agg [.sl 3 (V.map varAV), .int .i64 20, .box id 0]] = false := by simp [noBoxL, noBox]
        simp at h50
        simp [runFn, Tryz.f38, scopeAV, rowAV, zeroCells, h15, h50, callP_box hnb3, -callP_box]
      | succ k =>
        simp only [lev_succ]
        have hd20 : ¬ 20 ≤ 20 - (k + 1) := by omega
        by_cases hb : 2000 < m + 1
        · have e : inS (20 - (k + 1)) m = (12, m + 1) := by simp only [inS, if_neg hd20, if_pos hb]
          rw [e] at h50
          rw [if_pos hb]
          refine ⟨[.cells [rowAV V, .int .i64 (20 - (k + 1) : Nat), .box id 0], .cells [.str xn, .str xt, .bool false]] ++ T1 ++ [.cells [rowAV V, .int .i64 d', .box id 0]], ?_⟩
          rw [F_fn rfl rfl rfl Tryz.func38 rfl]
          generalize 20 - (k + 1) = d at *
          simp at h50
          simp [runFn, Tryz.f38, scopeAV, rowAV, zeroCells, h15, h50, callP_box hnb1, -callP_box]
        · have e : inS (20 - (k + 1)) m = (0, m + 1) := by simp only [inS, if_neg hd20, if_neg hb]
          rw [e] at h50
          rw [if_neg hb]
          have hd2 := hd' (by rw [e])
          subst hd2
          have hee : 20 - (k + 1) + 1 = 20 - k := by omega
          rw [hee] at h50
          obtain ⟨T2, h23⟩ := hE k rfl V xt id (m + 1) (SetN S id (m + 1) ++ ([.cells [rowAV V, .int .i64 (20 - (k + 1) : Nat), .box id 0], .cells [.str xn, .str xt, .bool false]] ++ T1 ++ [.cells [rowAV V, .int .i64 (20 - k : Nat), .box id 0]])) (okV_le hV (by omega)) hxt (SetN_atA hlt) (by omega)
          rw [SetN_app2 hlt] at h23
          refine ⟨[.cells [rowAV V, .int .i64 (20 - (k + 1) : Nat), .box id 0], .cells [.str xn, .str xt, .bool false]] ++ T1 ++ [.cells [rowAV V, .int .i64 (20 - k : Nat), .box id 0]] ++ T2, ?_⟩
          have hnb2 := noBox_scope V (20 - k) id [.str xt]
          generalize expS (lev k) V (m + 1) xt = z at *
          generalize 20 - (k + 1) = d at *
          generalize 20 - k = d2 at *
          rw [F_fn rfl rfl rfl Tryz.func38 rfl]
          simp only [scopeAV, rowAV] at h23 hnb2
          simp at h50 h23
          simp [runFn, Tryz.f38, scopeAV, rowAV, zeroCells, h15, h50, h23, callP_box hnb1, callP_box hnb2, -callP_box]

end Go.Proofs.YtmcfnnpihlediaaGreatDoor.Ex

/- Expanding, in plain Lean: steps and lengths. -/
namespace Go.Proofs.YtmcfnnpihlediaaGreatDoor.Ex
open Go

/-- Where there is no error, the steps are not too many. -/
def GoodR (g : Nat → Str → Ans) : Prop := ∀ n c, n ≤ 2000 → (g n c).1.2 = 0 → (g n c).2 ≤ 2000
def GoodE (E : Exp) : Prop := ∀ V n t, n ≤ 2000 → (E V n t).1.2 = 0 → (E V n t).2 ≤ 2000 ∧ (E V n t).1.1.length ≤ 4000
def GoodW (E : Exp) : Prop := ∀ V, GoodR (E V)
theorem GoodE.w {E : Exp} (h : GoodE E) : GoodW E := fun V n t hn he => (h V n t hn he).1

theorem shortS_len (s : Str) : (shortS s).1.length ≤ 4000 := by
  unfold shortS; split <;> simp; omega

theorem exT_good {ref val : Nat → Str → Ans} (hr : GoodR ref) (hv : GoodR val) : ∀ (f : Nat) (acc : Str) (n : Nat) (t : Str), n ≤ 2000 → (exT ref val f acc n t).1.2 = 0 →
    (exT ref val f acc n t).2 ≤ 2000 ∧ (exT ref val f acc n t).1.1.length ≤ 4000
  | 0, acc, n, t, hn, he => by simp [exT] at he
  | f + 1, acc, n, [], hn, he => by simp only [exT]; exact ⟨hn, shortS_len acc⟩
  | f + 1, acc, n, c :: r, hn, he => by
    simp only [exT] at he ⊢
    split at he
    · rename_i hc
      rw [if_pos hc]
      cases r with
      | nil => simp at he
      | cons d r' =>
        simp only at he ⊢
        split at he
        · rename_i hd
          rw [if_pos hd]
          exact exT_good hr hv f _ n r' hn he
        · rename_i hd
          rw [if_neg hd]
          split at he
          · rename_i ho
            rw [if_pos ho]
            split at he
            · simp at he
            · rename_i i hi
              split at he
              · rename_i h0
                rw [if_pos h0]
                exact exT_good hr hv f _ _ _ (hr n _ hn h0) he
              · rename_i h0
                exact absurd he h0
          · rename_i ho
            rw [if_neg ho]
            split at he
            · rename_i h0
              rw [if_pos h0]
              exact exT_good hr hv f _ _ _ (hv n _ hn h0) he
            · rename_i h0
              exact absurd he h0
    · rename_i hc
      rw [if_neg hc]
      exact exT_good hr hv f _ n r hn he

theorem allS_good {ex : Nat → Str → Ans} (he : GoodR ex) : ∀ (l : List Str) (n : Nat), n ≤ 2000 → (allS ex n l).1.2 = 0 → (allS ex n l).2 ≤ 2000 ∧ (allS ex n l).1.1.length = l.length
  | [], n, hn, _ => ⟨hn, rfl⟩
  | t :: r, n, hn, h0 => by
    simp only [allS] at h0 ⊢
    split at h0
    · rename_i h1
      rw [if_pos h1]
      split at h0
      · rename_i h2
        rw [if_pos h2]
        have := allS_good he r _ (he n t hn h1) h2
        exact ⟨this.1, by simp [this.2]⟩
      · rename_i h2
        exact absurd h0 h2
    · rename_i h1
      exact absurd h0 h1

theorem allS_lens {ex : Nat → Str → Ans} {B : Nat} (he : GoodR ex) (hb : ∀ n t, n ≤ 2000 → (ex n t).1.2 = 0 → (ex n t).1.1.length ≤ B) : ∀ (l : List Str) (n : Nat), n ≤ 2000 → (allS ex n l).1.2 = 0 → ∀ x ∈ (allS ex n l).1.1, x.length ≤ B
  | [], n, hn, _ => by simp [allS]
  | t :: r, n, hn, h0 => by
    simp only [allS] at h0 ⊢
    split at h0
    · rename_i h1
      rw [if_pos h1]
      split at h0
      · rename_i h2
        rw [if_pos h2]
        intro x hx
        rcases List.mem_cons.1 hx with rfl | hx
        · exact hb n t hn h1
        · exact allS_lens he hb r _ (he n t hn h1) h2 x hx
      · rename_i h2
        exact absurd h0 h2
    · rename_i h1
      exact absurd h0 h1

theorem wordsS_good {of : Nat → Str → Ans} (h : GoodR of) : GoodR (wordsS of) := by
  intro n t hn he
  unfold wordsS at he ⊢
  split at he
  · rename_i h0
    rw [if_pos h0]
    exact (allS_good h _ n hn h0).1
  · rename_i h0
    exact absurd he h0

theorem turnedS_good {E W : Exp} (hE : GoodE E) (hW : GoodW W) (V : Vs) (n : Nat) (name p q : Str) (hn : n ≤ 2000) (he : (turnedS E W V n name p q).1.2 = 0) : (turnedS E W V n name p q).2 ≤ 2000 := by
  unfold turnedS at he ⊢
  have ha := allS_good (hE.w V) [name, p, q] n hn
  generalize allS (E V) n [name, p, q] = z at *
  obtain ⟨⟨l, e⟩, n1⟩ := z
  simp only at ha he ⊢
  split at he
  · rename_i h0
    rw [if_pos h0]
    have h1 := ha h0
    split at he
    · rename_i a p' q'
      have hw := hW V n1 a h1.1
      generalize W V n1 a = y at *
      obtain ⟨⟨v, e2⟩, n2⟩ := y
      simp only at hw he ⊢
      split at he
      · rename_i h2
        rw [if_pos h2]
        exact wordsS_good (fun n w hn _ => hn) n2 v (hw h2) he
      · rename_i h2
        exact absurd he h2
    · exact h1.1
  · rename_i h0
    exact absurd he h0

theorem eachS_good {E : Exp} (hE : GoodE E) (V : Vs) (own c : Str) : GoodR (eachS E V own c) := by
  intro n w hn he
  unfold eachS at he ⊢
  split at he
  · simp at he
  · rename_i h
    rw [if_neg h]
    exact (hE _ _ _ (by omega) he).1

theorem functionS_good {E : Exp} (hE : GoodE E) (V : Vs) (n : Nat) (name : Str) (args : List Str) (hn : n ≤ 2000) (he : (functionS E V n name args).1.2 = 0) : (functionS E V n name args).2 ≤ 2000 := by
  unfold functionS at he ⊢
  split at he
  · rename_i hif
    rw [if_pos hif]
    split at he
    · rename_i a b r
      have h1 := hE V n a hn
      generalize E V n a = z at *
      obtain ⟨⟨x, e⟩, n1⟩ := z
      simp only at h1 he ⊢
      split at he
      · rename_i h0
        rw [if_pos h0]
        have h1 := (h1 h0).1
        split at he
        · rename_i hx
          rw [if_pos hx]
          cases r with
          | nil => exact h1
          | cons c r => exact (hE V n1 c h1 he).1
        · rename_i hx
          rw [if_neg hx]
          exact (hE V n1 b h1 he).1
      · rename_i h0
        exact absurd he h0
    · exact hn
  · rename_i hif
    rw [if_neg hif]
    split at he
    · rename_i hfe
      rw [if_pos hfe]
      split at he
      · rename_i a b c
        have ha := allS_good (hE.w V) [a, b] n hn
        generalize allS (E V) n [a, b] = z at *
        obtain ⟨⟨l, e⟩, n1⟩ := z
        simp only at ha he ⊢
        split at he
        · rename_i h0
          rw [if_pos h0]
          have h1 := (ha h0).1
          split at he
          · exact wordsS_good (eachS_good hE V _ _) n1 _ h1 he
          · exact h1
        · rename_i h0
          exact absurd he h0
      · exact hn
    · rename_i hfe
      rw [if_neg hfe]
      have ha := allS_good (hE.w V) args n hn
      generalize allS (E V) n args = z at *
      obtain ⟨⟨l, e⟩, n1⟩ := z
      simp only at ha he ⊢
      split at he
      · rename_i h0
        rw [if_pos h0]
        have h1 := (ha h0).1
        split at he
        · rename_i hc
          rw [if_pos hc]
          split at he
          · rename_i x r
            cases hg : getV V (trimB x) with
            | none => exact h1
            | some v =>
              rw [hg] at he
              exact (hE _ n1 _ h1 he).1
          · exact h1
        · rename_i hc
          rw [if_neg hc]
          exact h1
      · rename_i h0
        exact absurd he h0

theorem bodyS_good {E W : Exp} (hE : GoodE E) (hW : GoodW W) (V : Vs) (n : Nat) (c : Str) (hn : n ≤ 2000) (he : (bodyS E W V n c).1.2 = 0) : (bodyS E W V n c).2 ≤ 2000 := by
  have rest : (restS E W V n c).1.2 = 0 → (restS E W V n c).2 ≤ 2000 := by
    intro h
    unfold restS at h ⊢
    split at h
    · rename_i hc
      rw [if_pos hc]
      exact turnedS_good hE hW V n _ _ _ hn h
    · rename_i hc
      rw [if_neg hc]
      split at h
      · rename_i h0
        rw [if_pos h0]
        exact hW V _ _ (hE V n c hn h0).1 h
      · rename_i h0
        exact absurd h h0
  unfold bodyS at he ⊢
  split at he
  · split at he
    · rename_i h0
      rw [if_pos h0]
      exact rest he
    · rename_i h0
      rw [if_neg h0]
      split at he
      · simp at he
      · rename_i h1
        rw [if_neg h1]
        exact functionS_good hE V n _ _ hn he
  · exact rest he

theorem refS_good {L : Option (Exp × Exp)} (h : ∀ p, L = some p → GoodE p.1 ∧ GoodW p.2) (V : Vs) : GoodR (refS L V) := by
  intro n c hn he
  unfold refS at he ⊢
  cases L with
  | none => simp at he
  | some p =>
    simp only at he ⊢
    split at he
    · simp at he
    · rename_i h0
      rw [if_neg h0]
      exact bodyS_good (h p rfl).1 (h p rfl).2 V (n + 1) c (by omega) he

theorem valS_good {L : Option (Exp × Exp)} (h : ∀ p, L = some p → GoodE p.1 ∧ GoodW p.2) (V : Vs) : GoodR (valS L V) := by
  intro n c hn he
  unfold valS at he ⊢
  cases hg : getV V c with
  | none => exact hn
  | some x =>
    rw [hg] at he
    simp only at he ⊢
    split at he
    · rename_i hs
      rw [if_pos hs]; exact hn
    · rename_i hs
      rw [if_neg hs]
      cases L with
      | none => simp at he
      | some p =>
        simp only at he ⊢
        split at he
        · simp at he
        · rename_i h0
          rw [if_neg h0]
          exact ((h p rfl).1 V (n + 1) _ (by omega) he).1

theorem lev_good : ∀ k p, lev k = some p → GoodE p.1 ∧ GoodW p.2
  | 0, p, h => by cases h
  | k + 1, p, h => by
    simp only [lev] at h
    injection h with h
    subst h
    have ih := lev_good k
    exact ⟨fun V n t hn he => exT_good (refS_good ih V) (valS_good ih V) _ _ n t hn he, fun V => valS_good ih V⟩

theorem expS_good (k : Nat) : GoodE (expS (lev k)) := fun V n t hn he => exT_good (refS_good (lev_good k) V) (valS_good (lev_good k) V) _ _ n t hn he
theorem valS_good' (k : Nat) : GoodW (valS (lev k)) := fun V => valS_good (lev_good k) V

theorem expS_len (k : Nat) (V : Vs) (n : Nat) (t : Str) (hn : n ≤ 2000) : (expS (lev k) V n t).1.2 = 0 → (expS (lev k) V n t).1.1.length ≤ 4000 := fun h => (expS_good k V n t hn h).2

/-- A variable's value is not too long. -/
theorem valS_len (k : Nat) (V : Vs) (n : Nat) (name : Str) (hV : ∀ x ∈ V, x.2.1.length ≤ 200000) (hn : n ≤ 2000) (h : (valS (lev k) V n name).1.2 = 0) : (valS (lev k) V n name).1.1.length ≤ 200000 := by
  unfold valS at h ⊢
  cases hg : getV V name with
  | none => simp
  | some x =>
    rw [hg] at h
    simp only at h ⊢
    split at h
    · rename_i hs
      rw [if_pos hs]; exact hV x (List.mem_of_find?_eq_some hg)
    · rename_i hs
      rw [if_neg hs]
      cases k with
      | zero => simp [lev] at h
      | succ k =>
        simp only [lev] at h ⊢
        split at h
        · simp at h
        · rename_i h0
          rw [if_neg h0]
          have := expS_len k V (n + 1) x.2.1 (by omega) h
          omega

end Go.Proofs.YtmcfnnpihlediaaGreatDoor.Ex

/- Texts expanded one by one; what becomes of each word. -/
namespace Go.Proofs.YtmcfnnpihlediaaGreatDoor.Ex
open Go
attribute [-simp] rgn rgnD exec_seq exec_cond exec_block

def cmb (out : List Str) (z : (List Str × Nat) × Nat) : (List Str × Nat) × Nat := if z.1.2 = 0 then ((out ++ z.1.1, 0), z.2) else (([], z.1.2), z.2)

theorem allS_cmb (ex : Nat → Str → Ans) (n : Nat) (t : Str) (r : List Str) (out : List Str) :
    cmb out (allS ex n (t :: r)) = if (ex n t).1.2 = 0 then cmb (out ++ [(ex n t).1.1]) (allS ex (ex n t).2 r) else (([], (ex n t).1.2), (ex n t).2) := by
  simp only [allS, cmb]
  by_cases h1 : (ex n t).1.2 = 0
  · simp only [if_pos h1]
    by_cases h2 : (allS ex (ex n t).2 r).1.2 = 0
    · simp [h2]
    · simp [h2]
  · simp [h1]

theorem cmb_nil (out : List Str) (n : Nat) : cmb out (([], 0), n) = ((out, 0), n) := by simp [cmb]

theorem allS_err (ex : Nat → Str → Ans) : ∀ (l : List Str) (n : Nat), (allS ex n l).1.2 ≠ 0 → (allS ex n l).1.1 = []
  | [], n, h => by simp [allS] at h
  | t :: r, n, h => by
    simp only [allS] at h ⊢
    split at h
    · rename_i h1
      rw [if_pos h1]
      split at h
      · rename_i h2; simp at h
      · rename_i h2; rw [if_neg h2]
    · rename_i h1
      rw [if_neg h1]
theorem cmb_start (ex : Nat → Str → Ans) (l : List Str) (n : Nat) : cmb [] (allS ex n l) = allS ex n l := by
  have h := allS_err ex l n
  generalize allS ex n l = z at *
  obtain ⟨⟨a, e⟩, q⟩ := z
  unfold cmb
  simp only at h ⊢
  by_cases he : e = 0
  · subst he; simp
  · simp [he, h he]

theorem beq_errno {e : Nat} : ((e : Int) == 0) = decide (e = 0) := by
  by_cases h : e = 0
  · subst h; rfl
  · have : ¬ (e : Int) = 0 := by omega
    simp [h, this]

set_option maxHeartbeats 4000000 in
theorem v81 [XX] (n k : Nat) (hn : 1000000 < n) (hE : ExpOK n k) (V : Vs) (hV : okV V k) (l : List Str) (hl : l.length ≤ 1000) (hb : ∀ t ∈ l, t.length ≤ 200000) (id m : Nat) (S : Obs)
    (hS : S[id]? = some (.cells [.int .i64 m])) (hm : m ≤ 2000) :
    ∃ T, F (n + 1) (.f 81) [scopeAV V (20 - k) id, .sl 1 (l.map .str)] S =
      some ([.sl 1 ((allS (expS (lev k) V) m l).1.1.map .str), .int .i64 (allS (expS (lev k) V) m l).1.2], SetN S id (allS (expS (lev k) V) m l).2 ++ T) := by
  have hlt : id < S.length := (List.getElem?_eq_some_iff.1 hS).1
  generalize hd : 20 - k = d at *
  rw [F_fn rfl rfl rfl Tryz.func81 rfl]
  simp [runFn, Tryz.f81, scopeAV, rowAV]
  generalize hI : iter _ _ _ = r
  obtain ⟨x, c, rfl, hc⟩ := iter_cfg (fun x : Nat × Nat × List Str => l.length - x.1)
    (fun x c => c.D = [] ∧ (∃ T, c.S = SetN S id x.2.1 ++ (.cells [.sl 3 (V.map varAV), .int .i64 d, .box id 0] :: T)) ∧ c.pf 2 = .box S.length 0 ∧ c.pf 6 = .sl 1 (x.2.2.map .str) ∧ c.pf 11 = .sl 1 (l.map .str) ∧
      c.pf 12 = .int .i64 l.length ∧ c.pf 13 = .int .i64 x.1 ∧ x.1 ≤ l.length ∧ x.2.1 ≤ 2000 ∧ x.2.2.length = x.1 ∧
      allS (expS (lev k) V) m l = cmb x.2.2 (allS (expS (lev k) V) x.2.1 (l.drop x.1)))
    (fun x c => c.D = [] ∧ (∃ T, c.S = SetN S id (allS (expS (lev k) V) m l).2 ++ T) ∧
      ((x = .ret ∧ c.pf 4 = .sl 1 ((allS (expS (lev k) V) m l).1.1.map .str) ∧ c.pf 5 = .int .i64 (allS (expS (lev k) V) m l).1.2) ∨
       (x = .ex 0 ∧ c.pf 6 = .sl 1 ((allS (expS (lev k) V) m l).1.1.map .str) ∧ (allS (expS (lev k) V) m l).1.2 = 0)))
    (fun x c hc => by
      obtain ⟨i, m', out⟩ := x
      obtain ⟨pf, S', D'⟩ := c
      obtain ⟨rfl, ⟨T, rfl⟩, p2, p6, p11, p12, p13, hi, hm', ho, hinv⟩ := hc
      simp only at p2 p6 p11 p12 p13 hi hm' ho hinv
      by_cases hil : i < l.length
      · have hdrop : l.drop i = l[i] :: l.drop (i + 1) := List.drop_eq_getElem_cons hil
        rw [hdrop, allS_cmb] at hinv
        obtain ⟨T2, h23⟩ := hE V l[i] id m' (SetN S id m' ++ (.cells [.sl 3 (V.map varAV), .int .i64 d, .box id 0] :: T)) hV (hb _ (List.getElem_mem hil)) (SetN_atA hlt) hm'
        rw [SetN_app2 hlt, hd] at h23
        have hg := expS_good k V m' l[i] hm'
        have hnb := noBox_scope V d id [.str l[i]]
        simp only [scopeAV, rowAV] at h23 hnb
        have w1 : IntKind.wrap .i64 ((i : Int) + 1) = (i : Int) + 1 := wrap64 (by omega) (by omega)
        generalize expS (lev k) V m' l[i] = z at *
        obtain ⟨⟨zt, ze⟩, zn⟩ := z
        simp only at hinv h23 hg
        have hbe := beq_errno (e := ze)
        by_cases hz : ze = 0
        · subst hz
          left
          rw [if_pos rfl] at hinv
          have hal : (out.length + 1) * 16 ≤ 140737488355328 := by omega
          refine ⟨(i + 1, zn, out ++ [zt]), ⟨?_, SetN S id zn ++ (.cells [.sl 3 (V.map varAV), .int .i64 d, .box id 0] :: (T ++ T2)), []⟩, ?_, by simp only; omega, rfl, ⟨T ++ T2, rfl⟩, ?_, ?_, ?_, ?_, ?_, by simp only; omega, (hg rfl).1, by simp; omega, hinv⟩
          case refine_2 => simp [p2, p6, p11, p12, p13, hil, h23, callP_box hnb, w1, hal, -callP_box]; rfl
          all_goals simp [p2, p6, p11, p12, p13]
        · right
          rw [if_neg hz] at hinv
          have hz' : ¬ (ze : Int) = 0 := by omega
          have hbe' : ((ze : Int) != 0) = true := by simpa using hz'
          refine ⟨.ret, ⟨?_, SetN S id zn ++ (.cells [.sl 3 (V.map varAV), .int .i64 d, .box id 0] :: (T ++ T2)), []⟩, by simp, ?_, rfl, ⟨_, by rw [hinv]⟩, .inl ⟨rfl, ?_, ?_⟩⟩
          case refine_2 => simp [p2, p6, p11, p12, p13, hil, h23, callP_box hnb, hbe', -callP_box]; rfl
          all_goals simp [hinv]
      · right
        rw [List.drop_of_length_le (by omega), show allS (expS (lev k) V) m' [] = (([], 0), m') from rfl, cmb_nil] at hinv
        refine ⟨.ex 0, ?_⟩
        simp [p2, p6, p11, p12, p13, hil, hinv])
    _ (0, m, []) _ _ hI (by
      simp [SetN_same hS, cmb_start]
      exact hm) (by simp only; omega)
  obtain ⟨c1, ⟨T, c2⟩, hc⟩ := hc
  refine ⟨T, ?_⟩
  rcases hc with ⟨rfl, h4, h5⟩ | ⟨rfl, h4, h5⟩
  · simp [c1, c2, h4, h5]
  · simp [c1, c2, h4, h5]

end Go.Proofs.YtmcfnnpihlediaaGreatDoor.Ex

/- What becomes of each word. -/
namespace Go.Proofs.YtmcfnnpihlediaaGreatDoor.Ex
open Go
attribute [-simp] rgn rgnD exec_seq exec_cond exec_block

theorem cp110 [XX] (n : Nat) (s : Str) (hs : s.length ≤ 2000000) (hn : 3000000 < n) : callP (F n) (.f 110) [.str s] = some (.sl 1 ((wordsL s).map .str)) := a19 (by unfold deep; omega) s hs

theorem allS_lens' {ex : Nat → Str → Ans} {B : Nat} (he : GoodR ex) : ∀ (l : List Str) (hb : ∀ t ∈ l, ∀ n, n ≤ 2000 → (ex n t).1.2 = 0 → (ex n t).1.1.length ≤ B) (n : Nat), n ≤ 2000 → (allS ex n l).1.2 = 0 → ∀ x ∈ (allS ex n l).1.1, x.length ≤ B
  | [], _, n, hn, _ => by simp [allS]
  | t :: r, hb, n, hn, h0 => by
    simp only [allS] at h0 ⊢
    split at h0
    · rename_i h1
      rw [if_pos h1]
      split at h0
      · rename_i h2
        rw [if_pos h2]
        intro x hx
        rcases List.mem_cons.1 hx with rfl | hx
        · exact hb t (by simp) n hn h1
        · exact allS_lens' he r (fun t ht => hb t (List.mem_cons_of_mem _ ht)) _ (he n t hn h1) h2 x hx
      · rename_i h2
        exact absurd h0 h2
    · rename_i h1
      exact absurd h0 h1

set_option maxHeartbeats 4000000 in
theorem v82 [XX] (n : Nat) (hn : 3000000 < n) (t : Str) (ht : t.length ≤ 200000) (of : Nat → Str → Ans) (hof : GoodR of) (fc : FuncId) (cs : List AV) (hcs : noBoxL cs = false) (id m : Nat) (S : Obs)
    (hlt : id < S.length) (hm : m ≤ 2000) (hB : ∀ w ∈ wordsL t, ∀ n, n ≤ 2000 → (of n w).1.2 = 0 → (of n w).1.1.length ≤ 400000)
    (hc : ∀ w ∈ wordsL t, ∀ m' T, m' ≤ 2000 → ∃ T', F n (.f fc) (.str w :: cs) (SetN S id m' ++ T) = some ([.str (of m' w).1.1, .int .i64 (of m' w).1.2], SetN S id (of m' w).2 ++ T')) :
    ∃ T, F (n + 1) (.f 82) [.str t, .fn fc [] cs] (SetN S id m) = some ([.str (wordsS of m t).1.1, .int .i64 (wordsS of m t).1.2], SetN S id (wordsS of m t).2 ++ T) := by
  have h110 := cp110 n t (by omega) hn
  have hwl := wordsL_len t
  rw [F_fn rfl rfl rfl Tryz.func82 rfl]
  simp [runFn, Tryz.f82, h110]
  generalize hl : wordsL t = l at *
  generalize hI : iter _ _ _ = r
  obtain ⟨x, c, rfl, hq⟩ := iter_cfg (fun x : Nat × Nat × List Str => l.length - x.1)
    (fun x c => c.D = [] ∧ (∃ T, c.S = SetN S id x.2.1 ++ T) ∧ c.pf 1 = .fn fc [] cs ∧ c.pf 6 = .sl 1 (x.2.2.map .str) ∧ c.pf 12 = .sl 1 (l.map .str) ∧
      c.pf 13 = .int .i64 l.length ∧ c.pf 14 = .int .i64 x.1 ∧ x.1 ≤ l.length ∧ x.2.1 ≤ 2000 ∧ x.2.2.length = x.1 ∧
      allS of m l = cmb x.2.2 (allS of x.2.1 (l.drop x.1)))
    (fun x c => c.D = [] ∧ (∃ T, c.S = SetN S id (allS of m l).2 ++ T) ∧
      ((x = .ret ∧ c.pf 4 = .str [] ∧ c.pf 5 = .int .i64 (allS of m l).1.2 ∧ (allS of m l).1.2 ≠ 0) ∨
       (x = .ex 0 ∧ c.pf 6 = .sl 1 ((allS of m l).1.1.map .str) ∧ (allS of m l).1.2 = 0)))
    (fun x c hc2 => by
      obtain ⟨i, m', out⟩ := x
      obtain ⟨pf, S', D'⟩ := c
      obtain ⟨rfl, ⟨T, rfl⟩, p1, p6, p12, p13, p14, hi, hm', ho, hinv⟩ := hc2
      simp only at p1 p6 p12 p13 p14 hi hm' ho hinv
      by_cases hil : i < l.length
      · have hdrop : l.drop i = l[i] :: l.drop (i + 1) := List.drop_eq_getElem_cons hil
        rw [hdrop, allS_cmb] at hinv
        obtain ⟨T2, hcc⟩ := hc l[i] (List.getElem_mem hil) m' T hm'
        have hg := hof m' l[i] hm'
        have hnb : noBoxL (.str l[i] :: cs) = false := by simp [noBoxL, noBox, hcs]
        have w1 : IntKind.wrap .i64 ((i : Int) + 1) = (i : Int) + 1 := wrap64 (by omega) (by omega)
        generalize of m' l[i] = z at *
        obtain ⟨⟨zt, ze⟩, zn⟩ := z
        simp only at hinv hcc hg
        have hbe := beq_errno (e := ze)
        by_cases hz : ze = 0
        · subst hz
          left
          rw [if_pos rfl] at hinv
          have hal : (out.length + 1) * 16 ≤ 140737488355328 := by omega
          refine ⟨(i + 1, zn, out ++ [zt]), ⟨?_, SetN S id zn ++ T2, []⟩, ?_, by simp only; omega, rfl, ⟨T2, rfl⟩, ?_, ?_, ?_, ?_, ?_, by simp only; omega, hg rfl, by simp; omega, hinv⟩
          case refine_2 => simp [p1, p6, p12, p13, p14, hil, hcc, callP_box hnb, w1, hal, -callP_box]; rfl
          all_goals simp [p1, p6, p12, p13, p14]
        · right
          rw [if_neg hz] at hinv
          have hz' : ¬ (ze : Int) = 0 := by omega
          have hbe' : ((ze : Int) != 0) = true := by simpa using hz'
          refine ⟨.ret, ⟨?_, SetN S id zn ++ T2, []⟩, by simp, ?_, rfl, ⟨_, by rw [hinv]⟩, .inl ⟨rfl, ?_, ?_, ?_⟩⟩
          case refine_2 => simp [p1, p6, p12, p13, p14, hil, hcc, callP_box hnb, hbe', -callP_box]; rfl
          all_goals simp [hinv, hz]
      · right
        rw [List.drop_of_length_le (by omega), show allS of m' [] = (([], 0), m') from rfl, cmb_nil] at hinv
        refine ⟨.ex 0, ?_⟩
        simp [p1, p6, p12, p13, p14, hil, hinv])
    _ (0, m, []) _ _ hI (by
      simp [cmb_start, hl]
      exact hm) (by simp only; omega)
  obtain ⟨c1, ⟨T, c2⟩, hq⟩ := hq
  refine ⟨T, ?_⟩
  unfold wordsS
  rw [hl]
  rcases hq with ⟨rfl, h4, h5, h6⟩ | ⟨rfl, h4, h5⟩
  · simp [c1, c2, h4, h5, h6]
  · have hgo := (allS_good hof l m hm h5).2
    have hln := allS_lens' hof l hB m hm h5
    generalize allS of m l = z at *
    obtain ⟨⟨zl, ze⟩, zn⟩ := z
    simp only at h4 h5 c2 hgo hln
    subst h5
    obtain ⟨q, rfl⟩ : ∃ q, n = q + 2 := ⟨n - 2, by omega⟩
    have h111 := cp21 q zl (by
      have h1 := joinL_len 400000 zl hln
      have h2 : zl.length * (400000 + 1) ≤ 200001 * (400000 + 1) := Nat.mul_le_mul_right _ (by omega)
      unfold lim; omega)
    have h34 := v34 (q + 1) (joinL [32] zl)
    simp only [CP] at h111 h34
    simp [c1, c2, h4, h111, h34]

end Go.Proofs.YtmcfnnpihlediaaGreatDoor.Ex

/- A value with its words turned. -/
namespace Go.Proofs.YtmcfnnpihlediaaGreatDoor.Ex
open Go
attribute [-simp] rgn rgnD exec_seq exec_cond exec_block

theorem v89 [XX] (n : Nat) (hn : 100 < n) (p q w : Str) (hq : q.length + w.length ≤ 1000000000) (hp : p.length ≤ big) (a b : Nat) (S : Obs) (ha : S[a]? = some (.cells [.str p])) (hb : S[b]? = some (.cells [.str q])) :
    F (n + 1) (.f 89) [.str w, .box a 0, .box b 0] S = some ([.str (substL p q w), .int .i64 0], S) := by
  obtain ⟨n, rfl⟩ : ∃ m, n = m + 4 := ⟨n - 4, by omega⟩
  have h52 := cp52 n p q w hq hp
  simp only [CP] at h52
  rw [F_fn rfl rfl rfl Tryz.func89 rfl]
  simp [runFn, Tryz.f89, ha, hb, h52]

def TurnOK [XX] (n k : Nat) : Prop := ∀ (V : Vs) (name p q : Str) (id m : Nat) (S : Obs), okV V k → name.length ≤ 200000 → p.length ≤ 200000 → q.length ≤ 200000 → S[id]? = some (.cells [.int .i64 m]) → m ≤ 2000 →
  ∃ T, F n (.f 57) [scopeAV V (20 - k) id, .str name, .str p, .str q] S = some ([.str (turnedS (expS (lev k)) (valS (lev k)) V m name p q).1.1, .int .i64 (turnedS (expS (lev k)) (valS (lev k)) V m name p q).1.2], SetN S id (turnedS (expS (lev k)) (valS (lev k)) V m name p q).2 ++ T)

set_option maxHeartbeats 4000000 in
theorem turned_of [XX] (n k : Nat) (hn : 3000010 < n) (hE : ExpOK (n - 1) k) (hW : ValOK n k) : TurnOK (n + 1) k := by
  intro V name p q id m S hV hl1 hl2 hl3 hS hm
  have hlt : id < S.length := (List.getElem?_eq_some_iff.1 hS).1
  obtain ⟨n, rfl⟩ : ∃ z, n = z + 1 := ⟨n - 1, by omega⟩
  rw [Nat.add_sub_cancel] at hE
  have hl : ∀ t ∈ [name, p, q], t.length ≤ 200000 := by simp [hl1, hl2, hl3]
  obtain ⟨T1, h81⟩ := v81 n k (by omega) hE V hV [name, p, q] (by simp) hl id m (S ++ [.cells [rowAV V, .int .i64 (20 - k : Nat), .box id 0], .cells [.str p], .cells [.str q]]) (by rw [List.getElem?_append_left hlt]; exact hS) hm
  rw [SetN_app hlt] at h81
  have ha := allS_good ((expS_good k).w V) [name, p, q] m hm
  have hal := allS_lens ((expS_good k).w V) (fun n t h1 h2 => expS_len k V n t h1 h2) [name, p, q] m hm
  unfold turnedS
  have hnb1 := noBox_scope V (20 - k) id [.sl 1 ([name, p, q].map .str)]
  have hWV := fun a m1 hm1 l => hW V a id m1 (SetN S id m1 ++ l) hV (SetN_atA hlt) hm1
  generalize hd : 20 - k = d at *
  generalize allS (expS (lev k) V) m [name, p, q] = z at *
  obtain ⟨⟨l, e⟩, m1⟩ := z
  simp only at h81 ha hal ⊢
  simp only [scopeAV, rowAV, List.map_cons, List.map_nil] at h81 hnb1
  by_cases he : e = 0
  · subst he
    obtain ⟨hm1, hlen⟩ := ha rfl
    have hal := hal rfl
    match l, hlen, hal with
    | [a, p', q'], _, hal =>
      simp only [if_true]
      obtain ⟨T2, h38⟩ := hWV a m1 hm1 ([.cells [.sl 3 (V.map varAV), .int .i64 d, .box id 0], .cells [.str p], .cells [.str q]] ++ T1)
      rw [SetN_app2 hlt] at h38
      have hvg := valS_good' k V m1 a hm1
      have hvl := valS_len k V m1 a hV.2.2 hm1
      have hnb2 := noBox_scope V d id [.str a]
      generalize valS (lev k) V m1 a = y at *
      obtain ⟨⟨v, e2⟩, m2⟩ := y
      simp only at h38 hvg hvl ⊢
      simp only [scopeAV, rowAV] at h38 hnb2
      by_cases he2 : e2 = 0
      · subst he2
        have hm2 := hvg rfl
        have hvl := hvl rfl
        simp only [if_true]
        have h133 := cp133 (n - 1) p'
        rw [show n - 1 + 2 = n + 1 by omega] at h133
        simp only [CP] at h133
        have hp' : p'.length ≤ 4000 := hal p' (by simp)
        have hq' : q'.length ≤ 4000 := hal q' (by simp)
        have hps : (patS p' q').1.length ≤ 4001 ∧ (patS p' q').2.length ≤ 4001 := by unfold patS; split <;> simp <;> omega
        have key : ∃ T3, F (n + 1) (.f 82) [.str v, .fn 89 [] [.box (S.length + 1) 0, .box (S.length + 2) 0]] (SetN S id m2 ++ (.cells [.sl 3 (V.map varAV), .int .i64 d, .box id 0] :: .cells [.str (patS p' q').1] :: .cells [.str (patS p' q').2] :: (T1 ++ T2))) =
            some ([.str (wordsS (fun n w => ((substL (patS p' q').1 (patS p' q').2 w, 0), n)) m2 v).1.1, .int .i64 (wordsS (fun n w => ((substL (patS p' q').1 (patS p' q').2 w, 0), n)) m2 v).1.2],
              SetN S id (wordsS (fun n w => ((substL (patS p' q').1 (patS p' q').2 w, 0), n)) m2 v).2 ++ T3) := by
          have hlw : ∀ w ∈ wordsL v, w.length ≤ 200000 := fun w hw => by have := wordsL_mem v w hw; omega
          obtain ⟨T3, h82⟩ := v82 n (by omega) v hvl (fun n w => ((substL (patS p' q').1 (patS p' q').2 w, 0), n)) (fun n w h _ => h) 89 [.box (S.length + 1) 0, .box (S.length + 2) 0] rfl id m2
            (S ++ (.cells [.sl 3 (V.map varAV), .int .i64 d, .box id 0] :: .cells [.str (patS p' q').1] :: .cells [.str (patS p' q').2] :: (T1 ++ T2))) (by simp; omega) hm2
            (fun w hw => by
              have h1 := substL_len (patS p' q').1 (patS p' q').2 w
              have h2 := hlw w hw
              simp only; omega)
            (fun w hw m' T hm' => by
              obtain ⟨q, rfl⟩ : ∃ q, n = q + 1 := ⟨n - 1, by omega⟩
              refine ⟨T, ?_⟩
              simp only
              have h2 := hlw w hw
              refine v89 q (by omega) _ _ w (by omega) (by unfold big; omega) _ _ _ ?_ ?_
              · rw [SetN_app hlt, List.append_assoc, SetN_end]; rfl
              · rw [SetN_app hlt, List.append_assoc, SetN_end]; rfl)
          refine ⟨(.cells [.sl 3 (V.map varAV), .int .i64 d, .box id 0] :: .cells [.str (patS p' q').1] :: .cells [.str (patS p' q').2] :: (T1 ++ T2)) ++ T3, ?_⟩
          rw [SetN_app hlt] at h82
          rw [h82, SetN_app hlt, List.append_assoc]
        obtain ⟨T3, h82⟩ := key
        have hnb3 : noBoxL [.str v, .fn 89 [] [.box (S.length + 1) 0, .box (S.length + 2) 0]] = false := by simp [noBoxL, noBox]
        refine ⟨T3, ?_⟩
        rw [F_fn rfl rfl rfl Tryz.func57 rfl]
        simp at h81 h38
        cases ho : openL p' with
        | true =>
          have hpp : patS p' q' = (p', q') := by simp [patS, ho]
          rw [hpp] at h82 ⊢
          rw [ho] at h133
          simp [runFn, Tryz.f57, scopeAV, rowAV, h81, h38, h133, h82, callP_box hnb1, callP_box hnb2, callP_box hnb3, -callP_box]
        | false =>
          have hpp : patS p' q' = (37 :: p', 37 :: q') := by simp [patS, ho]
          rw [hpp] at h82 ⊢
          rw [ho] at h133
          have rm1 : (Region.Mode.any == Region.Mode.text) = false := rfl
          have rm2 : (S.length + 1 != S.length) = true := by simp
          have rm3 : (S.length + 2 != S.length + 1) = true := by simp
          have rm4 : (S.length + 1 != S.length + 2) = true := by simp
          have hz1 : 1 + p'.length ≤ 9223372036854775807 := by omega
          have hz2 : 1 + q'.length ≤ 9223372036854775807 := by omega
          simp [runFn, Tryz.f57, scopeAV, rowAV, h81, h38, h133, h82, hz1, hz2, rm1, rm2, rm3, rm4, callP_box hnb1, callP_box hnb2, callP_box hnb3, -callP_box]
      · have he2' : ((e2 : Int) != 0) = true := by simp; omega
        refine ⟨[.cells [rowAV V, .int .i64 d, .box id 0], .cells [.str p], .cells [.str q]] ++ T1 ++ T2, ?_⟩
        rw [F_fn rfl rfl rfl Tryz.func57 rfl]
        simp at h81 h38
        simp [runFn, Tryz.f57, scopeAV, rowAV, h81, h38, callP_box hnb1, callP_box hnb2, he2', he2, -callP_box]
  · have he' : ((e : Int) != 0) = true := by simp; omega
    refine ⟨[.cells [rowAV V, .int .i64 d, .box id 0], .cells [.str p], .cells [.str q]] ++ T1, ?_⟩
    rw [F_fn rfl rfl rfl Tryz.func57 rfl]
    simp at h81
    simp [runFn, Tryz.f57, scopeAV, rowAV, h81, callP_box hnb1, he', he, -callP_box]

end Go.Proofs.YtmcfnnpihlediaaGreatDoor.Ex

/- A foreach's body; a function's answer. -/
namespace Go.Proofs.YtmcfnnpihlediaaGreatDoor.Ex
open Go
attribute [-simp] rgn rgnD exec_seq exec_cond exec_block keepS

@[simp] theorem keepS_false (S : Obs) (p : AV × Obs) : keepS false S p = some p := rfl
theorem keepS_app (S T : Obs) (y : AV) : keepS true S (y, S ++ T) = some (y, S ++ T) := by simp [keepS]

set_option maxHeartbeats 4000000 in
theorem v83 [XX] (hX : FullV) (n k : Nat) (hn : 3000000 < n) (hE : ExpOK n k) (V : Vs) (hV : okV V (k + 1)) (own c : Str) (args : List Str) (hc : args[2]? = some c) (hcl : c.length ≤ 200000) (w : Str) (hw : w.length ≤ 200000)
    (id js jo ja m : Nat) (S : Obs) (hS : S[id]? = some (.cells [.int .i64 m])) (hm : m ≤ 2000)
    (h1 : ∀ m' T, (SetN S id m' ++ T)[js]? = some (.cells [.sl 3 (V.map varAV), .int .i64 (20 - k : Nat), .box id 0]))
    (h2 : ∀ m' T, (SetN S id m' ++ T)[jo]? = some (.cells [.str own])) (h3 : ∀ m' T, (SetN S id m' ++ T)[ja]? = some (.cells [.sl 1 (args.map .str)])) :
    ∃ T, F (n + 1) (.f 83) [.str w, .box js 0, .box jo 0, .box ja 0] S =
      some ([.str (eachS (expS (lev k)) V own c m w).1.1, .int .i64 (eachS (expS (lev k)) V own c m w).1.2], SetN S id (eachS (expS (lev k)) V own c m w).2 ++ T) := by
  have hlt : id < S.length := (List.getElem?_eq_some_iff.1 hS).1
  obtain ⟨n, rfl⟩ : ∃ z, n = z + 2 := ⟨n - 2, by omega⟩
  have hEV := fun V t m S => hE V t id m S
  generalize hd : 20 - k = d at *
  have h71 := v71 (n + 1) V d id m S hS (by omega)
  have h10 : S[js]? = some (.cells [.sl 3 (V.map varAV), .int .i64 d, .box id 0]) := by
    have := h1 m []
    rw [SetN_same hS, List.append_nil] at this; exact this
  have hnb1 := noBox_scope V d id []
  simp only [scopeAV, rowAV] at h71 hnb1
  unfold eachS
  by_cases hb : 2000 < m + 1
  · rw [if_pos hb] at h71 ⊢
    refine ⟨[.cells [.sl 3 (V.map varAV), .int .i64 d, .box id 0]], ?_⟩
    rw [F_fn rfl rfl rfl Tryz.func83 rfl]
    simp [runFn, Tryz.f83, h10, h71, callP_box hnb1, -callP_box]
  · rw [if_neg hb] at h71 ⊢
    obtain ⟨T1, h84⟩ := v84 hX n V d id own w (SetN S id (m + 1) ++ [.cells [.sl 3 (V.map varAV), .int .i64 d, .box id 0]]) hV.1 (by have := hV.2.1; omega)
    obtain ⟨T2, h23⟩ := hEV (setV (own, w, true) V) c (m + 1) (SetN S id (m + 1) ++ ([.cells [.sl 3 (V.map varAV), .int .i64 d, .box id 0]] ++ T1)) (okV_set hV hw) hcl (SetN_atA hlt) (by omega)
    rw [SetN_app2 hlt] at h23
    rw [List.append_assoc] at h84
    have hnb2 := noBox_scope V d id [.str own, .str w]
    have hnb3 := noBox_scope (setV (own, w, true) V) d id [.str c]
    have htk := keepS_app (SetN S id (m + 1) ++ [Ob.cells [.sl 3 (V.map varAV), .int .i64 d, .box id 0]]) T1 (scopeAV (setV (own, w, true) V) d id)
    rw [List.append_assoc] at htk
    generalize expS (lev k) (setV (own, w, true) V) (m + 1) c = z at *
    simp only [scopeAV, rowAV, List.cons_append, List.nil_append] at h84 h23 hnb2 hnb3 htk
    obtain ⟨hlen2, hc2⟩ := List.getElem?_eq_some_iff.1 hc
    refine ⟨[.cells [.sl 3 (V.map varAV), .int .i64 d, .box id 0]] ++ T1 ++ T2, ?_⟩
    rw [F_fn rfl rfl rfl Tryz.func83 rfl]
    simp at h84 h23
    simp [runFn, Tryz.f83, h10, h1, h2, h3, h71, h84, h23, htk, hc, hlen2, hc2, callP_box hnb1, callP_box hnb2, callP_box hnb3, -callP_box]

end Go.Proofs.YtmcfnnpihlediaaGreatDoor.Ex

/- A function's answer. -/
namespace Go.Proofs.YtmcfnnpihlediaaGreatDoor.Ex
open Go
attribute [-simp] rgn rgnD exec_seq exec_cond exec_block keepS

/-- Expanding, so deep, wherever there is room. -/
def ExpAll [XX] (N k : Nat) : Prop := ∀ q, N ≤ q → ExpOK q k

def FunOK [XX] (n k : Nat) : Prop := ∀ (V : Vs) (name : Str) (args : List Str) (id m : Nat) (S : Obs), okV V (k + 1) → (∀ a ∈ args, a.length ≤ 200000) → args.length ≤ 9 → (takesL name).1 ≤ args.length → args.length ≤ (takesL name).2 → 1 ≤ args.length →
  S[id]? = some (.cells [.int .i64 m]) → m ≤ 2000 →
  ∃ T, F n (.f 55) [scopeAV V (20 - k) id, .str name, .sl 1 (args.map .str)] S = some ([.str (functionS (expS (lev k)) V m name args).1.1, .int .i64 (functionS (expS (lev k)) V m name args).1.2], SetN S id (functionS (expS (lev k)) V m name args).2 ++ T)

theorem cp80 [XX] (n : Nat) (hn : 10 < n) (s : Str) (hs : s.length ≤ 4000000) : callP (F n) (.f 80) [.str s] = some (.str (trimB s)) := by
  obtain ⟨q, rfl⟩ : ∃ q, n = q + 2 := ⟨n - 2, by omega⟩
  exact cp24 q s (by unfold big; omega)

theorem okV_pre {V : Vs} {k : Nat} (h : okV V (k + 1)) : okV V k := okV_le h (by omega)

section
variable [XX] {n k : Nat}

set_option maxHeartbeats 4000000 in
theorem fun_if (hn : 3000010 < n) (hE : ExpOK n k) (V : Vs) (a b : Str) (r : List Str) (hr : r.length ≤ 1) (id m : Nat) (S : Obs) (hV : okV V (k + 1)) (hl : ∀ x ∈ a :: b :: r, x.length ≤ 200000)
    (hS : S[id]? = some (.cells [.int .i64 m])) (hm : m ≤ 2000) :
    ∃ T, F (n + 1) (.f 55) [scopeAV V (20 - k) id, .str [105, 102], .sl 1 ((a :: b :: r).map .str)] S =
      some ([.str (functionS (expS (lev k)) V m [105, 102] (a :: b :: r)).1.1, .int .i64 (functionS (expS (lev k)) V m [105, 102] (a :: b :: r)).1.2], SetN S id (functionS (expS (lev k)) V m [105, 102] (a :: b :: r)).2 ++ T) := by
  have hlt : id < S.length := (List.getElem?_eq_some_iff.1 hS).1
  have hEV := fun t m' T h1 h2 => hE V t id m' (SetN S id m' ++ T) (okV_pre hV) h1 (SetN_atA hlt) h2
  obtain ⟨T1, h1⟩ := hEV a m [.cells [.sl 3 (V.map varAV), .int .i64 (20 - k : Nat), .box id 0], .cells [.sl 1 ((a :: b :: r).map .str)]] (hl a (by simp)) hm
  rw [SetN_app2 hlt, SetN_same hS] at h1
  have hg := expS_good k V m a hm
  have hnb := fun t => noBox_scope V (20 - k) id [.str t]
  generalize hd : 20 - k = d at *
  unfold functionS
  simp only [if_true]
  generalize expS (lev k) V m a = z at *
  obtain ⟨⟨x, e⟩, m1⟩ := z
  simp only [scopeAV, rowAV] at h1 hg hnb ⊢
  by_cases he : e = 0
  · subst he
    obtain ⟨hm1, hx⟩ := hg rfl
    simp only [if_true]
    have h80 := cp80 n (by omega) x (by omega)
    obtain ⟨T2, h2⟩ := hEV b m1 ([.cells [.sl 3 (V.map varAV), .int .i64 d, .box id 0], .cells [.sl 1 ((a :: b :: r).map .str)]] ++ T1) (hl b (by simp)) hm1
    rw [SetN_app2 hlt] at h2
    simp only [scopeAV, rowAV] at h2
    by_cases htr : trimB x = []
    · have htr' : List.isEmpty (trimB x) = true := by simp [htr]
      rw [if_pos htr]
      match r, hr with
      | [], _ =>
        refine ⟨[.cells [.sl 3 (V.map varAV), .int .i64 d, .box id 0], .cells [.sl 1 ([a, b].map .str)]] ++ T1, ?_⟩
        rw [F_fn rfl rfl rfl Tryz.func55 rfl]
        simp at h1
        simp [runFn, Tryz.f55, scopeAV, rowAV, h1, h80, htr', callP_box (hnb a), -callP_box]
      | [c], _ =>
        obtain ⟨T3, h3⟩ := hEV c m1 ([.cells [.sl 3 (V.map varAV), .int .i64 d, .box id 0], .cells [.sl 1 ([a, b, c].map .str)]] ++ T1) (hl c (by simp)) hm1
        rw [SetN_app2 hlt] at h3
        simp only [scopeAV, rowAV] at h3
        simp only []
        generalize expS (lev k) V m1 c = y at *
        refine ⟨[.cells [.sl 3 (V.map varAV), .int .i64 d, .box id 0], .cells [.sl 1 ([a, b, c].map .str)]] ++ T1 ++ T3, ?_⟩
        rw [F_fn rfl rfl rfl Tryz.func55 rfl]
        simp at h1 h3
        simp [runFn, Tryz.f55, scopeAV, rowAV, h1, h3, h80, htr', callP_box (hnb a), callP_box (hnb c), -callP_box]
    · have htr' : List.isEmpty (trimB x) = false := by simp [htr]
      rw [if_neg htr]
      generalize expS (lev k) V m1 b = y at *
      refine ⟨[.cells [.sl 3 (V.map varAV), .int .i64 d, .box id 0], .cells [.sl 1 ((a :: b :: r).map .str)]] ++ T1 ++ T2, ?_⟩
      rw [F_fn rfl rfl rfl Tryz.func55 rfl]
      simp at h1 h2
      simp [runFn, Tryz.f55, scopeAV, rowAV, h1, h2, h80, htr', callP_box (hnb a), callP_box (hnb b), -callP_box]
  · have he' : ((e : Int) != 0) = true := by simp; omega
    rw [if_neg he]
    refine ⟨[.cells [.sl 3 (V.map varAV), .int .i64 d, .box id 0], .cells [.sl 1 ((a :: b :: r).map .str)]] ++ T1, ?_⟩
    rw [F_fn rfl rfl rfl Tryz.func55 rfl]
    simp at h1
    simp [runFn, Tryz.f55, scopeAV, rowAV, h1, callP_box (hnb a), he', he, -callP_box]

end

end Go.Proofs.YtmcfnnpihlediaaGreatDoor.Ex

/- A function's answer: of each word, of a function, of a text that is called. -/
namespace Go.Proofs.YtmcfnnpihlediaaGreatDoor.Ex
open Go
attribute [-simp] rgn rgnD exec_seq exec_cond exec_block keepS

section
variable [XX] {n k : Nat}

theorem wordsL_str (s : Str) (hs : s.length ≤ 4000) : ∀ w ∈ wordsL s, w.length ≤ 4000 := fun w hw => by have := wordsL_mem s w hw; omega

set_option maxHeartbeats 4000000 in
theorem fun_each (hX : FullV) (hn : 3000010 < n) (hE : ExpAll (n - 5) k) (V : Vs) (a b c : Str) (id m : Nat) (S : Obs) (hV : okV V (k + 1)) (hl : ∀ x ∈ [a, b, c], x.length ≤ 200000)
    (hS : S[id]? = some (.cells [.int .i64 m])) (hm : m ≤ 2000) :
    ∃ T, F (n + 1) (.f 55) [scopeAV V (20 - k) id, .str [102, 111, 114, 101, 97, 99, 104], .sl 1 ([a, b, c].map .str)] S =
      some ([.str (functionS (expS (lev k)) V m [102, 111, 114, 101, 97, 99, 104] [a, b, c]).1.1, .int .i64 (functionS (expS (lev k)) V m [102, 111, 114, 101, 97, 99, 104] [a, b, c]).1.2], SetN S id (functionS (expS (lev k)) V m [102, 111, 114, 101, 97, 99, 104] [a, b, c]).2 ++ T) := by
  have hlt : id < S.length := (List.getElem?_eq_some_iff.1 hS).1
  obtain ⟨n, rfl⟩ : ∃ z, n = z + 2 := ⟨n - 2, by omega⟩
  obtain ⟨T1, h1⟩ := v81 (n + 1) k (by omega) (hE _ (by omega)) V (okV_pre hV) [a, b] (by simp) (fun t ht => hl t (by simp at ht ⊢; rcases ht with h | h <;> simp [h])) id m
    (SetN S id m ++ [.cells [.sl 3 (V.map varAV), .int .i64 (20 - k : Nat), .box id 0], .cells [.sl 1 ([a, b, c].map .str)]]) (SetN_atA hlt) hm
  rw [SetN_app2 hlt, SetN_same hS] at h1
  have ha := allS_good ((expS_good k).w V) [a, b] m hm
  have hal := allS_lens ((expS_good k).w V) (fun n t h1 h2 => expS_len k V n t h1 h2) [a, b] m hm
  have hnb := noBox_scope V (20 - k) id [.sl 1 ([a, b].map .str)]
  have h83 := fun own w m' S' hw hS' hm' q1 q2 q3 => v83 hX n k (by omega) (hE _ (by omega)) V hV own c [a, b, c] rfl (hl c (by simp)) w hw id S.length (S.length + (T1.length + 1 + 1)) (S.length + 1) m' S' hS' hm' q1 q2 q3
  generalize hd : 20 - k = d at *
  unfold functionS
  rw [if_neg (by decide), if_pos rfl]
  simp only []
  generalize allS (expS (lev k) V) m [a, b] = z at *
  obtain ⟨⟨l, e⟩, m1⟩ := z
  simp only [scopeAV, rowAV, List.map_cons, List.map_nil] at h1 ha hal hnb ⊢
  by_cases he : e = 0
  · subst he
    obtain ⟨hm1, hlen⟩ := ha rfl
    have hal := hal rfl
    match l, hlen, hal with
    | [x, y], _, hal =>
      simp only [if_true]
      have hx : x.length ≤ 4000 := hal x (by simp)
      have hy : y.length ≤ 4000 := hal y (by simp)
      have h80 := cp80 (n + 2) (by omega) x (by omega)
      have key : ∃ T3, F (n + 2) (.f 82) [.str y, .fn 83 [] [.box S.length 0, .box (S.length + (T1.length + 1 + 1)) 0, .box (S.length + 1) 0]]
          (SetN S id m1 ++ (.cells [.sl 3 (V.map varAV), .int .i64 d, .box id 0] :: .cells [.sl 1 [.str a, .str b, .str c]] :: (T1 ++ [.cells [.str (trimB x)]]))) =
          some ([.str (wordsS (eachS (expS (lev k)) V (trimB x) c) m1 y).1.1, .int .i64 (wordsS (eachS (expS (lev k)) V (trimB x) c) m1 y).1.2], SetN S id (wordsS (eachS (expS (lev k)) V (trimB x) c) m1 y).2 ++ T3) := by
        have hlt2 : id < (S ++ (Ob.cells [.sl 3 (V.map varAV), .int .i64 d, .box id 0] :: Ob.cells [.sl 1 [.str a, .str b, .str c]] :: (T1 ++ [Ob.cells [.str (trimB x)]]))).length := by simp; omega
        obtain ⟨T3, h82⟩ := v82 (n + 1) (by omega) y (by omega) (eachS (expS (lev k)) V (trimB x) c) (eachS_good (expS_good k) V _ _) 83 [.box S.length 0, .box (S.length + (T1.length + 1 + 1)) 0, .box (S.length + 1) 0] rfl id m1
          (S ++ (.cells [.sl 3 (V.map varAV), .int .i64 d, .box id 0] :: .cells [.sl 1 [.str a, .str b, .str c]] :: (T1 ++ [.cells [.str (trimB x)]]))) hlt2 hm1
          (fun w hw m' hm' he' => by
            unfold eachS at he' ⊢
            split at he'
            · simp at he'
            · rename_i h0
              rw [if_neg h0]
              have := expS_len k _ (m' + 1) c (by omega) he'
              omega)
          (fun w hw m' T hm' => by
            have hwl := wordsL_str y hy w hw
            have hat : ∀ m'' T' j, (SetN (SetN (S ++ (Ob.cells [.sl 3 (V.map varAV), .int .i64 d, .box id 0] :: Ob.cells [.sl 1 [.str a, .str b, .str c]] :: (T1 ++ [Ob.cells [.str (trimB x)]]))) id m' ++ T) id m'' ++ T')[S.length + j]? =
                (Ob.cells [.sl 3 (V.map varAV), .int .i64 d, .box id 0] :: Ob.cells [.sl 1 [.str a, .str b, .str c]] :: (T1 ++ ([Ob.cells [.str (trimB x)]] ++ (T ++ T'))))[j]? := by
              intro m'' T' j
              rw [SetN_app2 hlt2, SetN_app hlt, List.append_assoc, List.append_assoc, SetN_end]
              simp
            obtain ⟨T4, h5⟩ := h83 (trimB x) w m' (SetN (S ++ (.cells [.sl 3 (V.map varAV), .int .i64 d, .box id 0] :: .cells [.sl 1 [.str a, .str b, .str c]] :: (T1 ++ [.cells [.str (trimB x)]]))) id m' ++ T) (by omega) (SetN_atA hlt2) hm'
              (fun m'' T' => by have := hat m'' T' 0; simpa using this)
              (fun m'' T' => by
                have := hat m'' T' (T1.length + 1 + 1)
                rw [this, List.getElem?_cons_succ, List.getElem?_cons_succ, List.getElem?_append_right (by omega)]
                simp)
              (fun m'' T' => by have := hat m'' T' 1; simpa using this)
            rw [SetN_app2 hlt2] at h5
            exact ⟨T ++ T4, by rw [h5, List.append_assoc]⟩)
        rw [SetN_app hlt] at h82
        exact ⟨(.cells [.sl 3 (V.map varAV), .int .i64 d, .box id 0] :: .cells [.sl 1 [.str a, .str b, .str c]] :: (T1 ++ [.cells [.str (trimB x)]])) ++ T3, by rw [h82, SetN_app hlt, List.append_assoc]⟩
      obtain ⟨T3, h82⟩ := key
      have hnb3 : noBoxL [.str y, .fn 83 [] [.box S.length 0, .box (S.length + (T1.length + 1 + 1)) 0, .box (S.length + 1) 0]] = false := by simp [noBoxL, noBox]
      refine ⟨T3, ?_⟩
      rw [F_fn rfl rfl rfl Tryz.func55 rfl]
      simp at h1
      simp [runFn, Tryz.f55, scopeAV, rowAV, h1, h80, h82, callP_box hnb, callP_box hnb3, zeroCells, -callP_box]
  · have he' : ((e : Int) != 0) = true := by simp; omega
    rw [if_neg he]
    refine ⟨[.cells [.sl 3 (V.map varAV), .int .i64 d, .box id 0], .cells [.sl 1 ([a, b, c].map .str)]] ++ T1, ?_⟩
    rw [F_fn rfl rfl rfl Tryz.func55 rfl]
    simp at h1
    simp [runFn, Tryz.f55, scopeAV, rowAV, h1, callP_box hnb, he', he, -callP_box]

end

end Go.Proofs.YtmcfnnpihlediaaGreatDoor.Ex

/- A function's answer: of call's functions, of a text that is called. -/
namespace Go.Proofs.YtmcfnnpihlediaaGreatDoor.Ex
open Go
attribute [-simp] rgn rgnD exec_seq exec_cond exec_block keepS

section
variable [XX] {n k : Nat}

set_option maxHeartbeats 8000000 in
theorem fun_rest (hX : FullV) (hn : 3000100 < n) (hE : ExpAll (n - 5) k) (V : Vs) (name : Str) (n1 : name ≠ [105, 102]) (n2 : name ≠ [102, 111, 114, 101, 97, 99, 104]) (args : List Str) (hal : args.length ≤ 9) (ha1 : 1 ≤ args.length) (id m : Nat) (S : Obs) (hV : okV V (k + 1)) (hl : ∀ x ∈ args, x.length ≤ 200000)
    (hS : S[id]? = some (.cells [.int .i64 m])) (hm : m ≤ 2000) :
    ∃ T, F (n + 1) (.f 55) [scopeAV V (20 - k) id, .str name, .sl 1 (args.map .str)] S =
      some ([.str (functionS (expS (lev k)) V m name args).1.1, .int .i64 (functionS (expS (lev k)) V m name args).1.2], SetN S id (functionS (expS (lev k)) V m name args).2 ++ T) := by
  have hlt : id < S.length := (List.getElem?_eq_some_iff.1 hS).1
  obtain ⟨n, rfl⟩ : ∃ z, n = z + 2 := ⟨n - 2, by omega⟩
  obtain ⟨T1, h1⟩ := v81 (n + 1) k (by omega) (hE _ (by omega)) V (okV_pre hV) args (by omega) hl id m
    (SetN S id m ++ [.cells [.sl 3 (V.map varAV), .int .i64 (20 - k : Nat), .box id 0], .cells [.sl 1 (args.map .str)]]) (SetN_atA hlt) hm
  rw [SetN_app2 hlt, SetN_same hS] at h1
  have ha := allS_good ((expS_good k).w V) args m hm
  have hle := allS_lens ((expS_good k).w V) (fun n t h1 h2 => expS_len k V n t h1 h2) args m hm
  have hnb := noBox_scope V (20 - k) id [.sl 1 (args.map .str)]
  have hEV := fun V' t m' T hV' h1 h2 => hE (n + 2) (by omega) V' t id m' (SetN S id m' ++ T) hV' h1 (SetN_atA hlt) h2
  have g1 : (name == [105, 102]) = false := by simpa using n1
  have g2 : (name == [102, 111, 114, 101, 97, 99, 104]) = false := by simpa using n2
  generalize hd : 20 - k = d at *
  unfold functionS
  rw [if_neg n1, if_neg n2]
  generalize allS (expS (lev k) V) m args = z at *
  obtain ⟨⟨l, e⟩, m1⟩ := z
  simp only [scopeAV, rowAV] at h1 ha hle hnb ⊢
  by_cases he : e = 0
  · subst he
    obtain ⟨hm1, hlen⟩ := ha rfl
    have hle := hle rfl
    simp only [if_true]
    by_cases hc : name = [99, 97, 108, 108]
    · subst hc
      simp only [if_true]
      match l, hlen, hle with
      | [], hlen, _ => simp at hlen; omega
      | x0 :: r, hlen, hle =>
        have hx : x0.length ≤ 4000 := hle x0 (by simp)
        have htl : (trimB x0).length ≤ x0.length := trimB_len x0
        simp only [List.length_cons] at hlen
        have h80 := cp80 (n + 2) (by omega) x0 (by omega)
        have h15 := v15 (n + 2) V (trimB x0) (by have := hV.2.1; omega) (by have := hV.2.1; omega)
        simp only []
        cases hg : getV V (trimB x0) with
        | none =>
          have e : gotL V (trimB x0) = (([], [], false), false) := by simp [gotL, hg]
          rw [e] at h15
          simp only [CP, varsAV, rowAV, varAV] at h15
          refine ⟨[.cells [.sl 3 (V.map varAV), .int .i64 d, .box id 0], .cells [.sl 1 (args.map .str)]] ++ T1 ++ [.cells [.str [], .str [], .bool false]], ?_⟩
          rw [F_fn rfl rfl rfl Tryz.func55 rfl]
          simp at h1
          simp [runFn, Tryz.f55, scopeAV, rowAV, g1, g2, h1, h80, h15, zeroCells, callP_box hnb, -callP_box]
        | some v =>
          obtain ⟨vn, vt, vs⟩ := v
          have e : gotL V (trimB x0) = ((vn, vt, vs), true) := by simp [gotL, hg]
          rw [e] at h15
          simp only [CP, varsAV, rowAV, varAV] at h15
          have hvt : vt.length ≤ 200000 := hV.2.2 _ (List.mem_of_find?_eq_some hg)
          obtain ⟨T2, h84⟩ := v84 hX n V d id [48] (trimB x0) (SetN S id m1 ++ ([.cells [.sl 3 (V.map varAV), .int .i64 d, .box id 0], .cells [.sl 1 (args.map .str)]] ++ T1 ++ [.cells [.str vn, .str vt, .bool vs]])) hV.1 (by have := hV.2.1; omega)
          rw [List.append_assoc] at h84
          have hnb2 := noBox_scope V d id [.str [48], .str (trimB x0)]
          simp only [scopeAV, rowAV] at h84 hnb2
          have hvsl := setV_len ([48], trimB x0, true) V
          have hord := ordV_set ([48], trimB x0, true) hV.1
          have hmem0 : ∀ y ∈ setV ([48], trimB x0, true) V, y.2.1.length ≤ 200000 := fun y hy => by
            rcases setV_mem _ _ _ hy with rfl | hy
            · simp only; omega
            · exact hV.2.2 y hy
          rw [F_fn rfl rfl rfl Tryz.func55 rfl]
          simp at h1 h84
          have b1 : (1 : Int) ≤ (r.length : Int) + 1 := by omega
          simp [runFn, Tryz.f55, scopeAV, rowAV, g1, g2, h1, h80, h15, h84, b1, zeroCells, callP_box hnb, callP_box hnb2, -callP_box]
          generalize hI : iter _ _ _ = q
          obtain ⟨px, c, rfl, rfl, c1, ⟨T', c2⟩, c16, c18, hok⟩ := iter_cfg (fun x : Nat × Vs => r.length - x.1)
            (fun x c => c.D = [] ∧ (∃ T', c.S = SetN S id m1 ++ (.cells [.sl 3 (V.map varAV), .int .i64 d, .box id 0] :: .cells [.sl 1 (args.map .str)] :: (T1 ++ .cells [.str vn, .str vt, .bool vs] :: (T2 ++ .cells [.sl 3 (x.2.map varAV), .int .i64 d, .box id 0] :: T')))) ∧
              c.pf 16 = .box (S.length + (T1.length + 1 + 1)) 0 ∧ c.pf 18 = .box (S.length + (T1.length + (T2.length + 1) + 1 + 1)) 0 ∧ c.pf 116 = .sl 1 (r.map .str) ∧ c.pf 117 = .int .i64 r.length ∧ c.pf 118 = .int .i64 x.1 ∧
              x.1 ≤ r.length ∧ ordV x.2 = true ∧ x.2.length ≤ V.length + 1 + x.1 ∧ (∀ y ∈ x.2, y.2.1.length ≤ 200000) ∧ setArgs (1 + x.1) (r.drop x.1) x.2 = setArgs 1 r (setV ([48], trimB x0, true) V))
            (fun px c => px = .ex 3 ∧ c.D = [] ∧ (∃ T', c.S = SetN S id m1 ++ (.cells [.sl 3 (V.map varAV), .int .i64 d, .box id 0] :: .cells [.sl 1 (args.map .str)] :: (T1 ++ .cells [.str vn, .str vt, .bool vs] :: (T2 ++ .cells [.sl 3 ((setArgs 1 r (setV ([48], trimB x0, true) V)).map varAV), .int .i64 d, .box id 0] :: T')))) ∧
              c.pf 16 = .box (S.length + (T1.length + 1 + 1)) 0 ∧ c.pf 18 = .box (S.length + (T1.length + (T2.length + 1) + 1 + 1)) 0 ∧ okV (setArgs 1 r (setV ([48], trimB x0, true) V)) k)
            (fun x c hcc => by
              obtain ⟨i, V2⟩ := x
              obtain ⟨pf, S', D'⟩ := c
              obtain ⟨rfl, ⟨T', rfl⟩, p16, p18, p116, p117, p118, hi, ho, hl2, hm2, hinv⟩ := hcc
              simp only at p16 p18 p116 p117 p118 hi ho hl2 hm2 hinv
              by_cases hil : i < r.length
              · left
                have hdr : r.drop i = r[i] :: r.drop (i + 1) := List.drop_eq_getElem_cons hil
                rw [hdr, setArgs] at hinv
                have hri : r[i].length ≤ 4000 := hle r[i] (List.mem_cons_of_mem _ (List.getElem_mem hil))
                obtain ⟨Tn, hw⟩ := v84 hX n V2 d id (decL (i + 1)) r[i] (SetN S id m1 ++ (.cells [.sl 3 (V.map varAV), .int .i64 d, .box id 0] :: .cells [.sl 1 (args.map .str)] :: (T1 ++ .cells [.str vn, .str vt, .bool vs] :: (T2 ++ .cells [.sl 3 (V2.map varAV), .int .i64 d, .box id 0] :: T')))) ho (by have := hV.2.1; omega)
                have hkp := keepS_app (SetN S id m1 ++ (.cells [.sl 3 (V.map varAV), .int .i64 d, .box id 0] :: .cells [.sl 1 (args.map .str)] :: (T1 ++ .cells [.str vn, .str vt, .bool vs] :: (T2 ++ .cells [.sl 3 (V2.map varAV), .int .i64 d, .box id 0] :: T')))) Tn (scopeAV (setV (decL (i + 1), r[i], true) V2) d id)
                have h86 : callP (F (n + 2)) (.f 86) [.int .i64 ((i : Int) + 1)] = some (.str (decL (i + 1))) := by
                  have := cp34 (n + 1) (i + 1) (by unfold lim; omega)
                  exact this
                have w1 : IntKind.wrap .i64 ((i : Int) + 1) = (i : Int) + 1 := wrap64 (by omega) (by omega)
                have hnb5 := noBox_scope V2 d id [.str (decL (i + 1)), .str r[i]]
                simp only [scopeAV, rowAV, List.append_assoc, List.cons_append] at hw hkp hnb5
                have hsl := setV_len (decL (i + 1), r[i], true) V2
                refine ⟨(i + 1, setV (decL (i + 1), r[i], true) V2), ⟨?_, SetN S id m1 ++ (.cells [.sl 3 (V.map varAV), .int .i64 d, .box id 0] :: .cells [.sl 1 (args.map .str)] :: (T1 ++ .cells [.str vn, .str vt, .bool vs] :: (T2 ++ .cells [.sl 3 ((setV (decL (i + 1), r[i], true) V2).map varAV), .int .i64 d, .box id 0] :: (T' ++ Tn)))), []⟩, ?_, by simp only; omega, rfl, ⟨T' ++ Tn, rfl⟩, ?_, ?_, ?_, ?_, ?_, by simp only; omega, ordV_set _ ho, by simp only; omega, fun y hy => ?_, ?_⟩
                case refine_2 => simp [p16, p18, p116, p117, p118, hil, h86, w1, hw, hkp, callP_box hnb5, -callP_box]; rfl
                case refine_9 =>
                  rw [Nat.add_comm 1 i] at hinv
                  simp only
                  rw [Nat.add_comm 1 (i + 1)]
                  exact hinv
                case refine_8 =>
                  rcases setV_mem _ _ _ hy with rfl | hy
                  · simp only; omega
                  · exact hm2 y hy
                all_goals simp [p16, p18, p116, p117, p118]
              · right
                rw [List.drop_of_length_le (by omega), setArgs] at hinv
                have hok2 : okV V2 k := ⟨ho, by have := hV.2.1; omega, hm2⟩
                rw [hinv] at hok2
                refine ⟨.ex 3, ⟨upd pf 119 (.bool false), SetN S id m1 ++ (.cells [.sl 3 (V.map varAV), .int .i64 d, .box id 0] :: .cells [.sl 1 (args.map .str)] :: (T1 ++ .cells [.str vn, .str vt, .bool vs] :: (T2 ++ .cells [.sl 3 (V2.map varAV), .int .i64 d, .box id 0] :: T'))), []⟩, by simp, by simp [p117, p118, hil], rfl, rfl, ⟨T', by rw [hinv]⟩, by simp [p16], by simp [p18], hok2⟩)
            _ (0, setV ([48], trimB x0, true) V) _ _ hI ⟨rfl, ⟨[], by simp⟩, by simp, by simp, (by simp; exact List.take_of_length_le (by simp)), by simp, by simp, by simp, hord, by simp only; omega, hmem0, rfl⟩ (by simp only; omega)
          obtain ⟨pf, S', D'⟩ := c
          simp only at c1 c2 c16 c18
          subst c1 c2
          have hnb6 := noBox_scope (setArgs 1 r (setV ([48], trimB x0, true) V)) d id [.str vt]
          generalize setArgs 1 r (setV ([48], trimB x0, true) V) = V3 at *
          obtain ⟨T3, h23⟩ := hEV V3 vt m1 (.cells [.sl 3 (V.map varAV), .int .i64 d, .box id 0] :: .cells [.sl 1 (args.map .str)] :: (T1 ++ .cells [.str vn, .str vt, .bool vs] :: (T2 ++ .cells [.sl 3 (V3.map varAV), .int .i64 d, .box id 0] :: T'))) hok hvt hm1
          rw [SetN_app2 hlt] at h23
          simp only [scopeAV, rowAV] at h23 hnb6
          generalize expS (lev k) V3 m1 vt = y at *
          refine ⟨(.cells [.sl 3 (V.map varAV), .int .i64 d, .box id 0] :: .cells [.sl 1 (args.map .str)] :: (T1 ++ .cells [.str vn, .str vt, .bool vs] :: (T2 ++ .cells [.sl 3 (V3.map varAV), .int .i64 d, .box id 0] :: T'))) ++ T3, ?_⟩
          simp at h23
          simp [c16, c18, h23, callP_box hnb6, -callP_box]
    · have hc' : (name == [99, 97, 108, 108]) = false := by simpa using hc
      have h85 := a14 (n := n + 2) (by unfold deep; omega) hX.1 name l (fun a ha => by have := hle a ha; omega)
      rw [if_neg hc]
      refine ⟨[.cells [.sl 3 (V.map varAV), .int .i64 d, .box id 0], .cells [.sl 1 (args.map .str)]] ++ T1, ?_⟩
      rw [F_fn rfl rfl rfl Tryz.func55 rfl]
      simp at h1
      simp [runFn, Tryz.f55, scopeAV, rowAV, g1, g2, h1, hc', h85, callP_box hnb, -callP_box]
  · have he' : ((e : Int) != 0) = true := by simp; omega
    rw [if_neg he]
    refine ⟨[.cells [.sl 3 (V.map varAV), .int .i64 d, .box id 0], .cells [.sl 1 (args.map .str)]] ++ T1, ?_⟩
    rw [F_fn rfl rfl rfl Tryz.func55 rfl]
    simp at h1
    simp [runFn, Tryz.f55, scopeAV, rowAV, g1, g2, h1, callP_box hnb, he', he, -callP_box]

end

end Go.Proofs.YtmcfnnpihlediaaGreatDoor.Ex

/- What a reference tells. -/
namespace Go.Proofs.YtmcfnnpihlediaaGreatDoor.Ex
open Go
attribute [-simp] rgn rgnD exec_seq exec_cond exec_block keepS

section
variable [XX] {n k : Nat}

theorem function_of (hX : FullV) (hn : 3000100 < n) (hE : ExpAll (n - 5) k) : FunOK (n + 1) k := by
  intro V name args id m S hV hl h9 hlo hhi h1 hS hm
  by_cases n1 : name = [105, 102]
  · subst n1
    simp only [takesL, if_true] at hlo hhi
    match args, hlo, hhi, hl with
    | a :: b :: r, _, hhi, hl => exact fun_if (by omega) (hE n (by omega)) V a b r (by simp at hhi; omega) id m S hV hl hS hm
    | [a], hlo, _, _ => simp at hlo
    | [], hlo, _, _ => simp at hlo
  · by_cases n2 : name = [102, 111, 114, 101, 97, 99, 104]
    · subst n2
      rw [takesL, if_neg (by decide), if_pos rfl] at hlo hhi
      match args, hlo, hhi, hl with
      | [a, b, c], _, _, hl => exact fun_each hX (by omega) hE V a b c id m S hV hl hS hm
      | [], hlo, _, _ => simp at hlo
      | [a], hlo, _, _ => simp at hlo
      | [a, b], hlo, _, _ => simp at hlo
      | _ :: _ :: _ :: _ :: _, _, hhi, _ => simp at hhi
    · exact fun_rest hX hn hE V name n1 n2 args h9 h1 id m S hV hl hS hm

theorem takesL_le (name : Str) : (takesL name).1 ≤ (takesL name).2 ∧ (takesL name).2 ≤ 9 := by
  have h : manyL name ≤ 3 := by unfold manyL; split; omega; split; omega; split <;> omega
  unfold takesL
  split
  · simp
  · split
    · simp
    · split
      · simp
      · simp only; omega

theorem idxBl_lt : ∀ {s : Str} {i : Nat}, idxBl s = some i → i < s.length
  | [], i, h => by cases h
  | c :: r, i, h => by
    simp only [idxBl] at h
    split at h
    · injection h with h; subst h; simp
    · simp only [Option.map_eq_some_iff] at h
      obtain ⟨j, hj, rfl⟩ := h
      have := idxBl_lt hj
      simp; omega

def RefOK (n k : Nat) : Prop := ∀ (V : Vs) (c : Str) (id m : Nat) (S : Obs), okV V k → c.length ≤ 200000 → S[id]? = some (.cells [.int .i64 m]) → m ≤ 2000 →
  ∃ T, F n (.f 37) [scopeAV V (20 - k) id, .str c] S = some ([.str (refS (lev k) V m c).1.1, .int .i64 (refS (lev k) V m c).1.2], SetN S id (refS (lev k) V m c).2 ++ T)

set_option maxHeartbeats 8000000 in
theorem refer_of (hk : k ≤ 20) (hn : 3000100 < n) (hF : ∀ j, k = j + 1 → FunOK n j) (hT : ∀ j, k = j + 1 → TurnOK n j) (hE : ∀ j, k = j + 1 → ExpOK n j) (hW : ∀ j, k = j + 1 → ValOK n j) : RefOK (n + 1) k := by
  intro V c id m S hV hcl hS hm
  have hlt : id < S.length := (List.getElem?_eq_some_iff.1 hS).1
  obtain ⟨n, rfl⟩ : ∃ q, n = q + 2 := ⟨n - 2, by omega⟩
  have hS2 : (S ++ [.cells [rowAV V, .int .i64 (20 - k : Nat), .box id 0]])[id]? = some (.cells [.int .i64 m]) := by rw [List.getElem?_append_left hlt]; exact hS
  obtain ⟨T1, d', h50, hd'⟩ := v50 n V (20 - k) id m (S ++ [.cells [rowAV V, .int .i64 (20 - k : Nat), .box id 0]]) hS2 (by omega) (by omega)
  rw [SetN_app hlt] at h50
  have hnb1 := noBox_scope V (20 - k) id []
  simp only [scopeAV, rowAV] at h50 hnb1
  unfold refS
  cases k with
  | zero =>
    simp only [lev]
    have e : inS (20 - 0) m = (15, m) := by simp [inS]
    rw [e] at h50
    have hnb3 : noBoxL [.agg [.sl 3 (V.map varAV), .int .i64 20, .box id 0]] = false := by simp [noBoxL, noBox]
    refine ⟨[.cells [.sl 3 (V.map varAV), .int .i64 20, .box id 0]] ++ T1 ++ [.cells [.sl 3 (V.map varAV), .int .i64 d', .box id 0]], ?_⟩
    rw [F_fn rfl rfl rfl Tryz.func37 rfl]
    simp at h50
    simp [runFn, Tryz.f37, scopeAV, rowAV, zeroCells, h50, callP_box hnb3, -callP_box]
  | succ k =>
    simp only [lev_succ]
    have hd20 : ¬ 20 ≤ 20 - (k + 1) := by omega
    by_cases hb : 2000 < m + 1
    · have e : inS (20 - (k + 1)) m = (12, m + 1) := by simp only [inS, if_neg hd20, if_pos hb]
      rw [e] at h50
      rw [if_pos hb]
      refine ⟨[.cells [.sl 3 (V.map varAV), .int .i64 (20 - (k + 1) : Nat), .box id 0]] ++ T1 ++ [.cells [.sl 3 (V.map varAV), .int .i64 d', .box id 0]], ?_⟩
      rw [F_fn rfl rfl rfl Tryz.func37 rfl]
      generalize 20 - (k + 1) = d at *
      simp at h50
      simp [runFn, Tryz.f37, scopeAV, rowAV, zeroCells, h50, callP_box hnb1, -callP_box]
    · have e : inS (20 - (k + 1)) m = (0, m + 1) := by simp only [inS, if_neg hd20, if_neg hb]
      rw [e] at h50
      rw [if_neg hb]
      have hd2 := hd' (by rw [e])
      subst hd2
      have hee : 20 - (k + 1) + 1 = 20 - k := by omega
      rw [hee] at h50
      have hV' : okV V k := okV_le hV (by omega)
      have hm1 : m + 1 ≤ 2000 := by omega
      have hFV := fun name args l h1 h2 h3 h4 h5 => hF k rfl V name args id (m + 1) (SetN S id (m + 1) ++ l) hV h1 h2 h3 h4 h5 (SetN_atA hlt) hm1
      have hTV := fun a p q l h1 h2 h3 => hT k rfl V a p q id (m + 1) (SetN S id (m + 1) ++ l) hV' h1 h2 h3 (SetN_atA hlt) hm1
      have hEV := fun l => hE k rfl V c id (m + 1) (SetN S id (m + 1) ++ l) hV' hcl (SetN_atA hlt) hm1
      have hWV := fun name m1 l h1 => hW k rfl V name id m1 (SetN S id m1 ++ l) hV' (SetN_atA hlt) h1
      have hg := expS_good k V (m + 1) c hm1
      have h51 := h64 (n + 1) c (by unfold big; omega)
      have h56 : ∀ t g, t.length ≤ 200000 → callP (F (n + 2)) (.f 56) [.str t, .sl 1 [.str g]] = some (.tup [.str (cutS t [g]).1, .str (cutS t [g]).2.1, .str (cutS t [g]).2.2]) := fun t g ht => v56 (n + 1) t [g] (by omega) (by simp) (by omega)
      have k1 := h56 c [58] hcl
      have cl1 := cutS_len c [[58]]
      have k2 := h56 (cutS c [[58]]).2.2 [61] (by omega)
      have cl2 := cutS_len (cutS c [[58]]).2.2 [[61]]
      have hnbA := fun l => noBox_scope V (20 - k) id l
      generalize hdd : 20 - (k + 1) = d0 at *
      generalize hd : 20 - k = d at *
      simp only [CP] at h51
      simp only [scopeAV, rowAV] at hnbA
      generalize hL : ([.cells [.sl 3 (V.map varAV), .int .i64 d0, .box id 0]] ++ T1 ++ [.cells [.sl 3 (V.map varAV), .int .i64 d, .box id 0]] : Obs) = L
      -- the first part, where it goes on
      have rest : (decide ((0 : Int) < intOf (idxBl c)) = false ∨ ∃ i, idxBl c = some (i + 1) ∧ (takesL (c.take (i + 1))).2 = 0) →
          ∃ T, F (n + 2 + 1) (.f 37) [.agg [.sl 3 (V.map varAV), .int .i64 d0, .box id 0], .str c] S =
            some ([.str (restS (expS (lev k)) (valS (lev k)) V (m + 1) c).1.1, .int .i64 (restS (expS (lev k)) (valS (lev k)) V (m + 1) c).1.2], SetN S id (restS (expS (lev k)) (valS (lev k)) V (m + 1) c).2 ++ T) := by
        intro hfirst
        have e1 := hnbA
        have hp : ∀ (R : List AV × Obs), (∀ (v52 : Nat × Nat) (v53 : List Str) (i : Nat), (decide ((0 : Int) < intOf (idxBl c)) = false ∨ (idxBl c = some (i + 1) ∧
            callP (F (n + 2)) (.f 52) [.str (c.take (i + 1))] = some (.tup [.int .i64 v52.1, .int .i64 0]) ∧ callP (F (n + 2)) (.f 54) [.str (c.drop (i + 1)), .str [32, 9]] = some (.str ((c.drop (i + 1)).dropWhile isBl)) ∧
            callP (F (n + 2)) (.f 53) [.str ((c.drop (i + 1)).dropWhile isBl), .int .i64 0] = some (.sl 1 (v53.map .str)) ∧ i + 1 ≤ c.length)) →
            F (n + 2 + 1) (.f 37) [.agg [.sl 3 (V.map varAV), .int .i64 d0, .box id 0], .str c] S = some R) →
            F (n + 2 + 1) (.f 37) [.agg [.sl 3 (V.map varAV), .int .i64 d0, .box id 0], .str c] S = some R := by
          intro R h
          rcases hfirst with h0 | ⟨i, hi, h0⟩
          · exact h (0, 0) [] 0 (.inl h0)
          · have hil := idxBl_lt hi
            have a1 := v52 n (c.take (i + 1))
            have a2 := h63 (n + 1) (c.drop (i + 1))
            have a3 := v53 (n + 1) ((c.drop (i + 1)).dropWhile isBl) 0 (by omega) (by have := dropWhile_len (c.drop (i + 1)); simp at this; omega) (by have := dropWhile_len (c.drop (i + 1)); simp at this; omega)
            simp only [CP] at a1 a2 a3
            rw [h0] at a1
            exact h (takesL (c.take (i + 1))) (argsL ((c.drop (i + 1)).dropWhile isBl) 0) i (.inr ⟨hi, a1, a2, a3, by omega⟩)
        unfold restS
        by_cases ht : (cutS c [[58]]).2.1 ≠ [] ∧ (cutS (cutS c [[58]]).2.2 [[61]]).2.1 ≠ []
        · rw [if_pos ht]
          have t1 : List.isEmpty (cutS c [[58]]).2.1 = false := by simpa using ht.1
          have t2 : List.isEmpty (cutS (cutS c [[58]]).2.2 [[61]]).2.1 = false := by simpa using ht.2
          obtain ⟨T3, h57⟩ := hTV (cutS c [[58]]).1 (cutS (cutS c [[58]]).2.2 [[61]]).1 (cutS (cutS c [[58]]).2.2 [[61]]).2.2 L (by omega) (by omega) (by omega)
          rw [SetN_app2 hlt] at h57
          refine ⟨L ++ T3, hp _ fun a b i hf => ?_⟩
          generalize turnedS (expS (lev k)) (valS (lev k)) V (m + 1) (cutS c [[58]]).1 (cutS (cutS c [[58]]).2.2 [[61]]).1 (cutS (cutS c [[58]]).2.2 [[61]]).2.2 = z at *
          rw [F_fn rfl rfl rfl Tryz.func37 rfl]
          subst hL
          simp only [scopeAV, rowAV] at h57
          simp at h50 h57
          rcases hf with hf | ⟨hi, f1, f2, f3, f4⟩
          · simp [runFn, Tryz.f37, zeroCells, h50, h51, hf, k1, k2, t1, t2, h57, callP_box hnb1, callP_box (hnbA _), -callP_box]
          · have g1 : ((i : Int) + 1).toNat = i + 1 := by omega
            have g2 : (0 : Int) ≤ (i : Int) + 1 := by omega
            have g3 : (i : Int) + 1 ≤ (c.length : Int) := by omega
            have g4 : (0 : Int) < (i : Int) + 1 := by omega
            rw [hi] at h51
            simp only [intOf] at h51
            simp [runFn, Tryz.f37, zeroCells, h50, h51, f1, f2, f3, g1, g2, g3, g4, k1, k2, t1, t2, h57, callP_box hnb1, callP_box (hnbA _), -callP_box]
        · rw [if_neg ht]
          have hcond : List.isEmpty (cutS c [[58]]).2.1 = true ∨ (List.isEmpty (cutS c [[58]]).2.1 = false ∧ List.isEmpty (cutS (cutS c [[58]]).2.2 [[61]]).2.1 = true) := by
            by_cases h1 : (cutS c [[58]]).2.1 = []
            · exact .inl (by simp [h1])
            · by_cases h2 : (cutS (cutS c [[58]]).2.2 [[61]]).2.1 = []
              · exact .inr ⟨by simpa using h1, by simp [h2]⟩
              · exact absurd ⟨h1, h2⟩ ht
          obtain ⟨T3, h23⟩ := hEV L
          rw [SetN_app2 hlt] at h23
          generalize expS (lev k) V (m + 1) c = z at *
          obtain ⟨⟨x, e⟩, m2⟩ := z
          simp only [scopeAV, rowAV] at h23 hg ⊢
          by_cases he : e = 0
          · subst he
            have hg := hg rfl
            obtain ⟨T4, h38⟩ := hWV x m2 (L ++ T3) hg.1
            rw [SetN_app2 hlt] at h38
            simp only [if_true]
            generalize valS (lev k) V m2 x = y at *
            refine ⟨L ++ T3 ++ T4, hp _ fun a b i hf => ?_⟩
            rw [F_fn rfl rfl rfl Tryz.func37 rfl]
            subst hL
            simp only [scopeAV, rowAV] at h38
            simp at h50 h23 h38
            rcases hf with hf | ⟨hi, f1, f2, f3, f4⟩
            · rcases hcond with t1 | ⟨t1, t2⟩
              · simp [runFn, Tryz.f37, zeroCells, h50, h51, hf, k1, k2, t1, h23, h38, callP_box hnb1, callP_box (hnbA _), -callP_box]
              · simp [runFn, Tryz.f37, zeroCells, h50, h51, hf, k1, k2, t1, t2, h23, h38, callP_box hnb1, callP_box (hnbA _), -callP_box]
            · have g1 : ((i : Int) + 1).toNat = i + 1 := by omega
              have g2 : (0 : Int) ≤ (i : Int) + 1 := by omega
              have g3 : (i : Int) + 1 ≤ (c.length : Int) := by omega
              have g4 : (0 : Int) < (i : Int) + 1 := by omega
              rw [hi] at h51
              simp only [intOf] at h51
              rcases hcond with t1 | ⟨t1, t2⟩
              · simp [runFn, Tryz.f37, zeroCells, h50, h51, f1, f2, f3, g1, g2, g3, g4, k1, k2, t1, h23, h38, callP_box hnb1, callP_box (hnbA _), -callP_box]
              · simp [runFn, Tryz.f37, zeroCells, h50, h51, f1, f2, f3, g1, g2, g3, g4, k1, k2, t1, t2, h23, h38, callP_box hnb1, callP_box (hnbA _), -callP_box]
          · have he' : ((e : Int) != 0) = true := by simp; omega
            rw [if_neg he]
            refine ⟨L ++ T3, hp _ fun a b i hf => ?_⟩
            rw [F_fn rfl rfl rfl Tryz.func37 rfl]
            subst hL
            simp at h50 h23
            rcases hf with hf | ⟨hi, f1, f2, f3, f4⟩
            · rcases hcond with t1 | ⟨t1, t2⟩
              · simp [runFn, Tryz.f37, zeroCells, h50, h51, hf, k1, k2, t1, h23, he', callP_box hnb1, callP_box (hnbA _), -callP_box]
              · simp [runFn, Tryz.f37, zeroCells, h50, h51, hf, k1, k2, t1, t2, h23, he', callP_box hnb1, callP_box (hnbA _), -callP_box]
            · have g1 : ((i : Int) + 1).toNat = i + 1 := by omega
              have g2 : (0 : Int) ≤ (i : Int) + 1 := by omega
              have g3 : (i : Int) + 1 ≤ (c.length : Int) := by omega
              have g4 : (0 : Int) < (i : Int) + 1 := by omega
              rw [hi] at h51
              simp only [intOf] at h51
              rcases hcond with t1 | ⟨t1, t2⟩
              · simp [runFn, Tryz.f37, zeroCells, h50, h51, f1, f2, f3, g1, g2, g3, g4, k1, k2, t1, h23, he', callP_box hnb1, callP_box (hnbA _), -callP_box]
              · simp [runFn, Tryz.f37, zeroCells, h50, h51, f1, f2, f3, g1, g2, g3, g4, k1, k2, t1, t2, h23, he', callP_box hnb1, callP_box (hnbA _), -callP_box]
      unfold bodyS
      simp only [scopeAV, rowAV]
      cases hix : idxBl c with
      | none => exact rest (.inl (by rw [hix]; decide))
      | some i =>
        cases i with
        | zero => exact rest (.inl (by rw [hix]; decide))
        | succ i =>
          simp only []
          by_cases hz : (takesL (c.take (i + 1))).2 = 0
          · rw [if_pos hz]; exact rest (.inr ⟨i, hix, hz⟩)
          · rw [if_neg hz]
            have hil := idxBl_lt hix
            have htk := takesL_le (c.take (i + 1))
            have hdw := dropWhile_len (c.drop (i + 1))
            simp only [List.length_drop] at hdw
            have a1 := v52 n (c.take (i + 1))
            have a2 := h63 (n + 1) (c.drop (i + 1))
            have a3 := v53 (n + 1) ((c.drop (i + 1)).dropWhile isBl) (takesL (c.take (i + 1))).2 (by omega) (by omega) (by omega)
            have hag := argsGo_len ((takesL (c.take (i + 1))).2 - 1) ((c.drop (i + 1)).dropWhile isBl)
            change (argsL _ _).length ≤ _ ∧ 1 ≤ (argsL _ _).length ∧ ∀ a ∈ argsL _ _, _ at hag
            simp only [CP] at a1 a2 a3
            have g1 : ((i : Int) + 1).toNat = i + 1 := by omega
            have g2 : (0 : Int) ≤ (i : Int) + 1 := by omega
            have g3 : (i : Int) + 1 ≤ (c.length : Int) := by omega
            have g4 : (0 : Int) < (i : Int) + 1 := by omega
            rw [hix] at h51
            simp only [intOf] at h51
            generalize argsL ((c.drop (i + 1)).dropWhile isBl) (takesL (c.take (i + 1))).2 = args at *
            have z1 : (((takesL (c.take (i + 1))).2 : Int) == 0) = false := by simp; omega
            by_cases hls : args.length < (takesL (c.take (i + 1))).1
            · rw [if_pos hls]
              refine ⟨L, ?_⟩
              rw [F_fn rfl rfl rfl Tryz.func37 rfl]
              subst hL
              simp at h50
              simp [runFn, Tryz.f37, zeroCells, h50, h51, a1, a2, a3, g1, g2, g3, g4, z1, hls, callP_box hnb1, callP_box (hnbA _), -callP_box]
            · rw [if_neg hls]
              obtain ⟨T3, h55⟩ := hFV (c.take (i + 1)) args L (fun a ha => by have := hag.2.2 a ha; omega) (by omega) (by omega) (by omega) hag.2.1
              rw [SetN_app2 hlt] at h55
              generalize functionS (expS (lev k)) V (m + 1) (c.take (i + 1)) args = z at *
              refine ⟨L ++ T3, ?_⟩
              rw [F_fn rfl rfl rfl Tryz.func37 rfl]
              subst hL
              simp only [scopeAV, rowAV] at h55
              simp at h50 h55
              simp [runFn, Tryz.f37, zeroCells, h50, h51, a1, a2, a3, g1, g2, g3, g4, z1, hls, h55, callP_box hnb1, callP_box (hnbA _), -callP_box]

end

end Go.Proofs.YtmcfnnpihlediaaGreatDoor.Ex

/- Expanding, in plain Lean: step by step. -/
namespace Go.Proofs.YtmcfnnpihlediaaGreatDoor.Ex
open Go

theorem exT_fuel (ref val : Nat → Str → Ans) : ∀ (f g : Nat) (acc : Str) (n : Nat) (t : Str), t.length < f → t.length < g → exT ref val f acc n t = exT ref val g acc n t
  | 0, _, _, _, _, h, _ => by omega
  | _ + 1, 0, _, _, _, _, h => by omega
  | f + 1, g + 1, acc, n, [], _, _ => rfl
  | f + 1, g + 1, acc, n, c :: r, h1, h2 => by
    simp only [List.length_cons] at h1 h2
    cases r with
    | nil =>
      simp only [exT]
      rw [exT_fuel ref val f g (acc ++ [c]) n [] (by simp; omega) (by simp; omega)]
    | cons d r' =>
      simp only [List.length_cons] at h1 h2
      simp only [exT]
      rw [exT_fuel ref val f g (acc ++ [c]) n (d :: r') (by simp; omega) (by simp; omega), exT_fuel ref val f g (acc ++ [36]) n r' (by omega) (by omega)]
      have hd : ∀ i acc n, exT ref val f acc n ((c :: d :: r').drop (i + 1)) = exT ref val g acc n ((c :: d :: r').drop (i + 1)) := fun i acc n =>
        exT_fuel ref val f g acc n _ (by simp; omega) (by simp; omega)
      simp only [hd]
      rw [exT_fuel ref val f g _ _ r' (by omega) (by omega)]

theorem exT_lit (ref val : Nat → Str → Ans) : ∀ (a : Str) (f : Nat) (acc : Str) (n : Nat) (r : Str), 36 ∉ a → exT ref val (f + a.length) acc n (a ++ r) = exT ref val f (acc ++ a) n r
  | [], f, acc, n, r, _ => by simp
  | c :: a, f, acc, n, r, h => by
    have hc : ¬ c = 36 := fun e => h (by simp [e])
    have ha : 36 ∉ a := fun e => h (by simp [e])
    rw [List.length_cons, ← Nat.add_assoc, List.cons_append]
    simp only [exT, if_neg hc]
    rw [exT_lit ref val a f _ n r ha]
    simp

/-- A text's first dollar sign, and what is behind. -/
theorem exT_none (ref val : Nat → Str → Ans) (acc : Str) (n : Nat) (t : Str) (h : 36 ∉ t) : exT ref val (t.length + 1) acc n t = (shortS (acc ++ t), n) := by
  have := exT_lit ref val t 1 acc n [] h
  rw [List.append_nil, Nat.add_comm] at this
  rw [this]; rfl

theorem exT_end (ref val : Nat → Str → Ans) (acc : Str) (n : Nat) (a : Str) (h : 36 ∉ a) : exT ref val ((a ++ [36]).length + 1) acc n (a ++ [36]) = (([], 2), n) := by
  have := exT_lit ref val a 2 acc n [36] h
  rw [show List.length (a ++ [36]) + 1 = 2 + a.length by simp; omega, this]
  rfl

theorem exT_step (ref val : Nat → Str → Ans) (acc : Str) (n : Nat) (a : Str) (c : UInt8) (r : Str) (h : 36 ∉ a) :
    exT ref val ((a ++ 36 :: c :: r).length + 1) acc n (a ++ 36 :: c :: r) =
      if c = 36 then exT ref val (r.length + 1) (acc ++ a ++ [36]) n r
      else if c = 40 ∨ c = 123 then
        match (closeI ((36 :: c :: r).length + 1) [] (36 :: c :: r)).map (fun i => (((36 :: c :: r).take i).drop 2, (36 :: c :: r).drop (i + 1))) with
        | none => (([], 2), n)
        | some (x, r2) =>
          if (ref n x).1.2 = 0 then exT ref val (r2.length + 1) (acc ++ a ++ (ref n x).1.1) (ref n x).2 r2 else (([], (ref n x).1.2), (ref n x).2)
      else if (val n [c]).1.2 = 0 then exT ref val (r.length + 1) (acc ++ a ++ (val n [c]).1.1) (val n [c]).2 r else (([], (val n [c]).1.2), (val n [c]).2) := by
  have := exT_lit ref val a (r.length + 3) acc n (36 :: c :: r) h
  rw [show (a ++ 36 :: c :: r).length + 1 = r.length + 3 + a.length by simp; omega, this]
  simp only [exT, if_true]
  rw [exT_fuel ref val (r.length + 2) (r.length + 1) _ n r (by omega) (by omega), exT_fuel ref val (r.length + 2) (r.length + 1) _ (val n [c]).2 r (by omega) (by omega)]
  simp only [List.length_cons]
  cases closeI (r.length + 1 + 1 + 1) [] (36 :: c :: r) with
  | none => rfl
  | some i =>
    simp only [Option.map_some]
    rw [exT_fuel ref val (r.length + 2) (((36 :: c :: r).drop (i + 1)).length + 1) _ _ _ (by simp; omega) (by omega)]

theorem callL_len (name : Str) (l : List Str) : (callL name l).1.length ≤ 4000 := by
  unfold callL
  split
  · simp
  · split
    · simp
    · split
      · simp
      · split
        · simp
        · simp only; omega

theorem exT_len (ref val : Nat → Str → Ans) : ∀ (f : Nat) (acc : Str) (n : Nat) (t : Str), (exT ref val f acc n t).1.1.length ≤ 4000
  | 0, acc, n, t => by simp [exT]
  | f + 1, acc, n, [] => shortS_len acc
  | f + 1, acc, n, c :: r => by
    simp only [exT]
    split
    · cases r with
      | nil => simp
      | cons d r' =>
        simp only
        split
        · exact exT_len ref val f _ _ _
        · split
          · split
            · simp
            · split
              · exact exT_len ref val f _ _ _
              · simp
          · split
            · exact exT_len ref val f _ _ _
            · simp
    · exact exT_len ref val f _ _ _

theorem expS_len' (L : Option (Exp × Exp)) (V : Vs) (n : Nat) (t : Str) : (expS L V n t).1.1.length ≤ 4000 := exT_len _ _ _ _ _ _

theorem wordsS_len (of : Nat → Str → Ans) (n : Nat) (t : Str) : (wordsS of n t).1.1.length ≤ 4000 := by
  unfold wordsS
  split
  · exact shortS_len _
  · simp

theorem turnedS_len (E W : Exp) (V : Vs) (n : Nat) (a p q : Str) : (turnedS E W V n a p q).1.1.length ≤ 4000 := by
  unfold turnedS
  generalize allS (E V) n [a, p, q] = z
  obtain ⟨⟨l, e⟩, n1⟩ := z
  simp only
  split
  · split
    · rename_i a p' q'
      generalize W V n1 a = y
      obtain ⟨⟨v, e2⟩, n2⟩ := y
      simp only
      split
      · exact wordsS_len _ _ _
      · simp
    · simp
  · simp

theorem functionS_len {E : Exp} (hE : ∀ V n t, (E V n t).1.1.length ≤ 4000) (V : Vs) (n : Nat) (name : Str) (args : List Str) : (functionS E V n name args).1.1.length ≤ 4000 := by
  unfold functionS
  split
  · split
    · rename_i a b r
      generalize E V n a = z
      obtain ⟨⟨x, e⟩, n1⟩ := z
      simp only
      split
      · split
        · split
          · simp
          · exact hE _ _ _
        · exact hE _ _ _
      · simp
    · simp
  · split
    · split
      · rename_i a b c
        generalize allS (E V) n [a, b] = z
        obtain ⟨⟨l, e⟩, n1⟩ := z
        simp only
        split
        · split
          · exact wordsS_len _ _ _
          · simp
        · simp
      · simp
    · generalize allS (E V) n args = z
      obtain ⟨⟨l, e⟩, n1⟩ := z
      simp only
      split
      · split
        · split
          · rename_i x r
            cases getV V (trimB x) with
            | none => simp
            | some v => exact hE _ _ _
          · simp
        · exact callL_len name l
      · simp

theorem valS_len2 (k : Nat) (V : Vs) (n : Nat) (name : Str) (hV : ∀ x ∈ V, x.2.1.length ≤ 200000) : (valS (lev k) V n name).1.1.length ≤ 200000 := by
  unfold valS
  cases hg : getV V name with
  | none => simp
  | some x =>
    simp only
    split
    · exact hV x (List.mem_of_find?_eq_some hg)
    · cases k with
      | zero => simp [lev]
      | succ k =>
        simp only [lev]
        split
        · simp
        · have := expS_len' (lev k) V (n + 1) x.2.1
          omega

theorem refS_len (k : Nat) (V : Vs) (n : Nat) (c : Str) (hV : ∀ x ∈ V, x.2.1.length ≤ 200000) : (refS (lev k) V n c).1.1.length ≤ 200000 := by
  unfold refS
  cases k with
  | zero => simp [lev]
  | succ k =>
    simp only [lev]
    split
    · simp
    · have rest : (restS (expS (lev k)) (valS (lev k)) V (n + 1) c).1.1.length ≤ 200000 := by
        unfold restS
        split
        · have := turnedS_len (expS (lev k)) (valS (lev k)) V (n + 1) (cutS c [[58]]).1 (cutS (cutS c [[58]]).2.2 [[61]]).1 (cutS (cutS c [[58]]).2.2 [[61]]).2.2
          omega
        · split
          · exact valS_len2 k V _ _ hV
          · simp
      unfold bodyS
      split
      · split
        · exact rest
        · split
          · simp
          · have := functionS_len (expS_len' (lev k)) V (n + 1) (c.take (‹Nat› + 1)) (argsL ((c.drop (‹Nat› + 1)).dropWhile isBl) (takesL (c.take (‹Nat› + 1))).2)
            omega
      · exact rest

end Go.Proofs.YtmcfnnpihlediaaGreatDoor.Ex

/- The document's own words: cut, trimmed. -/
namespace Go.Proofs.YtmcfnnpihlediaaGreatDoor.Ex
open Go
attribute [-simp] rgn rgnD exec_seq exec_cond exec_block

theorem byte_eq (c : UInt8) (k : Nat) (hk : k < 256) : ((c.toNat : Int) == (k : Int)) = (c == UInt8.ofNat k) := by
  have e : (UInt8.ofNat k).toNat = k := by simp [UInt8.toNat_ofNat']; omega
  by_cases h : c = UInt8.ofNat k
  · subst h; rw [e]; simp
  · have h1 : (c == UInt8.ofNat k) = false := by simpa using h
    have h2 : ¬ (c.toNat : Int) = (k : Int) := by
      intro h2
      apply h
      apply UInt8.toNat_inj.1
      rw [e]; omega
    rw [h1]; simpa using h2

theorem cp91 [XX] (n : Nat) (c : UInt8) : CP (F (n + 1)) 91 [.int .u8 c.toNat] (.bool (isBl c)) := by
  refine F_cp (rs := [.bool (isBl c)]) (S := []) rfl rfl ?_
  rw [F_fn rfl rfl rfl Tryz.func91 rfl]
  have h1 := byte_eq c 32 (by decide)
  have h2 := byte_eq c 9 (by decide)
  rw [show ((32 : Nat) : Int) = 32 from rfl, show UInt8.ofNat 32 = 32 from rfl] at h1
  rw [show ((9 : Nat) : Int) = 9 from rfl, show UInt8.ofNat 9 = 9 from rfl] at h2
  unfold isBl
  rw [← h1, ← h2]
  cases g1 : ((c.toNat : Int) == 32) <;> cases g2 : ((c.toNat : Int) == 9) <;> simp [runFn, Tryz.f91, g1, g2]

def wI (s : Str) (x : Nat × List Str × Str) (pf : PF) : Prop :=
  pf 0 = .str s ∧ pf 3 = .sl 1 (x.2.1.map .str) ∧ pf 4 = .str x.2.2 ∧ pf 5 = .int .i64 x.1 ∧ x.1 ≤ s.length ∧ x.2.1.length ≤ x.1 ∧ x.2.2.length ≤ x.1 ∧ x.2.1 ++ wordsGo (s.drop x.1) x.2.2 = wordsL s

set_option maxHeartbeats 4000000 in
theorem cp53 [XX] (n : Nat) (s : Str) (hs : s.length ≤ 2000000) (hn : s.length + 1 < n) : CP (F (n + 1)) 59 [.str s] (.sl 1 ((wordsL s).map .str)) := by
  refine F_cp (rs := [.sl 1 ((wordsL s).map .str)]) (S := []) rfl (by simp [noBoxL, noBox]) ?_
  rw [F_fn rfl rfl rfl Tryz.func59 rfl]
  simp [runFn, Tryz.f59]
  generalize hI : iter _ _ _ = r
  obtain ⟨x, pf', rfl, hx, out, cur, p3, p4, hl, hfin⟩ := iter_gen (fun x : Nat × List Str × Str => s.length - x.1) (wI s)
    (fun x pf => x = .ex 0 ∧ ∃ (out : List Str) (cur : Str), pf 3 = .sl 1 (out.map .str) ∧ pf 4 = .str cur ∧ out.length ≤ s.length ∧ out ++ wordsGo [] cur = wordsL s)
    (fun x pf h => by
      obtain ⟨i, out, cur⟩ := x
      obtain ⟨p0, p3, p4, p5, hi, ho, hc, hw⟩ := h
      simp only at p3 p4 p5 hi ho hc hw
      by_cases hlt : i < s.length
      · left
        have hd : s.drop i = s[i] :: s.drop (i + 1) := List.drop_eq_getElem_cons hlt
        rw [hd] at hw
        have hg : s[i]? = some s[i] := List.getElem?_eq_getElem hlt
        generalize hcc : s[i] = c at *
        have h91 : callP (F n) (.f 91) [.int .u8 c.toNat] = some (.bool (isBl c)) := by
          obtain ⟨m, rfl⟩ : ∃ m, n = m + 1 := ⟨n - 1, by omega⟩
          exact cp91 m c
        have hmeas : s.length - (i + 1) < s.length - i := by omega
        have hb : (out.length + 1) * 16 ≤ 140737488355328 := by omega
        have hwi := w64 (i := i) (by omega)
        have hi1 : i + 1 ≤ s.length := hlt
        cases hbl : isBl c with
        | true =>
          rw [hbl] at h91
          simp only [wordsGo, hbl, if_true] at hw
          by_cases he : cur = []
          · subst he
            rw [if_pos rfl] at hw
            have ho1 : out.length ≤ i + 1 := by omega
            refine ⟨(i + 1, out, []), ?_⟩
            simp [p0, p3, p4, p5, hlt, hg, hcc, h91, hwi, hmeas, wI, hi1, ho1, hw]
          · rw [if_neg he] at hw
            have he' : (cur == []) = false := by simpa using he
            have ho1 : out.length + 1 ≤ i + 1 := by omega
            have hw2 : (out ++ [cur]) ++ wordsGo (s.drop (i + 1)) [] = wordsL s := by simpa using hw
            refine ⟨(i + 1, out ++ [cur], []), ?_⟩
            simp [p0, p3, p4, p5, hlt, hg, hcc, h91, hwi, hmeas, wI, hi1, ho1, he', hb]
            simpa using hw2
        | false =>
          rw [hbl] at h91
          simp only [wordsGo, hbl, if_false, Bool.false_eq_true] at hw
          obtain ⟨q, hq⟩ : ∃ q : Int, (i : Int) + 1 = q := ⟨_, rfl⟩
          have wq : IntKind.wrap .i64 q = q := wrap64 (by omega) (by omega)
          have hqn : q.toNat = i + 1 := by omega
          have hq1 : q ≤ (s.length : Int) := by omega
          have hq0 : (0 : Int) ≤ q := by omega
          have hqi : (i : Int) ≤ q := by omega
          have ht : (s.drop i).take 1 = [c] := by rw [hd]; rfl
          have hcl : cur.length + 1 ≤ 9223372036854775807 := by omega
          have hmin : cur.length + min 1 (s.length - i) ≤ 9223372036854775807 := by omega
          have hc1 : cur.length ≤ i := hc
          have ho1 : out.length ≤ i + 1 := by omega
          refine ⟨(i + 1, out, cur ++ [c]), ?_⟩
          simp [p0, p3, p4, p5, hlt, hg, hcc, h91, hq, wq, hqn, hq1, hq0, hqi, hmeas, wI, hi1, ho1, hc1, ht, hcl, hmin, hw]
      · right
        have hz : s.drop i = [] := List.drop_of_length_le (by omega)
        rw [hz] at hw
        have hnl : s.length ≤ i := by omega
        refine ⟨.ex 0, ?_⟩
        simp [p0, p3, p4, p5, hlt, hnl]
        exact ⟨out, rfl, by omega, hw⟩) n (0, [], []) _ r hI (by simp [wI, wordsL]) (by simp; omega)
  subst hx
  simp only [wordsGo] at hfin
  have hb : (out.length + 1) * 16 ≤ 140737488355328 := by omega
  by_cases he : cur = []
  · subst he
    rw [if_pos rfl, List.append_nil] at hfin
    simp [p3, p4, hfin]
  · rw [if_neg he] at hfin
    have he' : (cur == []) = false := by simpa using he
    simp [p3, p4, he', hb, ← hfin]

end Go.Proofs.YtmcfnnpihlediaaGreatDoor.Ex

/- What a text expands to. -/
namespace Go.Proofs.YtmcfnnpihlediaaGreatDoor.Ex
open Go
attribute [-simp] rgn rgnD exec_seq exec_cond exec_block keepS

theorem idxOf_some' {c : UInt8} : ∀ {s : Str} {i : Nat}, idxOf c s = some i → s = s.take i ++ c :: s.drop (i + 1) ∧ c ∉ s.take i
  | [], i, h => by cases h
  | d :: r, i, h => by
    simp only [idxOf] at h
    split at h
    · rename_i hd
      injection h with h; subst h
      simp only [beq_iff_eq] at hd
      subst hd
      simp
    · rename_i hd
      simp only [Option.map_eq_some_iff] at h
      obtain ⟨j, hj, rfl⟩ := h
      obtain ⟨h1, h2⟩ := idxOf_some' hj
      simp only [beq_iff_eq] at hd
      refine ⟨by simp only [List.take_succ_cons, List.cons_append, List.drop_succ_cons]; rw [← h1], ?_⟩
      simp only [List.take_succ_cons, List.mem_cons, not_or]
      exact ⟨fun e => hd e.symm, h2⟩
theorem idxOf_none' {c : UInt8} : ∀ {s : Str}, idxOf c s = none → c ∉ s
  | [], _ => by simp
  | d :: r, h => by
    simp only [idxOf] at h
    split at h
    · cases h
    · rename_i hd
      simp only [Option.map_eq_none_iff] at h
      simp only [beq_iff_eq] at hd
      simp only [List.mem_cons, not_or]
      exact ⟨fun e => hd e.symm, idxOf_none' h⟩

section
variable [XX] {n k : Nat}

theorem F33 (avs : List AV) (S : Obs) : F (n + 1) (.f 33) avs S = gWrite avs S := rfl
theorem F35 (avs : List AV) (S : Obs) : F (n + 1) (.f 35) avs S = gString avs S := rfl

theorem cut36_some (n : Nat) {s : Str} {i : Nat} (hs : s.length ≤ big) (h : idxOf 36 s = some i) : callP (F (n + 1)) (.f 32) [.str s, .str [36]] = some (.tup [.str (s.take i), .str (s.drop (i + 1)), .bool true]) :=
  F_ext (g := gCut) (rs := [.str (s.take i), .str (s.drop (i + 1)), .bool true]) rfl rfl rfl (by
    have hs' : ¬ big < s.length := by omega
    simp only [gCut, hs', if_false, h])
theorem cut36_none (n : Nat) {s : Str} (hs : s.length ≤ big) (h : idxOf 36 s = none) : callP (F (n + 1)) (.f 32) [.str s, .str [36]] = some (.tup [.str s, .str [], .bool false]) :=
  F_ext (g := gCut) (rs := [.str s, .str [], .bool false]) rfl rfl rfl (by
    have hs' : ¬ big < s.length := by omega
    simp only [gCut, hs', if_false, h])


/-- The state of a text's expanding. -/
def exSt (S : Obs) (id : Nat) (V : Vs) (d : Nat) (m : Nat) (acc : Str) (T : Obs) : Obs :=
  SetN S id m ++ (.cells [.sl 3 (V.map varAV), .int .i64 d, .box id 0] :: .bld 77 5 acc :: T)

theorem write_at (n : Nat) (S : Obs) (id : Nat) (V : Vs) (d m : Nat) (acc t : Str) (T : Obs) (h : acc.length + t.length ≤ 140737488355328) :
    F (n + 1) (.f 33) [.box (S.length + 1) 0, .str t] (SetN S id m ++ (.cells [.sl 3 (V.map varAV), .int .i64 d, .box id 0] :: .bld 77 5 acc :: T)) =
      some ([.int .i64 t.length, .err false], SetN S id m ++ (.cells [.sl 3 (V.map varAV), .int .i64 d, .box id 0] :: .bld 77 5 (acc ++ t) :: T)) := by
  rw [F33]
  simp [gWrite, h]

theorem string_at (n : Nat) (S : Obs) (id : Nat) (V : Vs) (d m : Nat) (acc : Str) (T : Obs) :
    F (n + 1) (.f 35) [.box (S.length + 1) 0] (SetN S id m ++ (.cells [.sl 3 (V.map varAV), .int .i64 d, .box id 0] :: .bld 77 5 acc :: T)) =
      some ([.str acc], SetN S id m ++ (.cells [.sl 3 (V.map varAV), .int .i64 d, .box id 0] :: .gone :: T)) := by
  rw [F35]
  simp [gString]

set_option maxHeartbeats 8000000 in
theorem expand_of (hn : 3000100 < n) (hR : RefOK n k) (hW : ValOK n k) : ExpOK (n + 1) k := by
  intro V t id m S hV hcl hS hm
  have hlt : id < S.length := (List.getElem?_eq_some_iff.1 hS).1
  obtain ⟨n, rfl⟩ : ∃ q, n = q + 2 := ⟨n - 2, by omega⟩
  have hRV := fun c m' T h1 h2 => hR V c id m' (SetN S id m' ++ T) hV h1 (SetN_atA hlt) h2
  have hWV := fun c m' T h2 => hW V c id m' (SetN S id m' ++ T) hV (SetN_atA hlt) h2
  have hRg := refS_good (lev_good k) V
  have hWg := valS_good (lev_good k) V
  have hRl := fun n c => refS_len k V n c hV.2.2
  have hWl := fun n c => valS_len2 k V n c hV.2.2
  have hnbA := fun l => noBox_scope V (20 - k) id l
  unfold expS
  generalize hd : 20 - k = d at *
  simp only [scopeAV, rowAV] at hRV hWV hnbA ⊢
  generalize hz : exT (refS (lev k) V) (valS (lev k) V) (t.length + 1) [] m t = z
  rw [F_fn rfl rfl rfl Tryz.func23 rfl]
  simp [runFn, Tryz.f23]
  generalize hI : iter _ _ _ = q
  obtain ⟨px, c, rfl, rfl, c1, ⟨T', c2⟩, c4, c5⟩ := iter_cfg (fun x : Str × Nat × Str => x.2.2.length)
    (fun x c => c.D = [] ∧ (∃ T, c.S = SetN S id x.2.1 ++ (.cells [.sl 3 (V.map varAV), .int .i64 d, .box id 0] :: .bld 77 5 x.1 :: T)) ∧ c.pf 1 = .str x.2.2 ∧ c.pf 2 = .box S.length 0 ∧ c.pf 6 = .box (S.length + 1) 0 ∧
      x.2.1 ≤ 2000 ∧ x.2.2.length ≤ 200000 ∧ x.1.length + 200001 * x.2.2.length ≤ 200001 * 200000 ∧ z = exT (refS (lev k) V) (valS (lev k) V) (x.2.2.length + 1) x.1 x.2.1 x.2.2)
    (fun px c => px = .ret ∧ c.D = [] ∧ (∃ T, c.S = SetN S id z.2 ++ T) ∧ c.pf 4 = .str z.1.1 ∧ c.pf 5 = .int .i64 z.1.2)
    (fun x c hc => by
      obtain ⟨acc, m', r⟩ := x
      obtain ⟨pf, S', D'⟩ := c
      obtain ⟨rfl, ⟨T, rfl⟩, p1, p2, p6, hm', hr, hacc, hinv⟩ := hc
      simp only at p1 p2 p6 hm' hr hacc hinv
      have hb1 : ∀ y : Str, noBoxL [.box (S.length + 1) 0, .str y] = false := fun _ => rfl
      have hb2 : noBoxL [.box (S.length + 1) 0] = false := rfl
      cases hx : idxOf 36 r with
      | none =>
        right
        have h32 := cut36_none (n + 1) (by unfold big; omega) hx
        have hno := idxOf_none' hx
        rw [exT_none _ _ _ _ _ hno] at hinv
        have h33 := write_at (n + 1) S id V d m' acc r T (by omega)
        have h35 := string_at (n + 1) S id V d m' (acc ++ r) T
        have h34 := v34 (n + 1) (acc ++ r)
        simp only [CP] at h34
        refine ⟨.ret, ?_⟩
        simp [p1, p2, p6, h32, h33, h35, h34, callP_box (hb1 _), callP_box hb2, hinv, -callP_box]
      | some i =>
        have h32 := cut36_some (n + 1) (by unfold big; omega) hx
        obtain ⟨hr1, hna⟩ := idxOf_some' hx
        generalize r.take i = a at *
        generalize r.drop (i + 1) = b at *
        subst hr1
        simp only [List.length_append, List.length_cons] at hr hacc
        have h33 := write_at (n + 1) S id V d m' acc a T (by omega)
        cases b with
        | nil =>
          right
          rw [exT_end _ _ _ _ _ hna] at hinv
          refine ⟨.ret, ?_⟩
          simp [p1, p2, p6, h32, h33, callP_box (hb1 _), hinv, -callP_box]
        | cons c b =>
          simp only [List.length_cons] at hr hacc
          have h1b : (1 : Int) ≤ (b.length : Int) + 1 := by omega
          rw [exT_step _ _ _ _ _ _ _ hna] at hinv
          have hc36 := byte_eq c 36 (by decide)
          have hc40 := byte_eq c 40 (by decide)
          have hc123 := byte_eq c 123 (by decide)
          simp only [show ((36 : Nat) : Int) = 36 from rfl, show UInt8.ofNat 36 = 36 from rfl, show ((40 : Nat) : Int) = 40 from rfl, show UInt8.ofNat 40 = 40 from rfl, show ((123 : Nat) : Int) = 123 from rfl, show UInt8.ofNat 123 = 123 from rfl] at hc36 hc40 hc123
          by_cases q1 : c = 36
          · left
            rw [if_pos q1] at hinv
            have q1' : (c == 36) = true := by simpa using q1
            rw [q1'] at hc36
            have h33b := write_at (n + 1) S id V d m' (acc ++ a) [36] T (by simp; omega)
            refine ⟨(acc ++ a ++ [36], m', b), ⟨?_, SetN S id m' ++ (.cells [.sl 3 (V.map varAV), .int .i64 d, .box id 0] :: .bld 77 5 (acc ++ a ++ [36]) :: T), []⟩, ?_, by simp only [List.length_append, List.length_cons]; omega, rfl, ⟨T, rfl⟩, ?_, ?_, ?_, hm', by simp only; omega, by simp; omega, hinv⟩
            case refine_2 =>
              simp only [List.append_assoc] at h33b ⊢
              simp [p1, p2, p6, h1b, h32, h33, h33b, hc36, callP_box (hb1 _), -callP_box]; rfl
            all_goals simp [p1, p2, p6]
          · rw [if_neg q1] at hinv
            have q1' : (c == 36) = false := by simpa using q1
            rw [q1'] at hc36
            by_cases q2 : c = 40 ∨ c = 123
            · rw [if_pos q2] at hinv
              have hin := v36 (n + 1) (36 :: c :: b) (by simp; omega) (by simp; omega)
              have hz1 : b.length + 1 + 1 ≤ 9223372036854775807 := by omega
              have hz2 : 1 + (b.length + 1) ≤ 9223372036854775807 := by omega
              simp only [CP] at hin
              have hop : ((c.toNat : Int) == 40) = true ∨ (((c.toNat : Int) == 40) = false ∧ ((c.toNat : Int) == 123) = true) := by
                rcases q2 with q2 | q2
                · left; rw [hc40]; simpa using q2
                · right; rw [hc40, hc123, q2]; simp
              change z = (match innerS (36 :: c :: b) with | none => _ | some (x, r2) => _) at hinv
              cases hs2 : innerS (36 :: c :: b) with
              | none =>
                right
                rw [hs2] at hinv hin
                simp only [Option.getD_none, Option.isSome_none] at hin
                refine ⟨.ret, ?_⟩
                rcases hop with o1 | ⟨o1, o2⟩
                · simp [p1, p2, p6, h32, h33, hc36, o1, hz1, hz2, hin, callP_box (hb1 _), hinv, -callP_box]
                · simp [p1, p2, p6, h32, h33, hc36, o1, o2, hz1, hz2, hin, callP_box (hb1 _), hinv, -callP_box]
              | some y =>
                obtain ⟨x, r2⟩ := y
                rw [hs2] at hinv hin
                simp only [Option.getD_some, Option.isSome_some] at hinv hin
                have hxl : x.length ≤ b.length ∧ r2.length ≤ b.length := by
                  unfold innerS at hs2
                  simp only [Option.map_eq_some_iff] at hs2
                  obtain ⟨j, hj, he⟩ := hs2
                  injection he with e1 e2
                  rw [← e1, ← e2]
                  have hj1 : 1 ≤ j := by
                    rcases Nat.eq_zero_or_pos j with h0 | h0
                    · subst h0
                      exfalso
                      have ho : (opens (36 :: c :: b)).isSome = true := by
                        rcases q2 with rfl | rfl <;> rfl
                      obtain ⟨dd, hdd⟩ := Option.isSome_iff_exists.1 ho
                      simp only [closeI, hdd, Option.map_eq_some_iff] at hj
                      obtain ⟨jj, _, hjj⟩ := hj
                      omega
                    · exact h0
                  simp; omega
                obtain ⟨T2, h37⟩ := hRV x m' (.cells [.sl 3 (V.map varAV), .int .i64 d, .box id 0] :: .bld 77 5 (acc ++ a) :: T) (by omega) hm'
                rw [SetN_app2 hlt] at h37
                have hg := hRg m' x hm'
                have hl := hRl m' x
                have hnb5 := hnbA [.str x]
                generalize refS (lev k) V m' x = w at *
                obtain ⟨⟨wt, we⟩, wm⟩ := w
                simp only at hinv h37 hg hl
                by_cases he : we = 0
                · subst he
                  left
                  rw [if_pos rfl] at hinv
                  have hg := hg rfl
                  have h33b := write_at (n + 1) S id V d wm (acc ++ a) wt (T ++ T2) (by simp; omega)
                  rcases hop with o1 | ⟨o1, o2⟩
                  · refine ⟨(acc ++ a ++ wt, wm, r2), ⟨?_, SetN S id wm ++ (.cells [.sl 3 (V.map varAV), .int .i64 d, .box id 0] :: .bld 77 5 (acc ++ a ++ wt) :: (T ++ T2)), []⟩, ?_, by simp only [List.length_append, List.length_cons]; omega, rfl, ⟨_, rfl⟩, ?_, ?_, ?_, hg, by simp only; omega, by simp; omega, hinv⟩
                    case refine_2 =>
                      simp only [List.append_assoc, List.cons_append] at h33b h37 ⊢
                      simp [p1, p2, p6, h32, h33, h33b, hc36, o1, hz1, hz2, hin, h37, callP_box (hb1 _), callP_box hnb5, -callP_box]; rfl
                    all_goals simp [p1, p2, p6]
                  · refine ⟨(acc ++ a ++ wt, wm, r2), ⟨?_, SetN S id wm ++ (.cells [.sl 3 (V.map varAV), .int .i64 d, .box id 0] :: .bld 77 5 (acc ++ a ++ wt) :: (T ++ T2)), []⟩, ?_, by simp only [List.length_append, List.length_cons]; omega, rfl, ⟨_, rfl⟩, ?_, ?_, ?_, hg, by simp only; omega, by simp; omega, hinv⟩
                    case refine_2 =>
                      simp only [List.append_assoc, List.cons_append] at h33b h37 ⊢
                      simp [p1, p2, p6, h32, h33, h33b, hc36, o1, o2, hz1, hz2, hin, h37, callP_box (hb1 _), callP_box hnb5, -callP_box]; rfl
                    all_goals simp [p1, p2, p6]
                · right
                  rw [if_neg he] at hinv
                  have he' : ((we : Int) != 0) = true := by simp; omega
                  refine ⟨.ret, ?_⟩
                  simp only [List.append_assoc, List.cons_append] at h37
                  rcases hop with o1 | ⟨o1, o2⟩
                  · simp [p1, p2, p6, h32, h33, hc36, o1, hz1, hz2, hin, h37, he', callP_box (hb1 _), callP_box hnb5, hinv, -callP_box]
                  · simp [p1, p2, p6, h32, h33, hc36, o1, o2, hz1, hz2, hin, h37, he', callP_box (hb1 _), callP_box hnb5, hinv, -callP_box]
            · rw [if_neg q2] at hinv
              have o1 : ((c.toNat : Int) == 40) = false := by rw [hc40]; simpa using fun e => q2 (.inl e)
              have o2 : ((c.toNat : Int) == 123) = false := by rw [hc123]; simpa using fun e => q2 (.inr e)
              obtain ⟨T2, h38⟩ := hWV [c] m' (.cells [.sl 3 (V.map varAV), .int .i64 d, .box id 0] :: .bld 77 5 (acc ++ a) :: T) hm'
              rw [SetN_app2 hlt] at h38
              have hg := hWg m' [c] hm'
              have hl := hWl m' [c]
              have hnb5 := hnbA [.str [c]]
              generalize valS (lev k) V m' [c] = w at *
              obtain ⟨⟨wt, we⟩, wm⟩ := w
              simp only at hinv h38 hg hl
              by_cases he : we = 0
              · subst he
                left
                rw [if_pos rfl] at hinv
                have hg := hg rfl
                have h33b := write_at (n + 1) S id V d wm (acc ++ a) wt (T ++ T2) (by simp; omega)
                refine ⟨(acc ++ a ++ wt, wm, b), ⟨?_, SetN S id wm ++ (.cells [.sl 3 (V.map varAV), .int .i64 d, .box id 0] :: .bld 77 5 (acc ++ a ++ wt) :: (T ++ T2)), []⟩, ?_, by simp only [List.length_append, List.length_cons]; omega, rfl, ⟨_, rfl⟩, ?_, ?_, ?_, hg, by simp only; omega, by simp; omega, hinv⟩
                case refine_2 =>
                  simp only [List.append_assoc, List.cons_append] at h33b h38 ⊢
                  simp [p1, p2, p6, h32, h33, h33b, hc36, o1, o2, h1b, h38, callP_box (hb1 _), callP_box hnb5, -callP_box]; rfl
                all_goals simp [p1, p2, p6]
              · right
                rw [if_neg he] at hinv
                have he' : ((we : Int) != 0) = true := by simp; omega
                refine ⟨.ret, ?_⟩
                simp only [List.append_assoc, List.cons_append] at h38
                simp [p1, p2, p6, h32, h33, hc36, o1, o2, h1b, h38, he', callP_box (hb1 _), callP_box hnb5, hinv, -callP_box])
    _ ([], m, t) _ _ hI (by simp [SetN_same hS, hz, hm, hcl]; omega) (by simp only; omega)
  refine ⟨T', ?_⟩
  simp [c1, c2, c4, c5]

end

end Go.Proofs.YtmcfnnpihlediaaGreatDoor.Ex

/- What a text expands to, from without. -/
namespace Go.Proofs.YtmcfnnpihlediaaGreatDoor.Ex
open Go
attribute [-simp] rgn rgnD exec_seq exec_cond exec_block keepS

section
variable [XX]

theorem exp_all (hX : FullV) : ∀ k, k ≤ 20 → ∀ n, 3000200 + 20 * k ≤ n → ExpOK n k ∧ ValOK n k := by
  intro k
  induction k with
  | zero =>
    intro _ n hn
    have hv : ∀ m, 3000150 ≤ m → ValOK m 0 := fun m hm => by
      obtain ⟨q, rfl⟩ : ∃ q, m = q + 1 := ⟨m - 1, by omega⟩
      exact val_of q 0 (by omega) (by omega) (fun j hj => by omega)
    refine ⟨?_, hv n (by omega)⟩
    obtain ⟨q, rfl⟩ : ∃ q, n = q + 2 := ⟨n - 2, by omega⟩
    exact expand_of (by omega) (refer_of (by omega) (by omega) (fun j hj => by omega) (fun j hj => by omega) (fun j hj => by omega) (fun j hj => by omega)) (hv (q + 1) (by omega))
  | succ k ih =>
    intro hk n hn
    have ih := ih (by omega)
    have hv : ∀ m, 3000200 + 20 * k + 1 ≤ m → ValOK m (k + 1) := fun m hm => by
      obtain ⟨q, rfl⟩ : ∃ q, m = q + 1 := ⟨m - 1, by omega⟩
      exact val_of q (k + 1) (by omega) (by omega) (fun j hj => by
        have : j = k := by omega
        subst this
        exact (ih q (by omega)).1)
    refine ⟨?_, hv n (by omega)⟩
    obtain ⟨q, rfl⟩ : ∃ q, n = q + 4 := ⟨n - 4, by omega⟩
    have hR : RefOK (q + 3) (k + 1) := by
      refine refer_of (n := q + 2) (by omega) (by omega) (fun j hj => ?_) (fun j hj => ?_) (fun j hj => ?_) (fun j hj => ?_)
      all_goals
        have : j = k := by omega
        subst this
      · exact function_of (n := q + 1) hX (by omega) fun z hz => (ih z (by omega)).1
      · exact turned_of (q + 1) j (by omega) (ih _ (by omega)).1 (ih _ (by omega)).2
      · exact (ih _ (by omega)).1
      · exact (ih _ (by omega)).2
    exact expand_of (by omega) hR (hv (q + 3) (by omega))

set_option maxHeartbeats 1000000 in
theorem v13 (hX : FullV) (n : Nat) (hn : 3000700 ≤ n) (V : Vs) (t : Str) (hV : okV V 20) (ht : t.length ≤ 200000) : CP (F (n + 1)) 13 [varsAV V, .str t] (.tup [.str (expandS V t).1, .int .i64 (expandS V t).2]) := by
  obtain ⟨T, h⟩ := (exp_all hX 20 (by omega) n (by omega)).1 V t 1 0 [.cells [.sl 3 (V.map varAV)], .cells [.int .i64 0]] hV ht rfl (by omega)
  have hnb : noBoxL [.agg [.sl 3 (V.map varAV), .int .i64 0, .box 1 0], .str t] = false := by simp [noBoxL, noBox]
  unfold expandS
  generalize expS (lev 20) V 0 t = z at *
  simp only [scopeAV, rowAV] at h
  have hnv := noBoxL_vars V
  refine F_cp (rs := [.str z.1.1, .int .i64 z.1.2]) (S := SetN [.cells [.sl 3 (V.map varAV)], .cells [.int .i64 0]] 1 z.2 ++ T) (by simp only [noBoxL, noBox, varsAV, noBox_row, Bool.and_self]) rfl ?_
  rw [F_fn rfl rfl rfl Tryz.func13 rfl]
  simp at h
  simp [runFn, Tryz.f13, varsAV, rowAV, zeroCells, h, callP_box hnb, -callP_box]

theorem v18 (hX : FullV) (n : Nat) (hn : 3000702 ≤ n) (V : Vs) (t : Str) (hV : okV V 20) (ht : t.length ≤ 200000) : CP (F n) 18 [varsAV V, .str t] (.str (expandS V t).1) := by
  obtain ⟨n, rfl⟩ : ∃ q, n = q + 2 := ⟨n - 2, by omega⟩
  have h := v13 hX n (by omega) V t hV ht
  have hnv := noBoxL_vars V
  simp only [CP, varsAV, rowAV] at h
  refine F_cp (rs := [.str (expandS V t).1]) (S := [.cells [.sl 3 (V.map varAV)]]) (by simp only [noBoxL, noBox, varsAV, noBox_row, Bool.and_self]) rfl ?_
  rw [F_fn rfl rfl rfl Tryz.func18 rfl]
  simp [runFn, Tryz.f18, varsAV, rowAV, h]

end

/-! ### The examples -/
theorem shown_plain :
    let V := rowsS [([97], [120, 32, 36, 40, 98, 41], false), ([98], [121], true), ([115], [112, 46, 99, 32, 113, 46, 99], true), ([102], [36, 40, 50, 41, 36, 40, 49, 41], false)]
    (expandS V [36, 40, 97, 41, 32, 36, 98, 36, 36]).1 = [120, 32, 121, 32, 121, 36] ∧
    (expandS V [36,40,115,58,46,99,61,46,111,41,32,36,40,102,111,114,101,97,99,104,32,105,44,36,40,115,41,44,60,36,40,105,41,62,41]).1 = [112,46,111,32,113,46,111,32,60,112,46,99,62,32,60,113,46,99,62] ∧
    (expandS V [36,40,99,97,108,108,32,102,44,97,44,98,41]).1 = [98, 97] ∧ (expandS V [36,40,105,102,32,44,120,44,121,41]).1 = [121] := by
  decide +kernel

end Go.Proofs.YtmcfnnpihlediaaGreatDoor.Ex

/- Where a name stands, or would stand. -/
namespace Go.Proofs.YtmcfnnpihlediaaGreatDoor.Ex
open Go
attribute [-simp] rgn rgnD exec_seq exec_cond exec_block keepS

/-- How many stand ahead of the name; is it there? -/
def lbV (n : Str) : Vs → Nat
  | [] => 0
  | y :: r => if n = y.1 then 0 else if Op.bytesLess n y.1 then 0 else lbV n r + 1
def fdV (n : Str) : Vs → Bool
  | [] => false
  | y :: r => if n = y.1 then true else if Op.bytesLess n y.1 then false else fdV n r

theorem lbV_le (n : Str) : ∀ V : Vs, lbV n V ≤ V.length
  | [] => Nat.le_refl _
  | y :: r => by
    simp only [lbV]
    have := lbV_le n r
    split
    · simp
    · split
      · simp
      · simp; omega

theorem fdV_lt (n : Str) : ∀ V : Vs, fdV n V = true → lbV n V < V.length
  | [], h => by cases h
  | y :: r, h => by
    simp only [fdV, lbV] at h ⊢
    split at h
    · rename_i e; simp [e]
    · rename_i e
      split at h
      · cases h
      · rename_i e2
        rw [if_neg e, if_neg e2]
        have := fdV_lt n r h
        simp; omega

theorem setV_eq (x : VL) : ∀ V : Vs, setV x V = V.take (lbV x.1 V) ++ [x] ++ V.drop (lbV x.1 V + if fdV x.1 V then 1 else 0)
  | [] => by simp [setV, lbV, fdV]
  | y :: r => by
    simp only [setV, lbV, fdV]
    by_cases h1 : x.1 = y.1
    · simp [h1]
    · by_cases h2 : Op.bytesLess x.1 y.1 = true
      · simp [h1, h2]
      · simp only [h1, h2, if_false]
        rw [setV_eq x r]
        have : lbV x.1 r + 1 + (if fdV x.1 r then 1 else 0) = (lbV x.1 r + if fdV x.1 r then 1 else 0) + 1 := by omega
        simp [this]

theorem ordV_all : ∀ {y : VL} {r : Vs}, ordV (y :: r) = true → ∀ z ∈ r, Op.bytesLess y.1 z.1 = true
  | y, [], _, z, hz => by cases hz
  | y, x :: r, h, z, hz => by
    have h' := h
    simp only [ordV, Bool.and_eq_true] at h
    rcases List.mem_cons.1 hz with rfl | hz
    · exact h.1
    · exact less_trans h.1 (ordV_all h.2 z hz)

theorem lbV_below (n : Str) : ∀ {V : Vs}, ordV V = true → ∀ j (hj : j < V.length), Op.bytesLess V[j].1 n = decide (j < lbV n V)
  | [], _, j, hj => by simp at hj
  | y :: r, ho, j, hj => by
    have he : lbV n (y :: r) = if n = y.1 then 0 else if Op.bytesLess n y.1 then 0 else lbV n r + 1 := rfl
    generalize lbV n (y :: r) = L at he
    by_cases h1 : n = y.1
    · subst h1
      rw [if_pos rfl] at he
      subst he
      simp only [Nat.not_lt_zero, decide_false]
      cases j with
      | zero => exact less_irrefl _
      | succ j =>
        have hj' : j < r.length := by simpa using hj
        cases hb : Op.bytesLess (y :: r)[j + 1].1 y.1 with
        | false => rfl
        | true =>
          have h2 := ordV_all ho r[j] (List.getElem_mem hj')
          have h3 := less_trans h2 hb
          rw [less_irrefl] at h3; cases h3
    · rw [if_neg h1] at he
      by_cases h2 : Op.bytesLess n y.1 = true
      · rw [if_pos h2] at he
        subst he
        simp only [Nat.not_lt_zero, decide_false]
        cases hb : Op.bytesLess (y :: r)[j].1 n with
        | false => rfl
        | true =>
          cases j with
          | zero =>
            have h3 := less_trans h2 hb
            rw [less_irrefl] at h3; cases h3
          | succ j =>
            have hj' : j < r.length := by simpa using hj
            have h4 := ordV_all ho r[j] (List.getElem_mem hj')
            have h3 := less_trans (less_trans h2 h4) hb
            rw [less_irrefl] at h3; cases h3
      · rw [if_neg h2] at he
        subst he
        cases j with
        | zero =>
          have : Op.bytesLess y.1 n = true := less_tri n y.1 h1 (by simpa using h2)
          simpa using this
        | succ j =>
          have := lbV_below n (ordV_tail ho) j (by simpa using hj)
          simp only [List.getElem_cons_succ, this, Nat.add_lt_add_iff_right]

theorem fdV_at (n : Str) : ∀ {V : Vs}, ordV V = true → fdV n V = (match V[lbV n V]? with | some y => y.1 == n | none => false)
  | [], _ => rfl
  | y :: r, ho => by
    simp only [lbV, fdV]
    by_cases h1 : n = y.1
    · simp [h1]
    · by_cases h2 : Op.bytesLess n y.1 = true
      · have : (y.1 == n) = false := by simpa using fun e : y.1 = n => h1 e.symm
        simp [h1, h2, this]
      · simp only [h1, h2, if_false]
        rw [fdV_at n (ordV_tail ho)]
        simp

def cmpS (a b : Str) : Int := if Op.bytesLess a b = true then -1 else if a = b then 0 else 1

section
variable [XX]

theorem v66 (n : Nat) (s : Str) : CP (F (n + 1)) 66 [.str s] (.bool false) := by
  refine F_cp (rs := [.bool false]) (S := []) rfl rfl ?_
  rw [F_fn rfl rfl rfl Tryz.func66 rfl]
  simp [runFn, Tryz.f66]

theorem v44 (n : Nat) (a b : Str) : CP (F (n + 2)) 44 [.str a, .str b] (.int .i64 (cmpS a b)) := by
  have c1 := fun s => v66 n s
  simp only [CP] at c1
  refine F_cp (rs := [.int .i64 (cmpS a b)]) (S := []) rfl rfl ?_
  rw [F_fn rfl rfl rfl Tryz.func44 rfl]
  unfold cmpS
  by_cases h1 : Op.bytesLess a b = true
  · simp [runFn, Tryz.f44, c1, h1]
  · have h1' : Op.bytesLess a b = false := by simpa using h1
    by_cases h2 : a = b
    · subst h2
      simp [runFn, Tryz.f44, c1, h1']
    · have h2' : (a == b) = false := by simpa using h2
      simp [runFn, Tryz.f44, c1, h1', h2, h2']

theorem v43 (n : Nat) (y : VL) (b : Str) : CP (F (n + 3)) 43 [varAV y, .str b] (.int .i64 (cmpS y.1 b)) := by
  have c1 := v44 n y.1 b
  simp only [CP] at c1
  refine F_cp (rs := [.int .i64 (cmpS y.1 b)]) (S := [.cells [.str y.1, .str y.2.1, .bool y.2.2]]) rfl rfl ?_
  rw [F_fn rfl rfl rfl Tryz.func43 rfl]
  simp [runFn, Tryz.f43, c1, varAV]

def bsI (V : Vs) (nm : Str) (x : Nat × Nat) (pf : PF) : Prop :=
  pf 0 = rowAV V ∧ pf 1 = .str nm ∧ pf 2 = .fn 43 [] [] ∧ pf 8 = .int .i64 V.length ∧ pf 9 = .int .i64 x.1 ∧ pf 10 = .int .i64 x.2 ∧ x.1 ≤ lbV nm V ∧ lbV nm V ≤ x.2 ∧ x.2 ≤ V.length

def bsQ (V : Vs) (nm : Str) (x : PX) (pf : PF) : Prop :=
  x = .ex 0 ∧ pf 0 = rowAV V ∧ pf 1 = .str nm ∧ pf 2 = .fn 43 [] [] ∧ pf 8 = .int .i64 V.length ∧ pf 9 = .int .i64 (lbV nm V)

theorem cmpS_lt (a b : Str) : decide (cmpS a b < 0) = Op.bytesLess a b := by
  unfold cmpS
  split
  · rename_i h; rw [h]; rfl
  · rename_i h
    have h' : Op.bytesLess a b = false := by simpa using h
    rw [h']
    split <;> rfl
theorem cmpS_eq (a b : Str) : (cmpS a b == 0) = (a == b) := by
  unfold cmpS
  split
  · rename_i h
    have : ¬ a = b := fun e => by subst e; rw [less_irrefl] at h; cases h
    have h' : (a == b) = false := by simpa using this
    rw [h']; rfl
  · split
    · rename_i h; subst h; simp
    · rename_i h
      have h' : (a == b) = false := by simpa using h
      rw [h']; rfl

theorem map_at (V : Vs) (i : Nat) (h : i < V.length) : (V.map varAV)[i]? = some (varAV V[i]) := by
  rw [List.getElem?_map, List.getElem?_eq_getElem h]; rfl

set_option maxHeartbeats 4000000 in
theorem v42 (n : Nat) (V : Vs) (nm : Str) (ho : ordV V = true) (hl : V.length ≤ 1000000) (hn : V.length + 5 < n) :
    CP (F (n + 1)) 42 [rowAV V, .str nm, .fn 43 [] []] (.tup [.int .i64 (lbV nm V), .bool (fdV nm V)]) := by
  refine F_cp (rs := [.int .i64 (lbV nm V), .bool (fdV nm V)]) (S := []) (by simp only [noBoxL, noBox, noBox_row, Bool.and_self]) rfl ?_
  have c1 : ∀ y : VL, callP (F n) (.f 43) [varAV y, .str nm] = some (.int .i64 (cmpS y.1 nm)) := fun y => by
    obtain ⟨m, rfl⟩ : ∃ m, n = m + 3 := ⟨n - 3, by omega⟩
    exact v43 m y nm
  have hle := lbV_le nm V
  simp only [varAV] at c1
  rw [F_fn rfl rfl rfl Tryz.func42 rfl]
  simp [runFn, Tryz.f42, rowAV]
  generalize hI : iter _ _ _ = r
  obtain ⟨x, pf', rfl, hx⟩ := iter_gen (fun x : Nat × Nat => x.2 - x.1) (bsI V nm) (bsQ V nm)
    (fun x pf h => by
      obtain ⟨i, j⟩ := x
      obtain ⟨p0, p1, p2, p8, p9, p10, hi, hj, hjl⟩ := h
      simp only at p9 p10 hi hj hjl
      rw [rowAV] at p0
      by_cases hlt : i < j
      · left
        obtain ⟨h, hh⟩ : ∃ h, h = (i + j) / 2 := ⟨_, rfl⟩
        have hm : h < V.length := by omega
        have hb := lbV_below nm ho _ hm
        have hcl := cmpS_lt V[h].1 nm
        have hat : V[h]? = some V[h] := List.getElem?_eq_getElem hm
        have w1 : IntKind.wrap .i64 ((i : Int) + j) = (i : Int) + j := wrap64 (by omega) (by omega)
        have w2 : IntKind.wrap .u64 ((i : Int) + j) = (i : Int) + j := by rw [IntKind.wrap_u64]; omega
        have w4 : ((i : Int) + j).fdiv (2 ^ min 1 IntKind.u64.bits) = (h : Int) := by
          have : (2 : Int) ^ min 1 IntKind.u64.bits = 2 := rfl
          rw [this, Int.fdiv_eq_ediv_of_nonneg _ (by omega), hh]
          omega
        have w5 : IntKind.wrap .i64 (h : Int) = h := wrap64 (by omega) (by omega)
        have w3 : IntKind.wrap .i64 ((h : Int) + 1) = (h : Int) + 1 := wrap64 (by omega) (by omega)
        by_cases hk : h < lbV nm V
        · rw [hb, decide_eq_true hk] at hcl
          refine ⟨(h + 1, j), _, by simp [p0, p1, p2, p8, p9, p10, hlt, w1, w2, w3, w4, w5, c1, hcl, hat, varAV]; rfl, by simp only; omega, ?_⟩
          simp [bsI, p0, p1, p2, p8, p10, rowAV]; omega
        · rw [hb, decide_eq_false hk] at hcl
          refine ⟨(i, h), _, by simp [p0, p1, p2, p8, p9, p10, hlt, w1, w2, w3, w4, w5, c1, hcl, hat, varAV]; rfl, by simp only; omega, ?_⟩
          simp [bsI, p0, p1, p2, p8, p9, rowAV]; omega
      · right
        refine ⟨.ex 0, _, by simp, by simp [p0, p1, p2, p8, p9, p10, hlt]; rfl, ?_⟩
        have : i = lbV nm V := by omega
        simp [bsQ, p0, p1, p2, p8, p9, rowAV]; omega)
    n (0, V.length) _ r hI (by simp [bsI, rowAV, hle]) (by simp; omega)
  obtain ⟨rfl, p0, p1, p2, p8, p9⟩ := hx
  rw [rowAV] at p0
  have hfd := fdV_at nm ho
  by_cases hlt : lbV nm V < V.length
  · have hat : V[lbV nm V]? = some V[lbV nm V] := List.getElem?_eq_getElem hlt
    rw [hat] at hfd
    simp only at hfd
    have hce := cmpS_eq V[lbV nm V].1 nm
    rw [← hfd] at hce
    simp [p0, p1, p2, p8, p9, hlt, hat, c1, hce, varAV]
  · rw [List.getElem?_eq_none (by omega)] at hfd
    simp only at hfd
    simp [p0, p1, p2, p8, p9, hlt, hfd]

theorem v28 (n : Nat) (V : Vs) (nm : Str) (ho : ordV V = true) (hl : V.length ≤ 1000000) (hn : V.length + 5 < n) :
    CP (F (n + 2)) 28 [varsAV V, .str nm] (.tup [.int .i64 (lbV nm V), .bool (fdV nm V)]) := by
  have c1 := v42 n V nm ho hl hn
  simp only [CP, rowAV] at c1
  refine F_cp (rs := [.int .i64 (lbV nm V), .bool (fdV nm V)]) (S := [.cells [rowAV V]]) (by simp only [noBoxL, noBox, varsAV, noBox_row, Bool.and_self]) rfl ?_
  rw [F_fn rfl rfl rfl Tryz.func28 rfl]
  simp [runFn, Tryz.f28, c1, varsAV, rowAV]

end
end Go.Proofs.YtmcfnnpihlediaaGreatDoor.Ex

/- Rows of variables on the machine: what is copied, and put in. -/
namespace Go.Proofs.YtmcfnnpihlediaaGreatDoor.Ex
open Go Go.RowKit Go.Shelf

theorem info36 : (Tryz.prog.info? 36).map (fun i => (i.zero, i.size, i.bytes)) = some (some (.agg #[.string ⟨#[]⟩, .string ⟨#[]⟩, .bool false]), 3, 40) := by kernel_rfl

/-- Elements of more cells are copied. -/
theorem run_copy_rows {P : Program} (w : World) (dT sT ty elem : TypeId) (size : Nat) (g o dLen dCap : Nat) (a : Addr) (sLen sCap : Nat) (cur : Array Value) (t : TypeId) (cs : List Value) (k : Nat)
    (hu : P.underlying dT = some (.slice elem)) (hs : (P.info? elem).map (·.size) = some size)
    (hg : w.heap[g]? = some (.cells cur t (0, 0))) (hk : k = Nat.min sLen dLen) (hn : cs.length = k * size)
    (hsrc : ∀ j v, cs[j]? = some v → w.cell? (a.add j) = some v) (hfit : o + cs.length ≤ cur.size) (h1 : ∀ v ∈ cs, v.oneCell' = true) :
    (Builtin.copy_ #[dT, sT] ty #[.slice (some ⟨g, o, none⟩) dLen dCap, .slice (some a) sLen sCap]).run P w =
      .ok (goInt k) (w.setRow g (cur.toList.take o ++ cs ++ cur.toList.drop (o + cs.length)).toArray) := by
  have hl := run_loadCells_list (P := P) w a cs hsrc
  have hst := run_storeCells_at P g o t cs 0 cur w hg (by simpa using hfit) h1
  cases hq : P.info? elem with
  | none => simp [hq] at hs
  | some i =>
    have hi : i.size = size := by simpa [hq] using hs
    simp [Builtin.copy_, run_underlying hu, Builtin.lenOf, Builtin.firstCells, sizeOf, typeInfo, hq, hi, ← hk, ← hn, hl, hst]

theorem below_grown {B : Nat} {w w' : World} {r : Option Nat} (h : w.grownBy w' r) (hB : B ≤ w.heap.size) (hr : ∀ k, r = some k → B ≤ k) : Below B w w' :=
  ⟨h.os, h.tape, h.output, h.size, fun k hk => h.block k (by omega) (fun e => by have := hr k e.symm; omega)⟩

set_option maxHeartbeats 2000000 in
set_option maxRecDepth 100000 in
theorem clone_some (a : Addr) (n c : Nat) (xs : List Value) (w : World) (hl : xs.length = n * 3) (h1 : ∀ u ∈ xs, u.oneCell' = true) (hn : n ≤ 1000000) (hx : ∀ j u, xs[j]? = some u → w.cell? (a.add j) = some u) :
    Calls Tryz.prog 27 #[.slice (some a) n c] w fun e w' => ∃ v', e = .returned v' ∧ w'.ownsRow w.heap.size 36 3 v' n xs ∧ Below w.heap.size w w' := by
  obtain ⟨i0, hi, hz0, hz1, hz2⟩ := info_parts info36
  have hown : (w.alloc (.cells #[] 36)).ownsRow w.heap.size 36 3 (.slice (some ⟨w.heap.size, 0, none⟩) 0 0) 0 [] := World.ownsRow_made w #[] 0 (Nat.le_refl _) (Nat.zero_le _) rfl
  have hrun := fun ty => run_append_own (P := Tryz.prog) (w.alloc (.cells #[] 36)) w.heap.size 22 ty 36 i0 _ 3 40 Tryz.underlying22 hi hz0 hz1 hz2 rfl (by omega) _ 0 [] hown a n c xs hl
    (fun j u hj => by rw [cell_same (w := w) (Lib.alloc_old w _ _ (cell_lt (hx j u hj)))]; exact hx j u hj) h1 (by unfold maxLen; omega) (by omega) (by simp)
  have heq := fun w => run_eql_slice_nil (P := Tryz.prog) w 22 36 (some a) n c Tryz.underlying22
  go_enter Tryz.func27, Tryz.ntmps27
  obtain ⟨v', w', hr, ho, hg, _⟩ := hrun 22
  go_wp2_with (first | (at_builtin; refine wpList_app_run rfl _ _ 22 22 rfl _ _ rfl rfl hr ?_) | (simp only [heq, Option.isNone]))
  go_ret
  simp only [Nat.zero_add, List.nil_append] at ho
  refine ⟨v', rfl, ho, ((Below.refl _ w).alloc (Nat.le_refl _) _).trans (below_grown hg (by simp) fun k hk => ?_)⟩
  simp [Value.ownBlock] at hk
  omega

theorem clone_none (w : World) : Calls Tryz.prog 27 #[.slice none 0 0] w fun e w' => e = .returned (.slice none 0 0) ∧ w' = w := by
  have heq := fun w => run_eql_slice_nil (P := Tryz.prog) w 22 36 none 0 0 Tryz.underlying22
  go_enter Tryz.func27, Tryz.ntmps27
  go_wp2_with (simp only [heq, Option.isNone])
  go_ret
  exact ⟨rfl, rfl⟩

end Go.Proofs.YtmcfnnpihlediaaGreatDoor.Ex

/- A variable is put in a row. -/
namespace Go.Proofs.YtmcfnnpihlediaaGreatDoor.Ex
open Go Go.RowKit Go.Shelf

set_option maxHeartbeats 4000000 in
set_option maxRecDepth 100000 in
theorem ins_end (v : Value) (n : Nat) (xs : List Value) (vb base : Nat) (vs : List Value) (w : World) (hown : w.ownsRow base 36 3 v n xs) (hbase : base ≤ w.heap.size)
    (hvs : ∀ j u, vs[j]? = some u → w.cell? ⟨vb, j, none⟩ = some u) (hvl : vs.length = 3) (h1v : ∀ u ∈ vs, u.oneCell' = true) (hn : n ≤ 1000000) :
    Calls Tryz.prog 29 #[v, .int .i64 n, .slice (some ⟨vb, 0, none⟩) 1 1] w fun e w' => ∃ v', e = .returned v' ∧ w'.ownsRow base 36 3 v' (n + 1) (xs ++ vs) ∧ Below base w w' := by
  obtain ⟨i0, hi, hz0, hz1, hz2⟩ := info_parts info36
  obtain ⟨v', w', hr, ho, hg, _⟩ := run_append_own (P := Tryz.prog) w base 22 22 36 i0 _ 3 40 Tryz.underlying22 hi hz0 hz1 hz2 rfl (by omega) _ n xs hown ⟨vb, 0, none⟩ 1 1 vs (by omega)
    (fun j u hj => by rw [add_plain]; exact hvs j u hj) h1v (by unfold maxLen; omega) (by omega) hbase
  have hlt := hown.lt
  rcases hown.2 with ⟨rfl, rfl⟩ | ⟨g, cap, cur, rfl, hb, hgh, hnc, hcm, hcs, htk⟩
  · go_enter Tryz.func29, Tryz.ntmps29
    go_wp2_with (at_builtin; refine wpList_app_run rfl _ _ 22 22 rfl _ _ rfl rfl hr ?_)
    go_ret
    exact ⟨v', rfl, ho, below_grown hg hbase fun k hk => (hlt k hk).1⟩
  · have hcm' : cap ≤ 9223372036854775807 := by unfold maxLen at hcm; omega
    go_enter Tryz.func29, Tryz.ntmps29
    go_wp2_with (at_builtin; refine wpList_app_run rfl _ _ 22 22 rfl _ _ rfl rfl hr ?_)
    all_goals
      go_ret
      exact ⟨v', rfl, ho, below_grown hg hbase fun k hk => (hlt k hk).1⟩

theorem drop3 (xs : List Value) (i n : Nat) (h : xs.length = n * 3) : (xs.drop (i * 3)).length = (n - i) * 3 := by rw [List.length_drop, h]; omega

set_option maxHeartbeats 4000000 in
set_option maxRecDepth 100000 in
theorem ins_shift (g n cap i : Nat) (cur : Array Value) (xs : List Value) (vb : Nat) (vs : List Value) (w : World) (hg : w.heap[g]? = some (.cells cur 36 (0, 0))) (hxl : xs.length = n * 3) (hcm : cap ≤ maxLen)
    (hcs : cur.size = cap * 3) (htk : cur.toList.take (n * 3) = xs) (hi : i < n) (hroom : n + 1 ≤ cap) (hvb : vb ≠ g) (h1x : ∀ u ∈ xs, u.oneCell' = true)
    (hv : w.heap[vb]? = some (.cells vs.toArray 36 (0, 0))) (hvl : vs.length = 3) (h1v : ∀ u ∈ vs, u.oneCell' = true) (hn : n ≤ 1000000) :
    Calls Tryz.prog 29 #[.slice (some ⟨g, 0, none⟩) n cap, .int .i64 i, .slice (some ⟨vb, 0, none⟩) 1 1] w fun e w' => ∃ cur', e = .returned (.slice (some ⟨g, 0, none⟩) (n + 1) cap) ∧
      w' = w.drew.setRow g cur' ∧ cur'.size = cap * 3 ∧ cur'.toList.take ((n + 1) * 3) = xs.take (i * 3) ++ vs ++ xs.drop (i * 3) := by
  obtain ⟨i0, hi0, hz0, hz1, hz2⟩ := info_parts info36
  have hcm' : cap ≤ 9223372036854775807 := by unfold maxLen at hcm; omega
  have hsz : (Tryz.prog.info? 36).map (·.size) = some 3 := by rw [hi0]; simp [hz1]
  have hz36 : ∀ w, (Go.sizeOf 36).run Tryz.prog w = .ok 3 w := fun w => by simp [sizeOf, typeInfo, hi0, hz1]
  have hov : ∀ lb cb, (callFunc 45 #[.slice (some ⟨vb, 0, none⟩) 1 1, .slice (some ⟨g, (i + 1) * 3, none⟩) lb cb]).run Tryz.prog w = .ok (.value (.bool false)) w := fun lb cb => by
    rw [run_callFunc_extern Tryz.func45 (by kernel_rfl) (by kernel_rfl) (by kernel_rfl) (e := Extern.SlicesOverlaps.overlaps #[22, 22] #[4]) (by kernel_rfl),
      Lib.run_overlaps_apart w 22 4 36 Tryz.underlying22 3 hz36 ⟨vb, 0, none⟩ ⟨g, (i + 1) * 3, none⟩ 1 1 lb cb hvb 36 36 3 (cap * 3) (by simp [World.shape?, hv, hvl]) (by simp [World.shape?, hg, hcs]) (by omega) (by simp [World.frozen?, hv]) (by simp [World.frozen?, hv])]
    rfl
  have hz1 : ¬ ((i : Int) = (n : Int)) := by omega
  have hw1 : IntKind.i64.wrap ((i : Int) + 1) = (i : Int) + 1 := by rw [IntKind.wrap_i64]; omega
  have hw2 : IntKind.i64.wrap ((n : Int) + 1) = (n : Int) + 1 := by rw [IntKind.wrap_i64]; omega
  have hb1 : (0 : Int) ≤ (i : Int) + 1 := by omega
  have hb0 : (0 : Int) ≤ (n : Int) + 1 := by omega
  have hin : i ≤ n := by omega
  have htn : ((i : Int) + 1).toNat = i + 1 := by omega
  have htm : ((n : Int) + 1).toNat = n + 1 := by omega
  have hb2 : ¬ (cap = i + 1) := by omega
  have hb3 : (i : Int) ≤ (n : Int) + 1 := by omega
  have hb4 : ¬ (cap = i) := by omega
  have hb5 : (n : Int) + 1 ≤ (cap : Int) := by omega
  have hb6 : ¬ ((cap : Int) < (n : Int) + 1) := by omega
  obtain ⟨arr1, ha1⟩ : ∃ a, a = (cur.toList.take ((i + 1) * 3) ++ xs.drop (i * 3) ++ cur.toList.drop ((i + 1) * 3 + (xs.drop (i * 3)).length)).toArray := ⟨_, rfl⟩
  have hdl := drop3 xs i n hxl
  have hs1 : arr1.size = cap * 3 := by
    rw [ha1]
    have : cur.toList.length = cap * 3 := by simpa using hcs
    simp only [List.size_toArray, List.length_append, List.length_take, List.length_drop, this, hxl]
    omega
  obtain ⟨arr2, ha2⟩ : ∃ a, a = (arr1.toList.take (i * 3) ++ vs ++ arr1.toList.drop (i * 3 + vs.length)).toArray := ⟨_, rfl⟩
  have hcp1 : ∀ ty dc sc, (Builtin.copy_ #[22, 22] ty #[.slice (some ⟨g, (i + 1) * 3, none⟩) (n - i) dc, .slice (some ⟨g, i * 3, none⟩) (n + 1 - i) sc]).run Tryz.prog w.drew = .ok (goInt ((n - i : Nat) : Int)) (w.drew.setRow g arr1) := fun ty dc sc => by
    rw [ha1]
    exact run_copy_rows w.drew 22 22 ty 36 3 g ((i + 1) * 3) (n - i) dc ⟨g, i * 3, none⟩ (n + 1 - i) sc cur 36 (xs.drop (i * 3)) (n - i) Tryz.underlying22 hsz hg (by simp only [Nat.min_def]; split <;> omega) hdl
      (fun j v hj => by
        rw [Addr.add_lit, cells_of_block (w := w.drew) hg, ← Array.getElem?_toList]
        rw [← htk, List.getElem?_drop, List.getElem?_take] at hj
        split at hj
        · exact hj
        · cases hj) (by rw [hdl, hcs]; omega) (fun v hv => h1x v (List.mem_of_mem_drop hv))
  have hcp2 : ∀ (W : World), W.heap = (w.drew.setRow g arr1).heap → ∀ ty dc, (Builtin.copy_ #[22, 22] ty #[.slice (some ⟨g, i * 3, none⟩) (n + 1 - i) dc, .slice (some ⟨vb, 0, none⟩) 1 1]).run Tryz.prog W = .ok (goInt 1) (W.setRow g arr2) := fun W hW ty dc => by
    rw [ha2]
    have hh : W.heap[g]? = some (.cells arr1 36 (0, 0)) := by rw [hW]; exact setRow_heap w.drew g cur _ 36 _ hg
    exact run_copy_rows W 22 22 ty 36 3 g (i * 3) (n + 1 - i) dc ⟨vb, 0, none⟩ 1 1 arr1 36 vs 1 Tryz.underlying22 hsz hh (by simp only [Nat.min_def]; split <;> omega) hvl
      (fun j v hj => by
        have : W.heap[vb]? = some (.cells vs.toArray 36 (0, 0)) := by
          rw [hW]
          have h2 : (w.drew.setRow g arr1).heap[vb]? = w.drew.heap[vb]? := setRow_other _ _ _ _ hvb
          rw [h2]; exact hv
        rw [Addr.add_lit, cells_of_block this]
        simpa using hj) (by rw [hvl, hs1]; omega) h1v
  go_enter Tryz.func29, Tryz.ntmps29
  have hfin : arr2.size = cap * 3 ∧ arr2.toList.take ((n + 1) * 3) = xs.take (i * 3) ++ vs ++ xs.drop (i * 3) := by
    have hs1' : arr1.toList.length = cap * 3 := by simpa using hs1
    refine ⟨?_, ?_⟩
    · rw [ha2]
      simp only [List.size_toArray, List.length_append, List.length_take, List.length_drop, hs1', hvl]
      omega
    · rw [ha2]
      have e1 : arr1.toList.take (i * 3) = xs.take (i * 3) := by
        have hl : cur.toList.length = cap * 3 := by simpa using hcs
        rw [ha1]
        simp only [List.append_assoc]
        rw [List.take_append_of_le_length (by rw [List.length_take, hl]; omega), List.take_take, ← htk, List.take_take, show min (i * 3) ((i + 1) * 3) = min (i * 3) (n * 3) by omega]
      have e2 : (arr1.toList.drop (i * 3 + 3)).take ((n - i) * 3) = xs.drop (i * 3) := by
        have hl : (cur.toList.take ((i + 1) * 3)).length = i * 3 + 3 := by
          have : cur.toList.length = cap * 3 := by simpa using hcs
          rw [List.length_take, this]; omega
        rw [ha1]
        simp only [List.append_assoc]
        rw [List.drop_left' hl, ← hdl, List.take_left']
        rfl
      have hl2 : (arr1.toList.take (i * 3) ++ vs).length = i * 3 + 3 := by rw [List.length_append, List.length_take, hs1', hvl]; omega
      rw [show (n + 1) * 3 = (i * 3 + 3) + (n - i) * 3 by omega, hvl]
      simp only []
      rw [List.take_append, hl2, List.take_of_length_le (by rw [hl2]; omega), Nat.add_sub_cancel_left, e2, e1]
  clear ha1 ha2
  have mixed := mixed
  go_wp2_with (simp only [hov])
  go_region_law_o (refine step_copy_runI rfl _ _ 22 22 rfl _ _ (by simp [Act.eval, Act.put]) (by simp [Act.eval, Act.put]) (hcp1 _ _ _) ?_)
  go_wp2_with (at_builtin; refine wpList_copy_runI _ rfl _ _ 22 22 rfl _ _ rfl rfl (hcp2 _ rfl _ _) ?_)
  go_ret
  exact ⟨arr2, rfl, setRow_setRow _ _ _ _, hfin.1, hfin.2⟩

end Go.Proofs.YtmcfnnpihlediaaGreatDoor.Ex

/- A variable is put in a row that has no room. -/
namespace Go.Proofs.YtmcfnnpihlediaaGreatDoor.Ex
open Go Go.RowKit Go.Shelf

set_option maxHeartbeats 4000000 in
set_option maxRecDepth 100000 in
theorem ins_grow (g n i : Nat) (xs : List Value) (vb : Nat) (vs : List Value) (w : World) (hxl : xs.length = n * 3) 
    (hx : ∀ j u, xs[j]? = some u → w.cell? ⟨g, j, none⟩ = some u) (hi : i < n) (h1x : ∀ u ∈ xs, u.oneCell' = true)
    (hv : w.heap[vb]? = some (.cells vs.toArray 36 (0, 0))) (hvl : vs.length = 3) (h1v : ∀ u ∈ vs, u.oneCell' = true) (hn : n ≤ 1000000) :
    Calls Tryz.prog 29 #[.slice (some ⟨g, 0, none⟩) n n, .int .i64 i, .slice (some ⟨vb, 0, none⟩) 1 1] w fun e w' => ∃ G cur', e = .returned (.slice (some ⟨w.heap.size, 0, none⟩) (n + 1) G) ∧
      w'.heap[w.heap.size]? = some (.cells cur' 36 (0, 0)) ∧ cur'.size = G * 3 ∧ cur'.toList.take ((n + 1) * 3) = xs.take (i * 3) ++ vs ++ xs.drop (i * 3) ∧ n + 1 ≤ G ∧ G ≤ maxLen ∧ Below w.heap.size w w' := by
  obtain ⟨i0, hi0, hz0, hz1, hz2⟩ := info_parts info36
  have hsz : (Tryz.prog.info? 36).map (·.size) = some 3 := by rw [hi0]; simp [hz1]
  have hgw : g < w.heap.size := cell_lt (hx 0 _ (List.getElem?_eq_getElem (by omega)))
  have hvw : vb < w.heap.size := (Array.getElem?_eq_some_iff.1 hv).1
  have htl : (xs.take (i * 3)).length = i * 3 := by rw [List.length_take, hxl]; omega
  have hdl := drop3 xs i n hxl
  have hold : (Builtin.firstCells i0.size i (.slice (some ⟨g, 0, none⟩) i n)).run Tryz.prog w.drew = .ok (xs.take (i * 3)).toArray w.drew := by
    rw [hz1]
    exact run_firstCells_some w.drew 3 i ⟨g, 0, none⟩ i n (xs.take (i * 3)) htl (fun j v hj => by
      rw [Addr.add_lit, Nat.zero_add]
      rw [List.getElem?_take] at hj
      split at hj
      · exact hx j v hj
      · cases hj)
  obtain ⟨G, hG⟩ : ∃ G, G = grownCap w (n + 1) n 36 := ⟨_, rfl⟩
  obtain ⟨arr0, h0⟩ : ∃ a : Array Value, a = (xs.take (i * 3)).toArray ++ Builtin.zeroCells (Value.agg #[.string ⟨#[]⟩, .string ⟨#[]⟩, .bool false]).cells (n + 1 - i) ++ Builtin.zeroCells (Value.agg #[.string ⟨#[]⟩, .string ⟨#[]⟩, .bool false]).cells (G - (n + 1)) := ⟨_, rfl⟩
  have hGn : n + 1 ≤ G := by rw [hG]; exact grownCap_ge w _ _ _
  have hG63' : G ≤ maxLen := by rw [hG]; exact grownCap_le_maxLen w (n + 1) n 36 (by unfold maxLen; omega)
  have hG63 : G ≤ 9223372036854775807 := by unfold maxLen at hG63'; omega
  have hkk : (n : Int) + 1 - (i : Int) = ((n + 1 - i : Nat) : Int) := by omega
  have hik : i + (n + 1 - i) = n + 1 := by omega
  have hrz : ∀ ty, (Builtin.append_ #[22, 3] ty #[.slice (some ⟨g, 0, none⟩) i n, .int .i64 ((n : Int) + 1 - (i : Int))]).run Tryz.prog w =
      .ok (.slice (some ⟨w.heap.size, 0, none⟩) (n + 1) G) (w.drew.alloc (.cells arr0 36)) := fun ty => by
    have h := Lib.run_append_grow_zeros (P := Tryz.prog) w 22 3 ty 36 i0 _ .i64 .i64 Tryz.underlying22 Tryz.underlying3 hi0 hz0 (some ⟨g, 0, none⟩) i n (xs.take (i * 3)) hold (n + 1 - i) (by omega) (by omega) (by omega) (by omega) (by rw [hz2]; omega) (by rw [hz2, hik]; exact growslice_fits (by omega) (by omega))
    rw [hik] at h
    rw [hkk, h0, hG]
    exact h
  have hs0 : arr0.size = G * 3 := by
    rw [h0]
    simp only [Array.size_append, List.size_toArray, htl, size_zeroCells]
    simp only [Value.cells, List.size_toArray, List.length_cons, List.length_nil]
    omega
  obtain ⟨arr1, h1⟩ : ∃ a, a = (arr0.toList.take (i * 3) ++ vs ++ arr0.toList.drop (i * 3 + vs.length)).toArray := ⟨_, rfl⟩
  have hs1 : arr1.size = G * 3 := by
    have : arr0.toList.length = G * 3 := by simpa using hs0
    rw [h1]
    simp only [List.size_toArray, List.length_append, List.length_take, List.length_drop, this, hvl]
    omega
  obtain ⟨arr2, h2⟩ : ∃ a, a = (arr1.toList.take ((i + 1) * 3) ++ xs.drop (i * 3) ++ arr1.toList.drop ((i + 1) * 3 + (xs.drop (i * 3)).length)).toArray := ⟨_, rfl⟩
  have hfin : arr2.size = G * 3 ∧ arr2.toList.take ((n + 1) * 3) = xs.take (i * 3) ++ vs ++ xs.drop (i * 3) := by
    have hs1' : arr1.toList.length = G * 3 := by simpa using hs1
    have hs0' : arr0.toList.length = G * 3 := by simpa using hs0
    have e0 : arr0.toList.take (i * 3) = xs.take (i * 3) := by
      rw [h0]
      simp only [Array.toList_append, List.append_assoc]
      rw [List.take_left' htl]
    have hl3 : (arr0.toList.take (i * 3) ++ vs).length = (i + 1) * 3 := by rw [List.length_append, List.length_take, hs0', hvl]; omega
    have e1 : arr1.toList.take ((i + 1) * 3) = xs.take (i * 3) ++ vs := by
      rw [h1]
      simp only []
      rw [List.take_left' hl3, e0]
    refine ⟨?_, ?_⟩
    · rw [h2]
      simp only [List.size_toArray, List.length_append, List.length_take, List.length_drop, hs1', hxl]
      omega
    · rw [h2]
      simp only []
      rw [e1, List.take_left']
      rw [List.length_append, List.length_append, htl, hvl, hdl]
      omega
  have hcpA : ∀ (W : World), W.heap = (w.alloc (.cells arr0 36)).heap → ∀ ty dc, (Builtin.copy_ #[22, 22] ty #[.slice (some ⟨w.heap.size, i * 3, none⟩) (n + 1 - i) dc, .slice (some ⟨vb, 0, none⟩) 1 1]).run Tryz.prog W = .ok (goInt 1) (W.setRow w.heap.size arr1) := fun W hW ty dc => by
    rw [h1]
    have hh : W.heap[w.heap.size]? = some (.cells arr0 36 (0, 0)) := by rw [hW]; exact heap_alloc_new w _
    exact run_copy_rows W 22 22 ty 36 3 w.heap.size (i * 3) (n + 1 - i) dc ⟨vb, 0, none⟩ 1 1 arr0 36 vs 1 Tryz.underlying22 hsz hh (by simp only [Nat.min_def]; split <;> omega) hvl
      (fun j v hj => by
        have : W.heap[vb]? = some (.cells vs.toArray 36 (0, 0)) := by
          rw [hW, heap_alloc_old w _ hvw]; exact hv
        rw [Addr.add_lit, cells_of_block this]
        simpa using hj) (by rw [hvl, hs0]; omega) h1v
  have hcpB : ∀ (W : World), W.heap = ((w.alloc (.cells arr0 36)).setRow w.heap.size arr1).heap → ∀ ty dc sc, (Builtin.copy_ #[22, 22] ty #[.slice (some ⟨w.heap.size, (i + 1) * 3, none⟩) (n - i) dc, .slice (some ⟨g, i * 3, none⟩) (n - i) sc]).run Tryz.prog W = .ok (goInt ((n - i : Nat) : Int)) (W.setRow w.heap.size arr2) := fun W hW ty dc sc => by
    rw [h2]
    have hh : W.heap[w.heap.size]? = some (.cells arr1 36 (0, 0)) := by rw [hW]; exact setRow_heap _ _ _ _ _ _ (heap_alloc_new w _)
    exact run_copy_rows W 22 22 ty 36 3 w.heap.size ((i + 1) * 3) (n - i) dc ⟨g, i * 3, none⟩ (n - i) sc arr1 36 (xs.drop (i * 3)) (n - i) Tryz.underlying22 hsz hh (by simp only [Nat.min_def]; split <;> omega) hdl
      (fun j v hj => by
        rw [Addr.add_lit]
        have hb : W.heap[g]? = w.heap[g]? := by rw [hW, setRow_other _ _ _ _ (by omega), heap_alloc_old w _ hgw]
        rw [cell_same (w := w) (a := ⟨g, i * 3 + j, none⟩) hb]
        rw [List.getElem?_drop] at hj
        exact hx _ _ hj) (by rw [hdl, hs1]; omega) (fun v hv => h1x v (List.mem_of_mem_drop hv))
  have hq1 : ¬ ((i : Int) = (n : Int)) := by omega
  have hw1 : IntKind.i64.wrap ((i : Int) + 1) = (i : Int) + 1 := by rw [IntKind.wrap_i64]; omega
  have hw2 : IntKind.i64.wrap ((n : Int) + 1) = (n : Int) + 1 := by rw [IntKind.wrap_i64]; omega
  have hw3 : IntKind.i64.wrap ((n : Int) + 1 - (i : Int)) = (n : Int) + 1 - (i : Int) := by rw [IntKind.wrap_i64]; omega
  have hb1 : (0 : Int) ≤ (i : Int) + 1 := by omega
  have hin : i ≤ n := by omega
  have hin2 : (i : Int) ≤ (n : Int) := by omega
  have htn : ((i : Int) + 1).toNat = i + 1 := by omega
  have hb6 : (n : Int) < (n : Int) + 1 := by omega
  have hci : ¬ (n = i) := by omega
  have hn63 : n ≤ 9223372036854775807 := by omega
  have hGi : ¬ (G = i) := by omega
  have hGi1 : ¬ (G = i + 1) := by omega
  have hA := hcpA (w.alloc (.cells arr0 36)).drew rfl
  have hB := hcpB ((w.alloc (.cells arr0 36)).drew.setRow w.heap.size arr1).drew rfl
  have mixed := mixed
  clear hcpA hcpB hold h0 hG h1 h2 hkk hik

  go_enter Tryz.func29, Tryz.ntmps29
  go_wp2_with (first
    | (at_builtin; refine wpList_app_run rfl _ _ 22 3 rfl _ _ rfl rfl (hrz _) ?_)
    | (at_builtin; refine wpList_copy_runI _ rfl _ _ 22 22 rfl _ _ rfl rfl (hA _ _) ?_))
  go_region_law_o (refine step_copy_runI rfl _ _ 22 22 rfl (.slice (some ⟨w.heap.size, (i + 1) * 3, none⟩) (n - i) (G - (i + 1))) (.slice (some ⟨g, i * 3, none⟩) (n - i) (n - i)) (by simp [Act.eval, Act.put]) (by simp [Act.eval, Act.put]) (hB _ _ _) ?_)
  go_wp2
  go_ret
  refine ⟨G, arr2, rfl, setRow_heap _ _ _ _ _ _ (setRow_heap _ _ _ _ _ _ (heap_alloc_new w _)), hfin.1, hfin.2, hGn, hG63', ⟨rfl, rfl, rfl, ?_, fun k hk => ?_⟩⟩
  · simp
  · rw [setRow_other _ _ _ _ (by omega)]
    exact (setRow_other _ _ _ _ (by omega)).trans (heap_alloc_old w _ hk)

end Go.Proofs.YtmcfnnpihlediaaGreatDoor.Ex

/- A variable is set: the walk. -/
namespace Go.Proofs.YtmcfnnpihlediaaGreatDoor.Ex
open Go Go.RowKit Go.Shelf

theorem res19 {tmps : Array Value} {w : World} {b : Nat} {u : Value} (ht : tmps.getD 4 Go.undef = .pointer (some ⟨b, 0, none⟩)) (hc : w.cell? ⟨b, 0, none⟩ = some u) : (results Tryz.f19 tmps).run Tryz.prog w = .ok (.agg #[u]) w := by
  have h := run_loadVar_mid (P := Tryz.prog) w b 0 25 [u] _ (fun j v hj => by
    match j, hj with
    | 0, hj => simp at hj; subst hj; exact hc) Tryz.underlying25 rfl (by kernel_rfl)
  have ht' : tmps[4]?.getD Go.undef = .pointer (some ⟨b, 0, none⟩) := by rw [← ht]; simp
  simp [results, show Tryz.f19.results = #[.cell 4 25] from rfl, ht', asAddr, h]

/-- The call's own three variables. -/
structure Own3 (w : World) (v : Value) (s1 s2 : ByteArray) (b : Bool) (u : Value) (wk : World) : Prop where
  a : wk.cell? ⟨w.heap.size, 0, none⟩ = some v
  b0 : wk.cell? ⟨w.heap.size + 1, 0, none⟩ = some (.string s1)
  b1 : wk.cell? ⟨w.heap.size + 1, 1, none⟩ = some (.string s2)
  b2 : wk.cell? ⟨w.heap.size + 1, 2, none⟩ = some (.bool b)
  c : wk.cell? ⟨w.heap.size + 1 + 1, 0, none⟩ = some u
  d : wk.frozen? ⟨w.heap.size + 1 + 1, 0, none⟩ = false

def w3of (w : World) (v : Value) (s1 s2 : ByteArray) (b : Bool) : World :=
  ((w.alloc (.cells #[v] 25)).alloc (.cells #[.string s1, .string s2, .bool b] 36)).alloc (.cells #[.slice none 0 0] 25)

set_option maxHeartbeats 4000000 in
set_option maxRecDepth 100000 in
theorem set_new (A : Option Addr) (m c : Nat) (s1 s2 : ByteArray) (b : Bool) (w : World) (lb : Nat) (Q : Value → World → Prop)
    (c27 : Calls Tryz.prog 27 #[.slice A m c] (w3of w (.slice A m c) s1 s2 b) fun e w2 => ∃ v', e = .returned v' ∧ Own3 w (.slice A m c) s1 s2 b (.slice none 0 0) w2 ∧
      Calls Tryz.prog 28 #[.agg #[.slice A m c], .string s1] w2 fun e w3 => e = .returned (.tuple #[.int .i64 lb, .bool false]) ∧ Own3 w (.slice A m c) s1 s2 b (.slice none 0 0) w3 ∧
        Calls Tryz.prog 29 #[v', .int .i64 lb, .slice (some ⟨w3.heap.size, 0, none⟩) 1 1] (w3.alloc (.cells #[.string s1, .string s2, .bool b] 36)) fun e w4 => ∃ A2 m2 k2, e = .returned (.slice A2 m2 k2) ∧ Own3 w (.slice A m c) s1 s2 b (.slice none 0 0) w4 ∧
          Q (.agg #[.slice A2 m2 k2]) (w4.setCell ⟨w.heap.size + 1 + 1, 0, none⟩ (.slice A2 m2 k2))) :
    Calls Tryz.prog 19 #[.agg #[.slice A m c], .agg #[.string s1, .string s2, .bool b]] w fun e w' => ∃ u, e = .returned u ∧ Q u w' := by
  unfold w3of at c27
  go_enter Tryz.func19, Tryz.ntmps19
  go_wp2_with (first
    | (go_at_call 27; refine c27.mono ?_; rintro e w2 ⟨v', rfl, ⟨a1, a2, a3, a4, a5, a6⟩, c28⟩)
    | (go_at_call 28; refine c28.mono ?_; rintro e w3 ⟨rfl, ⟨b1, b2, b3, b4, b5, b6⟩, c29⟩)
    | (go_at_call 29; refine c29.mono ?_; rintro e w4 ⟨A2, m2, k2, rfl, ⟨d1, d2, d3, d4, d5, d6⟩, hq⟩)
    | fail)
  exact bodyPost_ret_by (res19 rfl (World.cell?_setCell_same _ _ _ d5)) rfl ⟨_, rfl, hq⟩

set_option maxHeartbeats 4000000 in
set_option maxRecDepth 100000 in
theorem set_found (A : Option Addr) (m c : Nat) (s1 s2 : ByteArray) (b : Bool) (w : World) (lb n : Nat) (hlt : lb < n) (hn : n ≤ 1000000) (Q : Value → World → Prop)
    (c27 : Calls Tryz.prog 27 #[.slice A m c] (w3of w (.slice A m c) s1 s2 b) fun e w2 => ∃ g cap, e = .returned (.slice (some ⟨g, 0, none⟩) n cap) ∧ Own3 w (.slice A m c) s1 s2 b (.slice none 0 0) w2 ∧
      Calls Tryz.prog 28 #[.agg #[.slice A m c], .string s1] w2 fun e w3 => e = .returned (.tuple #[.int .i64 lb, .bool true]) ∧ Own3 w (.slice A m c) s1 s2 b (.slice none 0 0) w3 ∧
        (∃ x0 x1 x2, w3.cell? ⟨g, lb * 3, none⟩ = some x0 ∧ w3.cell? ⟨g, lb * 3 + 1, none⟩ = some x1 ∧ w3.cell? ⟨g, lb * 3 + 2, none⟩ = some x2 ∧ w3.frozen? ⟨g, lb * 3, none⟩ = false ∧ w3.frozen? ⟨g, lb * 3 + 1, none⟩ = false ∧ w3.frozen? ⟨g, lb * 3 + 2, none⟩ = false) ∧
          Own3 w (.slice A m c) s1 s2 b (.slice none 0 0) (((w3.setCell ⟨g, lb * 3, none⟩ (.string s1)).setCell ⟨g, lb * 3 + 1, none⟩ (.string s2)).setCell ⟨g, lb * 3 + 2, none⟩ (.bool b)) ∧
          Q (.agg #[.slice (some ⟨g, 0, none⟩) n cap]) ((((w3.setCell ⟨g, lb * 3, none⟩ (.string s1)).setCell ⟨g, lb * 3 + 1, none⟩ (.string s2)).setCell ⟨g, lb * 3 + 2, none⟩ (.bool b)).setCell ⟨w.heap.size + 1 + 1, 0, none⟩ (.slice (some ⟨g, 0, none⟩) n cap))) :
    Calls Tryz.prog 19 #[.agg #[.slice A m c], .agg #[.string s1, .string s2, .bool b]] w fun e w' => ∃ u, e = .returned u ∧ Q u w' := by
  unfold w3of at c27
  obtain ⟨i0, hi0, hz0, hz1, hz2⟩ := info_parts info36
  have hsz : (Tryz.prog.info? 36).map (·.size) = some 3 := by rw [hi0]; simp [hz1]
  have hlt2 : (lb : Int) < (n : Int) := by omega
  have hb1 : (0 : Int) ≤ (lb : Int) := by omega
  go_enter Tryz.func19, Tryz.ntmps19
  go_wp2_with (first
    | (go_at_call 27; refine c27.mono ?_; rintro e w2 ⟨g, cap, rfl, ⟨a1, a2, a3, a4, a5, a6⟩, c28⟩)
    | (go_at_call 28; refine c28.mono ?_; rintro e w3 ⟨rfl, ⟨b1, b2, b3, b4, b5, b6⟩, ⟨x0, x1, x2, e0, e1, e2, z0, z1, z2⟩, ⟨d1, d2, d3, d4, d5, d6⟩, hq⟩)
    | fail)
  all_goals exact bodyPost_ret_by (res19 rfl (World.cell?_setCell_same _ _ _ d5)) rfl ⟨_, rfl, hq⟩

end Go.Proofs.YtmcfnnpihlediaaGreatDoor.Ex
