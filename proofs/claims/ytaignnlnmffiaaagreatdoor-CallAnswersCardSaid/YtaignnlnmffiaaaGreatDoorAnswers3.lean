/- Part 3 of the proof: what is walked and what is not, the pure interpreter over the code and its soundness, plain laws. -/
import Derived.Test.YtaignnlnmffiaaaGreatDoorAnswers2
import Derived.Test.YtaignnlnmffiaaaGreatDoorShelf
import Derived.Lib.AppendIntMem
import Derived.Shelf.Strings.SlTrimAscii
import Derived.Shelf.Strings.IndexAnyAll
import Derived.WalkMore
import Derived.Handy
import Derived.Deep.QuietTactic
import Derived.BigQuiet
import Derived.Deep.LoopGhost
import Derived.Lib.AtoiErrMem
import Derived.Lib.Hide
import Derived.LoopTactic
import Derived.Test.YtaignnlnmffiaaaGreatDoorCards
import Derived.Test.YtaignnlnmffiaaaGreatDoorTie
import Derived.OpenShut
import Derived.ProofKit
import Derived.ChangeMaps5
import Derived.Deep.DeepHandedRow
import Derived.Deep.DeepWitnessRowRef
import Derived.Lib.LaidTab
import Derived.Lib.LaidIn
import Derived.Stop.LaidErr
set_option linter.unusedSimpArgs false
set_option linter.unusedVariables false
set_option linter.unusedSectionVars false

/- What is not walked: each by its contract. -/
namespace Go.Proofs.YtaignnlnmffiaaaGreatDoor.Ex
open Go Go.RowKit Go.Shelf

/-- What holds all along: below the world's end at the start nothing has turned. -/
def GW (W : World) : Gee where
  base := W.heap.size
  P := fun _ w => Below W.heap.size W w
  stable := fun _ _ _ _ h _ hb _ => h.trans hb

/-- What the program's start has laid. -/
structure Good (W : World) : Prop where
  ml : ∃ m, W.cell? ⟨2, 0, none⟩ = some (.int .i64 m)
  es : ∃ te pe, W.cell? ⟨0, 0, none⟩ = some (.iface te pe)
  er : ∃ te pe, W.cell? ⟨1, 0, none⟩ = some (.iface te pe)
  tab : Lib.TabIs Tryz.prog W "internal/strconv.uint64pow10" .u64 Lib.pow10Tab

section
variable {W w : World} {R : Reads}

theorem Good.mlw (h : Good W) (hb : Below W.heap.size W w) : ∃ m, w.cell? ⟨2, 0, none⟩ = some (.int .i64 m) := by
  obtain ⟨m, hm⟩ := h.ml
  exact ⟨m, by rw [hb.cell (cell_lt hm)]; exact hm⟩
theorem Good.esw (h : Good W) (hb : Below W.heap.size W w) : ∃ te pe, w.cell? ⟨0, 0, none⟩ = some (.iface te pe) := by
  obtain ⟨te, pe, hm⟩ := h.es
  exact ⟨te, pe, by rw [hb.cell (cell_lt hm)]; exact hm⟩
theorem Good.erw (h : Good W) (hb : Below W.heap.size W w) : ∃ te pe, w.cell? ⟨1, 0, none⟩ = some (.iface te pe) := by
  obtain ⟨te, pe, hm⟩ := h.er
  exact ⟨te, pe, by rw [hb.cell (cell_lt hm)]; exact hm⟩
theorem Good.tabw (h : Good W) (hb : Below W.heap.size W w) : Lib.TabIs Tryz.prog w "internal/strconv.uint64pow10" .u64 Lib.pow10Tab :=
  Lib.tabBelow_of_tabIs h.tab w hb

theorem st_below {w' : World} (hs : Stab R w) (h : Below w.heap.size w w') : St R w R w' none := by
  refine ⟨fun _ _ h => h, fun _ _ h => .inl h, fun a v hr => ?_, h.os, h.tape, h.output, h.size, fun k hk _ => h.block k hk⟩
  have := hs a v hr
  exact ⟨by rw [h.cell (cell_lt this.1)]; exact this.1, this.2⟩

/-- A contract whose answer hangs on no memory. -/
theorem ext_ok {own : FuncId → Bool} {f : FuncId} {g : List AV → Option (List AV)} (ho : own f = false)
    (h : ∀ (R : Reads) (w : World) (args : List Value) (avs rs : List AV), Below W.heap.size W w → Stab R w → VRs R [] args avs → g avs = some rs →
      ∃ vs, (∀ R' M, VRs R' M vs rs) ∧ Calls Tryz.prog f args.toArray w fun e w' => e = .returned (retv vs) ∧ Below w.heap.size w w') : FnOK Tryz.prog (GW W) own f g := by
  intro R w args avs rs hP hb hs hargs hg
  obtain ⟨vs, hv, hc⟩ := h R w args avs rs hP hs hargs hg
  refine hc.mono fun e w' ⟨he, hbel⟩ => ⟨vs, R, he, hv R [], st_below hs hbel, fun h => by rw [ho] at h; cases h⟩

theorem grow_below (w : World) (k : Nat) (os : Array Obj) : Below w.heap.size w (Sort.grow (w.drewN k) os) :=
  ⟨rfl, rfl, rfl, by simp [Sort.grow], fun i hi => Sort.heap_grow_old (w.drewN k) os hi⟩

theorem VRs.nil_inv {M : List Nat} {args : List Value} (h : VRs R M args []) : args = [] := List.length_eq_zero_iff.1 h.1
theorem VRs.cons_inv {M : List Nat} {args : List Value} {x : AV} {xs : List AV} (h : VRs R M args (x :: xs)) : ∃ v vs, args = v :: vs ∧ VR R M v x ∧ VRs R M vs xs := by
  cases args with
  | nil => have := h.1; cases this
  | cons v vs =>
    refine ⟨v, vs, rfl, h.2 0 (by simp) (by simp), by simpa using h.1, fun i h1 h2 => ?_⟩
    have := h.2 (i + 1) (by simpa using h1) (by simpa using h2)
    simpa using this
theorem VRs.str1 {M : List Nat} {args : List Value} {a : Str} (h : VRs R M args [.str a]) : args = [.string ⟨a.toArray⟩] := by
  obtain ⟨v, vs, rfl, h1, h2⟩ := h.cons_inv
  rw [h1.str_inv, h2.nil_inv]
theorem VRs.str2 {M : List Nat} {args : List Value} {a b : Str} (h : VRs R M args [.str a, .str b]) : args = [.string ⟨a.toArray⟩, .string ⟨b.toArray⟩] := by
  obtain ⟨v, vs, rfl, h1, h2⟩ := h.cons_inv
  rw [h1.str_inv, h2.str1]
theorem VRs.str3 {M : List Nat} {args : List Value} {a b c : Str} (h : VRs R M args [.str a, .str b, .str c]) : args = [.string ⟨a.toArray⟩, .string ⟨b.toArray⟩, .string ⟨c.toArray⟩] := by
  obtain ⟨v, vs, rfl, h1, h2⟩ := h.cons_inv
  rw [h1.str_inv, h2.str2]

theorem vrs_one {M : List Nat} {v : Value} {x : AV} (h : VR R M v x) : VRs R M [v] [x] := ⟨rfl, fun i h1 h2 => by
  have : i = 0 := by simpa using h1
  subst this; exact h⟩
theorem vrs_cons {M : List Nat} {v : Value} {x : AV} {vs : List Value} {xs : List AV} (h : VR R M v x) (k : VRs R M vs xs) : VRs R M (v :: vs) (x :: xs) := by
  refine ⟨by simp [k.1], fun i h1 h2 => ?_⟩
  cases i with
  | zero => exact h
  | succ i => simpa using k.2 i (by simpa using h1) (by simpa using h2)

theorem sz (s : Str) : (⟨s.toArray⟩ : ByteArray).size = s.length := by simp [ByteArray.size]

theorem ok35 : FnOK Tryz.prog (GW W) own1 35 gTrim := by
  refine ext_ok rfl fun R w args avs rs hP hs hargs hg => ?_
  unfold gTrim at hg
  split at hg
  · rename_i s
    split at hg
    · rename_i hl
      injection hg with hg; subst hg
      rw [hargs.str2]
      refine ⟨[.string ⟨(trimB s).toArray⟩], fun R' M => vrs_one (.str _), ?_⟩
      have h := Any.strings_Trim_laid Tryz.lays160 (by kernel_rfl) ⟨s.toArray⟩ ⟨#[32, 9]⟩ w (by rw [sz]; unfold big at hl; omega) (by decide) (ascii_of_all (by decide))
      simp only [show (⟨#[32, 9]⟩ : ByteArray).data.toList = [32, 9] from rfl, lib_trim] at h
      exact h
    · cases hg
  · cases hg

theorem ok63 : FnOK Tryz.prog (GW W) own1 63 gTrimLeft := by
  refine ext_ok rfl fun R w args avs rs hP hs hargs hg => ?_
  unfold gTrimLeft at hg
  split at hg
  · rename_i s
    injection hg with hg; subst hg
    rw [hargs.str2]
    refine ⟨[.string ⟨(s.dropWhile isBl).toArray⟩], fun R' M => vrs_one (.str _), ?_⟩
    have h := Any.strings_TrimLeft_laid Tryz.lays161 (by kernel_rfl) ⟨s.toArray⟩ ⟨#[32, 9]⟩ w (by decide) (ascii_of_all (by decide))
    simp only [show (⟨#[32, 9]⟩ : ByteArray).data.toList = [32, 9] from rfl, lib_trimLeft] at h
    exact h
  · cases hg

theorem ok40 (hW : Good W) : FnOK Tryz.prog (GW W) own1 40 gContains := by
  refine ext_ok rfl fun R w args avs rs hP hs hargs hg => ?_
  unfold gContains at hg
  split at hg
  · rename_i t a
    split at hg
    · rename_i hl
      injection hg with hg; subst hg
      rw [hargs.str2]
      refine ⟨[.bool (hasSub a t)], fun R' M => vrs_one (.bool _), ?_⟩
      obtain ⟨m, hm⟩ := hW.mlw hP
      have h := Tryz.strings_Contains ⟨t.toArray⟩ ⟨a.toArray⟩ m w (by rw [sz]; unfold big at hl; omega) hm
      simp only [lib_contains] at h
      exact h.mono fun e w' ⟨h1, h2⟩ => ⟨h1, h2 ▸ Below.refl _ _⟩
    · cases hg
  · cases hg

theorem ok129 (hW : Good W) : FnOK Tryz.prog (GW W) own1 129 gCut := by
  refine ext_ok rfl fun R w args avs rs hP hs hargs hg => ?_
  unfold gCut at hg
  split at hg
  · rename_i s
    split at hg
    · cases hg
    · rename_i hl
      rw [hargs.str2]
      obtain ⟨m, hm⟩ := hW.mlw hP
      have h := Tryz.strings_Cut ⟨s.toArray⟩ ⟨#[37]⟩ m w (by rw [sz]; unfold big at hl; omega) hm
      simp only [show (⟨#[37]⟩ : ByteArray).data.toList = [37] from rfl, lib_cut] at h
      split at hg
      · rename_i i hi
        injection hg with hg; subst hg
        rw [hi] at h
        refine ⟨[.string ⟨(s.take i).toArray⟩, .string ⟨(s.drop (i + 1)).toArray⟩, .bool true], fun R' M => vrs_cons (.str _) (vrs_cons (.str _) (vrs_one (.bool _))), ?_⟩
        exact h.mono fun e w' ⟨h1, n, h2⟩ => ⟨h1, by subst h2; exact ⟨rfl, rfl, rfl, Nat.le_refl _, fun _ _ => rfl⟩⟩
      · rename_i hi
        injection hg with hg; subst hg
        rw [hi] at h
        refine ⟨[.string ⟨s.toArray⟩, .string ⟨#[]⟩, .bool false], fun R' M => vrs_cons (.str _) (vrs_cons (.str []) (vrs_one (.bool _))), ?_⟩
        exact h.mono fun e w' ⟨h1, n, h2⟩ => ⟨h1, by subst h2; exact ⟨rfl, rfl, rfl, Nat.le_refl _, fun _ _ => rfl⟩⟩
  · cases hg

theorem ok131 : FnOK Tryz.prog (GW W) own1 131 gCutPrefix := by
  refine ext_ok rfl fun R w args avs rs hP hs hargs hg => ?_
  unfold gCutPrefix at hg
  split at hg
  · rename_i s p
    rw [hargs.str2]
    have h := Tryz.strings_CutPrefix ⟨s.toArray⟩ ⟨p.toArray⟩ w
    simp only [Lib.trimPrefix, lib_hasPrefix] at h
    split at hg
    · rename_i hp
      injection hg with hg; subst hg
      rw [hp] at h
      refine ⟨[.string ⟨(s.drop p.length).toArray⟩, .bool true], fun R' M => vrs_cons (.str _) (vrs_one (.bool _)), ?_⟩
      exact h.mono fun e w' ⟨h1, h2⟩ => ⟨h1, h2 ▸ Below.refl _ _⟩
    · rename_i hp
      injection hg with hg; subst hg
      rw [Bool.eq_false_iff.2 hp] at h
      refine ⟨[.string ⟨s.toArray⟩, .bool false], fun R' M => vrs_cons (.str _) (vrs_one (.bool _)), ?_⟩
      exact h.mono fun e w' ⟨h1, h2⟩ => ⟨h1, h2 ▸ Below.refl _ _⟩
  · cases hg

theorem ok132 : FnOK Tryz.prog (GW W) own1 132 gCutSuffix := by
  refine ext_ok rfl fun R w args avs rs hP hs hargs hg => ?_
  unfold gCutSuffix at hg
  split at hg
  · rename_i s p
    split at hg
    · cases hg
    rename_i hl
    rw [hargs.str2]
    have h := Tryz.strings_CutSuffix ⟨s.toArray⟩ ⟨p.toArray⟩ w (by rw [sz]; unfold big at hl; omega)
    simp only [Lib.trimSuffix, lib_hasSuffix] at h
    split at hg
    · rename_i hp
      injection hg with hg; subst hg
      rw [hp] at h
      refine ⟨[.string ⟨(s.take (s.length - p.length)).toArray⟩, .bool true], fun R' M => vrs_cons (.str _) (vrs_one (.bool _)), ?_⟩
      exact h.mono fun e w' ⟨h1, h2⟩ => ⟨h1, h2 ▸ Below.refl _ _⟩
    · rename_i hp
      injection hg with hg; subst hg
      rw [Bool.eq_false_iff.2 hp] at h
      refine ⟨[.string ⟨s.toArray⟩, .bool false], fun R' M => vrs_cons (.str _) (vrs_one (.bool _)), ?_⟩
      exact h.mono fun e w' ⟨h1, h2⟩ => ⟨h1, h2 ▸ Below.refl _ _⟩
  · cases hg

theorem ok128 : FnOK Tryz.prog (GW W) own1 128 gCount := by
  refine ext_ok rfl fun R w args avs rs hP hs hargs hg => ?_
  unfold gCount at hg
  split at hg
  · rename_i s
    injection hg with hg; subst hg
    rw [hargs.str2]
    refine ⟨[.int .i64 (s.countP (· == 37) : Nat)], fun R' M => vrs_one (.int _ _), ?_⟩
    have h := Tryz.strings_Count_one ⟨s.toArray⟩ 37 w
    exact h.mono fun e w' ⟨h1, h2⟩ => ⟨h1, h2 ▸ Below.refl _ _⟩
  · cases hg

theorem ok158 : FnOK Tryz.prog (GW W) own1 158 gLastByte := by
  refine ext_ok rfl fun R w args avs rs hP hs hargs hg => ?_
  unfold gLastByte at hg
  split at hg
  · rename_i s c
    split at hg
    · rename_i hc
      injection hg with hg; subst hg
      obtain ⟨v, vs, rfl, h1, h2⟩ := hargs.cons_inv
      obtain ⟨v2, vs2, rfl, h3, h4⟩ := h2.cons_inv
      rw [h1.str_inv, h3.int_inv, h4.nil_inv]
      refine ⟨[.int .i64 (intOf (lastOf (UInt8.ofNat c.toNat) s))], fun R' M => vrs_one (.int _ _), ?_⟩
      have h := Tryz.strings_LastIndexByte ⟨s.toArray⟩ c (by rw [sz]; have := hc.2.2; unfold big at this; omega) w
      have e : c = ((UInt8.ofNat c.toNat).toNat : Int) := by
        have : c.toNat < 256 := by omega
        simp [this]; omega
      rw [e, lib_lastIndexByte, ← e] at h
      exact h.mono fun e w' ⟨h1, h2⟩ => ⟨h1, h2 ▸ Below.refl _ _⟩
    · cases hg
  · cases hg

theorem ok50 (hW : Good W) : FnOK Tryz.prog (GW W) own1 50 gReplace := by
  refine ext_ok rfl fun R w args avs rs hP hs hargs hg => ?_
  unfold gReplace at hg
  split at hg
  · rename_i t a b
    split at hg
    · cases hg
    rename_i ha
    split at hg
    · rename_i hl
      injection hg with hg; subst hg
      rw [hargs.str3]
      have ha1 : a ≠ [] := fun e => ha (.inl e)
      have ha2 : t.length ≤ big := by omega
      obtain ⟨m, hm⟩ := hW.mlw hP
      refine ⟨[.string ⟨(repL a b t).toArray⟩], fun R' M => vrs_one (.str _), ?_⟩
      have hc : Lib.countB ⟨t.toArray⟩ ⟨a.toArray⟩ ≤ t.length + 1 := lib_countFrom_le a _ _
      have hroom : (⟨t.toArray⟩ : ByteArray).size + Lib.countB ⟨t.toArray⟩ ⟨a.toArray⟩ * (⟨b.toArray⟩ : ByteArray).size ≤ 140737488355328 := by
        rw [sz, sz]
        have h1 : Lib.countB ⟨t.toArray⟩ ⟨a.toArray⟩ * b.length ≤ (t.length + 1) * b.length := Nat.mul_le_mul_right _ hc
        have h2 : (t.length + 1) * (b.length + 1) = (t.length + 1) * b.length + (t.length + 1) := by rw [Nat.mul_add, Nat.mul_one]
        unfold lim at hl
        omega
      have h := Tryz.strings_ReplaceAll ⟨t.toArray⟩ ⟨a.toArray⟩ ⟨b.toArray⟩ m w (by rw [sz]; unfold big at ha2; omega) hm (by rw [sz]; exact List.length_pos_iff.2 ha1) hroom
      simp only [lib_replaceAll t a b ha1] at h
      exact h
    · cases hg
  · cases hg

theorem ok34 (hW : Good W) : FnOK Tryz.prog (GW W) own1 34 gItoa := by
  refine ext_ok rfl fun R w args avs rs hP hs hargs hg => ?_
  unfold gItoa at hg
  split at hg
  · rename_i n
    split at hg
    · rename_i hn
      injection hg with hg; subst hg
      obtain ⟨v, vs, rfl, h1, h2⟩ := hargs.cons_inv
      rw [h1.int_inv, h2.nil_inv]
      refine ⟨[.string ⟨(decL n.toNat).toArray⟩], fun R' M => vrs_one (.str _), ?_⟩
      have hn2 := hn.2
      unfold lim at hn2
      have h := Tryz.strconv_Itoa n (by omega) (by omega) w (hW.tabw hP)
      have e : n = (n.toNat : Int) := by omega
      rw [e, lib_itoa, ← e] at h
      exact h.mono fun e w' ⟨h1, k, os, h2⟩ => ⟨h1, by rw [h2]; exact grow_below _ _ _⟩
    · cases hg
  · cases hg
end
end Go.Proofs.YtaignnlnmffiaaaGreatDoor.Ex

/- strings.IndexAny at blanks, whatever the text. -/
namespace Go.Proofs.YtaignnlnmffiaaaGreatDoor.Ex
open Go Go.RowKit Go.Shelf Go.Lib

def bt : ByteArray := ⟨#[32, 9]⟩
theorem bt_size : bt.size = 2 := rfl

set_option maxHeartbeats 4000000 in
set_option maxRecDepth 1000000 in
theorem ir_err (w : World) : Calls Tryz.prog 97 #[.string bt, .int .i32 65533] w fun e w' => e = .returned (.int .i64 (-1)) ∧ Below w.heap.size w w' := by
  have h0 : ∀ ty, (Instr.next (.pointer (some ⟨w.heap.size, 0, none⟩)) true ty).run Tryz.prog (w.iter bt 0) = .ok (.tuple #[.bool true, .int .i64 0, .int .i32 32]) (w.iter bt 1) := fun ty => run_next_ascii w bt 0 ty (by decide) (by decide)
  have h1 : ∀ ty, (Instr.next (.pointer (some ⟨w.heap.size, 0, none⟩)) true ty).run Tryz.prog (w.iter bt 1) = .ok (.tuple #[.bool true, .int .i64 1, .int .i32 9]) (w.iter bt 2) := fun ty => run_next_ascii w bt 1 ty (by decide) (by decide)
  have h2 : ∀ ty, (Instr.next (.pointer (some ⟨w.heap.size, 0, none⟩)) true ty).run Tryz.prog (w.iter bt 2) = .ok (.tuple #[.bool false]) (w.iter bt 2) := fun ty => run_next_end w bt 2 ty (by decide)
  go_enter Tryz.func97, Tryz.ntmps97
  go_wp2
  go_rounds 4
  go_ret
  exact ⟨rfl, (Below.refl _ _).alloc (Nat.le_refl _) _⟩

set_option maxHeartbeats 4000000 in
set_option maxRecDepth 1000000 in
theorem ir_two (w : World) (r : Int) (b0 b1 : UInt8) (hr : 128 ≤ r) (hne : ¬ r = 65533) (hv : Lib.validRune r = true) (he : Utf8.encode r = ⟨#[b0, b1]⟩) (hb : ((9 : Int) == (b1.toNat : Int)) = false) : Calls Tryz.prog 97 #[.string bt, .int .i32 r] w fun e w' => e = .returned (.int .i64 (-1)) ∧ Below w.heap.size w w' := by
  have hn : (r == 65533) = false := by simpa using hne
  have hr0 : (0 : Int) ≤ r := by omega
  have hbt : bt.size = 2 := rfl
  have h9 : bt[1]'(by decide) = 9 := rfl
  have hx : (⟨#[b0, b1]⟩ : ByteArray)[1]'(Nat.lt_succ_self 1) = b1 := rfl
  have hb2 : ((9 : Int) != (b1.toNat : Int)) = true := by simpa [bne] using hb
  have hex : bt.extract 2 2 = ByteArray.empty := rfl
  have hw : IntKind.i64.wrap 2 = 2 := by decide
  have hIB : ∀ w, Calls Tryz.prog 138 #[.string ByteArray.empty, .int .u8 b1.toNat] w fun e w' => e = .returned (.int .i64 (-1)) ∧ w' = w := fun w => Tryz.strings_IndexByte ByteArray.empty b1.toNat w
  go_enter Tryz.func97, Tryz.ntmps97
  go_wp2_with (first | (go_at_call 139; refine (Tryz.utf8_ValidRune _ _).mono ?_; rintro e w' ⟨rfl, rfl⟩; rw [hv]) | fail)
  go_step3
  go_wp2
  go_rounds 1
  go_step3
  go_wp2
  go_quiet (fail)
  go_wp2
  go_quiet ((go_at_call 138; exact (hIB _).mono fun _ _ ⟨he, hm⟩ => ⟨he, _, hm⟩))
  go_wp2
  rw [Exit.noGoto_ret]
  go_simp
  go_ret
  exact ⟨rfl, ⟨rfl, rfl, rfl, Nat.le_refl _, fun _ _ => rfl⟩⟩

set_option maxHeartbeats 4000000 in
set_option maxRecDepth 1000000 in
theorem ir_three (w : World) (r : Int) (b0 b1 b2 : UInt8) (hr : 128 ≤ r) (hne : ¬ r = 65533) (hv : Lib.validRune r = true) (he : Utf8.encode r = ⟨#[b0, b1, b2]⟩) : Calls Tryz.prog 97 #[.string bt, .int .i32 r] w fun e w' => e = .returned (.int .i64 (-1)) ∧ Below w.heap.size w w' := by
  have hn : (r == 65533) = false := by simpa using hne
  have hr0 : (0 : Int) ≤ r := by omega
  have hbt : bt.size = 2 := rfl
  go_enter Tryz.func97, Tryz.ntmps97
  go_wp2_with (first | (go_at_call 139; refine (Tryz.utf8_ValidRune _ _).mono ?_; rintro e w' ⟨rfl, rfl⟩; rw [hv]) | fail)
  go_step3
  go_wp2
  go_rounds 1
  rw [Exit.noGoto_ret]
  go_ret
  exact ⟨rfl, ⟨rfl, rfl, rfl, Nat.le_refl _, fun _ _ => rfl⟩⟩

set_option maxHeartbeats 4000000 in
set_option maxRecDepth 1000000 in
theorem ir_four (w : World) (r : Int) (b0 b1 b2 b3 : UInt8) (hr : 128 ≤ r) (hne : ¬ r = 65533) (hv : Lib.validRune r = true) (he : Utf8.encode r = ⟨#[b0, b1, b2, b3]⟩) : Calls Tryz.prog 97 #[.string bt, .int .i32 r] w fun e w' => e = .returned (.int .i64 (-1)) ∧ Below w.heap.size w w' := by
  have hn : (r == 65533) = false := by simpa using hne
  have hr0 : (0 : Int) ≤ r := by omega
  have hbt : bt.size = 2 := rfl
  go_enter Tryz.func97, Tryz.ntmps97
  go_wp2_with (first | (go_at_call 139; refine (Tryz.utf8_ValidRune _ _).mono ?_; rintro e w' ⟨rfl, rfl⟩; rw [hv]) | fail)
  go_step3
  go_wp2
  go_rounds 1
  rw [Exit.noGoto_ret]
  go_ret
  exact ⟨rfl, ⟨rfl, rfl, rfl, Nat.le_refl _, fun _ _ => rfl⟩⟩

theorem ir_any (w : World) (r : Int) (hr : 128 ≤ r) (hv : r = 65533 ∨ Lib.validRune r = true) : Calls Tryz.prog 97 #[.string bt, .int .i32 r] w fun e w' => e = .returned (.int .i64 (-1)) ∧ Below w.heap.size w w' := by
  by_cases hne : r = 65533
  · subst hne; exact ir_err w
  · have hv := hv.resolve_left hne
    have hv2 : Utf8.valid r = true := by
      simp only [Lib.validRune, decide_eq_true_eq] at hv
      simp only [Utf8.valid, Bool.or_eq_true, Bool.and_eq_true, decide_eq_true_eq]
      omega
    have hc : 128 ≤ r.toNat := by omega
    by_cases h1 : r.toNat < 2048
    · refine ir_two w r (UInt8.ofNat (0xC0 + r.toNat / 64)) (UInt8.ofNat (0x80 + r.toNat % 64)) hr hne hv ?_ ?_
      · have h0 : ¬ r.toNat < 128 := by omega
        simp [Utf8.encode, hv2, h0, h1]
      · have : (0x80 + r.toNat % 64) % 256 = 0x80 + r.toNat % 64 := by omega
        simp [this]; omega
    · by_cases h2 : r.toNat < 65536
      · refine ir_three w r (UInt8.ofNat (0xE0 + r.toNat / 4096)) (UInt8.ofNat (0x80 + r.toNat / 64 % 64)) (UInt8.ofNat (0x80 + r.toNat % 64)) hr hne hv ?_
        have h0 : ¬ r.toNat < 128 := by omega
        simp [Utf8.encode, hv2, h0, h1, h2]
      · refine ir_four w r (UInt8.ofNat (0xF0 + r.toNat / 262144)) (UInt8.ofNat (0x80 + r.toNat / 4096 % 64)) (UInt8.ofNat (0x80 + r.toNat / 64 % 64)) (UInt8.ofNat (0x80 + r.toNat % 64)) hr hne hv ?_
        have h0 : ¬ r.toNat < 128 := by omega
        simp [Utf8.encode, hv2, h0, h1, h2]

theorem get_at (s : ByteArray) (i : Nat) (h : i < s.size) : s.get! i = s[i]'h := by
  simp [ByteArray.get!, getElem!_pos, h]
  rfl

/-- A byte beyond ASCII: what is told is beyond ASCII, and so are all the bytes that it takes. -/
theorem dec_facts (s : ByteArray) (pos : Nat) (h : pos < s.size) (h128 : 128 ≤ (s[pos]'h).toNat) :
    ∃ r k : Nat, Utf8.decode s pos = (r, k) ∧ 1 ≤ k ∧ pos + k ≤ s.size ∧ 128 ≤ r ∧ r < 2000000 ∧ (r = 65533 ∨ Lib.validRune r = true) ∧ ∀ (j : Nat) (hj : j < s.size), pos ≤ j → j < pos + k → 128 ≤ (s[j]'hj).toNat := by
  have e0 : (s.get! (pos + 0)).toNat = (s[pos]'h).toNat := by rw [Nat.add_zero, get_at s pos h]
  have hb : (s[pos]'h).toNat < 256 := (s[pos]'h).toNat_lt
  have one : ∀ (j : Nat) (hj : j < s.size), pos ≤ j → j < pos + 1 → 128 ≤ (s[j]'hj).toNat := by
    intro j hj h1 h2
    have : j = pos := by omega
    subst this; exact h128
  have bad : ∃ r k : Nat, (Utf8.runeError, 1) = (r, k) ∧ 1 ≤ k ∧ pos + k ≤ s.size ∧ 128 ≤ r ∧ r < 2000000 ∧ (r = 65533 ∨ Lib.validRune r = true) ∧ ∀ (j : Nat) (hj : j < s.size), pos ≤ j → j < pos + k → 128 ≤ (s[j]'hj).toNat :=
    ⟨65533, 1, rfl, Nat.le_refl _, by omega, by omega, by omega, .inl rfl, one⟩
  have hval : ∀ c : Nat, Utf8.valid c = true → Lib.validRune c = true := by
    intro c hc
    simp only [Utf8.valid, Bool.or_eq_true, Bool.and_eq_true, decide_eq_true_eq] at hc
    simp only [Lib.validRune, decide_eq_true_eq]
    omega
  have cont : ∀ k : Nat, (decide (pos + k < s.size) && (s.get! (pos + k)).toNat / 64 == 2) = true → ∃ hk : pos + k < s.size, 128 ≤ (s[pos + k]'hk).toNat := by
    intro k hk
    simp only [Bool.and_eq_true, decide_eq_true_eq, beq_iff_eq] at hk
    refine ⟨hk.1, ?_⟩
    have := hk.2
    rw [get_at s _ hk.1] at this
    omega
  have hm : ∀ k : Nat, (s.get! (pos + k)).toNat % 64 < 64 := fun k => Nat.mod_lt _ (by decide)
  unfold Utf8.decode
  simp only [e0]
  have h0 : ¬ (s[pos]'h).toNat < 0x80 := by omega
  rw [if_neg h0]
  split
  · rename_i h1
    simp only [Bool.and_eq_true] at h1
    obtain ⟨k1, g1⟩ := cont 1 (by simpa using h1.2)
    split
    · rename_i hc
      refine ⟨_, _, rfl, by omega, by omega, hc, by have := hm 1; omega, .inr (hval _ ?_), ?_⟩
      · have := hm 1
        simp only [Utf8.valid, Bool.or_eq_true, Bool.and_eq_true, decide_eq_true_eq]
        left; omega
      · intro j hj h2 h3
        rcases (by omega : j = pos ∨ j = pos + 1) with rfl | rfl
        · exact h128
        · exact g1
    · exact bad
  · split
    · rename_i h1
      simp only [Bool.and_eq_true] at h1
      obtain ⟨k1, g1⟩ := cont 1 (by simpa using h1.1.2)
      obtain ⟨k2, g2⟩ := cont 2 (by simpa using h1.2)
      split
      · rename_i hc
        simp only [Bool.and_eq_true, decide_eq_true_eq] at hc
        refine ⟨_, _, rfl, by omega, by omega, by omega, by have := hm 1; have := hm 2; omega, .inr (hval _ hc.2), ?_⟩
        intro j hj h2 h3
        rcases (by omega : j = pos ∨ j = pos + 1 ∨ j = pos + 2) with rfl | rfl | rfl
        · exact h128
        · exact g1
        · exact g2
      · exact bad
    · split
      · rename_i h1
        simp only [Bool.and_eq_true] at h1
        obtain ⟨k1, g1⟩ := cont 1 (by simpa using h1.1.1.2)
        obtain ⟨k2, g2⟩ := cont 2 (by simpa using h1.1.2)
        obtain ⟨k3, g3⟩ := cont 3 (by simpa using h1.2)
        split
        · rename_i hc
          simp only [Bool.and_eq_true, decide_eq_true_eq] at hc
          have hv := hval _ hc.2
          refine ⟨_, _, rfl, by omega, by omega, by omega, ?_, .inr hv, ?_⟩
          · simp only [Lib.validRune, decide_eq_true_eq] at hv; omega
          · intro j hj h2 h3
            rcases (by omega : j = pos ∨ j = pos + 1 ∨ j = pos + 2 ∨ j = pos + 3) with rfl | rfl | rfl | rfl
            · exact h128
            · exact g1
            · exact g2
            · exact g3
        · exact bad
      · exact bad

theorem run_next_dec {P : Program} (w : World) (s : ByteArray) (pos : Nat) (ty : TypeId) (h : pos < s.size) (r k : Nat) (hd : Utf8.decode s pos = (r, k)) :
    (Instr.next (.pointer (some ⟨w.heap.size, 0, none⟩)) true ty).run P (w.iter s pos) = .ok (.tuple #[.bool true, .int .i64 pos, .int .i32 r]) (w.iter s (pos + k)) := by
  simp only [Instr.next, getObj, setObj, Sem.run_bind, Sem.run, World.iter_heap, Result.andThen, h, if_true, hd, World.iter_set]
  simp [goInt, Sem.run, World.iter_heap, World.iter_set]

end Go.Proofs.YtaignnlnmffiaaaGreatDoor.Ex

/- strings.IndexAny at blanks; strings.Join; text.Number. -/
namespace Go.Proofs.YtaignnlnmffiaaaGreatDoor.Ex
open Go Go.RowKit Go.Shelf Go.Lib

/-- No blank among the first i bytes. -/
def NoBl (s : ByteArray) (i : Nat) : Prop := ∀ (j : Nat) (h : j < s.size), j < i → isBl (s[j]'h) = false

theorem idx_hit : ∀ (s : Str) (i : Nat) (h : i < s.length), (∀ j (hj : j < s.length), j < i → isBl s[j] = false) → isBl s[i] = true → idxBl s = some i
  | c :: r, 0, _, _, hb => by simp only [List.getElem_cons_zero] at hb; simp [idxBl, hb]
  | c :: r, i + 1, h, hn, hb => by
    have h0 := hn 0 (by simp) (by omega)
    simp only [List.getElem_cons_zero] at h0
    have ih := idx_hit r i (by simpa using h) (fun j hj h1 => by have := hn (j + 1) (by simpa using hj) (by omega); simpa using this) (by simpa using hb)
    simp [idxBl, h0, ih]
theorem idx_miss : ∀ (s : Str), (∀ j (hj : j < s.length), isBl s[j] = false) → idxBl s = none
  | [], _ => rfl
  | c :: r, hn => by
    have h0 := hn 0 (by simp)
    simp only [List.getElem_cons_zero] at h0
    have ih := idx_miss r (fun j hj => by have := hn (j + 1) (by simpa using hj); simpa using this)
    simp [idxBl, h0, ih]

theorem ba_get (s : Str) (j : Nat) (h : j < s.length) : (⟨s.toArray⟩ : ByteArray)[j]'(by rw [sz]; exact h) = s[j] := by
  simp [ByteArray.getElem_eq_getElem_data]

theorem idx_hit' (s : Str) (i : Nat) (h : i < (⟨s.toArray⟩ : ByteArray).size) (hn : NoBl ⟨s.toArray⟩ i) (hb : isBl ((⟨s.toArray⟩ : ByteArray)[i]'h) = true) : intOf (idxBl s) = i := by
  have hl : i < s.length := by rw [sz] at h; exact h
  rw [idx_hit s i hl (fun j hj h1 => by have := hn j (by rw [sz]; exact hj) h1; rwa [ba_get s j hj] at this) (by rwa [ba_get s i hl] at hb)]
  rfl
theorem idx_miss' (s : Str) (hn : NoBl ⟨s.toArray⟩ (⟨s.toArray⟩ : ByteArray).size) : intOf (idxBl s) = -1 := by
  rw [idx_miss s fun j hj => ?_]
  · rfl
  · have h := hn j (by rw [sz]; exact hj) (by rw [sz]; exact hj)
    rwa [ba_get s j hj] at h

theorem bl_iff (x : UInt8) : isBl x = decide (0 ≤ Lib.indexByte [32, 9] x) := by
  rw [← bl_contains, Lib.contains_iff_indexByte]

theorem run_next_put {P : Program} (w : World) (b : Nat) (s : ByteArray) (pos : Nat) (ty : TypeId) (hb : w.heap[b]? = some (.stringIter s pos)) (h : pos < s.size) (r k : Nat) (hd : Utf8.decode s pos = (r, k)) :
    (Instr.next (.pointer (some ⟨b, 0, none⟩)) true ty).run P w = .ok (.tuple #[.bool true, .int .i64 pos, .int .i32 r]) (w.putObj b (.stringIter s (pos + k))) := by
  have hlt : b < w.heap.size := (Array.getElem?_eq_some_iff.1 hb).1
  simp only [Instr.next, getObj, setObj, Sem.run_bind, Sem.run, hb, Result.andThen, h, if_true, hd]
  simp [goInt, Sem.run, hb, World.putObj, hlt]
theorem run_next_done {P : Program} (w : World) (b : Nat) (s : ByteArray) (pos : Nat) (ty : TypeId) (hb : w.heap[b]? = some (.stringIter s pos)) (h : ¬ pos < s.size) :
    (Instr.next (.pointer (some ⟨b, 0, none⟩)) true ty).run P w = .ok (.tuple #[.bool false]) w := by
  simp [Instr.next, getObj, Sem.run, hb, h]

theorem below_put {W w : World} (h : Below W.heap.size W w) (b : Nat) (hb : W.heap.size ≤ b) (o : Obj) : Below W.heap.size W (w.putObj b o) :=
  ⟨h.os, h.tape, h.output, by have := h.size; simpa [World.putObj] using this, fun k hk => by
    rw [World.putObj_heap_other (by omega)]; exact h.block k hk⟩

set_option maxHeartbeats 8000000 in
set_option maxRecDepth 1000000 in
theorem any_short (s : ByteArray) (w : World) (h8 : s.size ≤ 8) (R : Int) (hhit : ∀ (i : Nat) (h : i < s.size), NoBl s i → isBl (s[i]'h) = true → R = i) (hmiss : NoBl s s.size → R = -1) :
    Calls Tryz.prog 64 #[.string s, .string bt] w fun e w' => e = .returned (.int .i64 R) ∧ Below w.heap.size w w' := by
  have HH : Aside (∀ (i : Nat) (h : i < s.size), NoBl s i → isBl (s[i]'h) = true → R = i) := hhit
  have HM : Aside (NoBl s s.size → R = -1) := hmiss
  clear hhit hmiss
  have h8z : decide ((8 : Int) < (s.size : Int)) = false := decide_eq_false (by omega)
  have hbt : bt.size = 2 := rfl
  have hbe : bt.toList.isEmpty = false := by rw [Lib.toList_data]; rfl
  go_enter Tryz.func64, Tryz.ntmps64
  go_wp2_with (go_at_call 98; refine (Tryz.strings_shouldUseASCIISet _ _).mono ?_; rintro e w' ⟨rfl, hw⟩; rw [hw, h8z])
  go_loopg [9, 10] s.size (fun g _ _ wx => ∃ (i : Nat) (w0 : World), i + g = s.size ∧ wx = w0 ∧ Below w.heap.size w w0 ∧ w.heap.size < w0.heap.size ∧ w0.heap[w.heap.size]? = some (.stringIter s i) ∧ NoBl s i)
  case atStart => exact ⟨0, w.iter s 0, by omega, rfl, (Below.refl _ _).alloc (Nat.le_refl _) _, by show w.heap.size < (w.alloc _).heap.size; simp, World.iter_heap w s 0, fun _ _ h => by omega⟩
  case round =>
    obtain ⟨i, w0, hig, rfl, hB, hlt, hit, hno⟩ := hrel
    have HB : Aside (Below w.heap.size w wr) := hB
    have HI : Aside (wr.heap[w.heap.size]? = some (.stringIter s i)) := hit
    have HN : Aside (NoBl s i) := hno
    clear hB hit hno
    by_cases hi : i < s.size
    · by_cases h128 : (s[i]'hi).toNat < 128
      · have hd := decode_ascii s i hi h128
        have hnx := fun ty => run_next_put (P := Tryz.prog) wr w.heap.size s i ty HI.out hi _ _ hd
        clear hd
        obtain ⟨x, hx⟩ : ∃ x : UInt8, s[i]'hi = x := ⟨_, rfl⟩
        rw [hx] at hnx h128
        have Hx : Aside (s[i]'hi = x) := hx
        clear hx
        have hback : ((x.toNat : Int)).toNat.toUInt8 = x := by simp
        have hbl := bl_iff x
        cases hin : isBl x
        · rw [hin] at hbl
          have hge : ¬ ((0 : Int) ≤ Lib.indexByte [32, 9] x) := of_decide_eq_false hbl.symm
          clear hbl
          go_wp2_with (go_at_call 97; refine (Tryz.strings_IndexRune_ascii _ _ _ (by omega) (by omega)).mono ?_; rintro e w' ⟨rfl, hw⟩; rw [hw, hback, show bt.data.toList = [32, 9] from rfl])
          go_roundg (s.size - (i + 1))
          case measure => omega
          case rel => exact ⟨i + 1, _, by omega, rfl, below_put HB.out _ (Nat.le_refl _) _, by simpa [World.putObj] using hlt, World.putObj_heap_same hlt, fun j hj h1 => by
            by_cases e : j = i
            · subst e; rw [Hx.out]; exact hin
            · exact HN.out j hj (by omega)⟩
        · rw [hin] at hbl
          have hge : ((0 : Int) ≤ Lib.indexByte [32, 9] x) := of_decide_eq_true hbl.symm
          clear hbl
          have HR : Aside (R = i) := HH.out i hi HN.out (by rw [Hx.out]; exact hin)
          go_wp2_with (go_at_call 97; refine (Tryz.strings_IndexRune_ascii _ _ _ (by omega) (by omega)).mono ?_; rintro e w' ⟨rfl, hw⟩; rw [hw, hback, show bt.data.toList = [32, 9] from rfl])
          go_ret
          exact ⟨by rw [HR.out]; rfl, below_put HB.out _ (Nat.le_refl _) _⟩
      · obtain ⟨r, k, hd, hk, hks, hr, hr2, hv, hall⟩ := dec_facts s i hi (by omega)
        have hnx := fun ty => run_next_put (P := Tryz.prog) wr w.heap.size s i ty HI.out hi _ _ hd
        have HA : Aside (∀ (j : Nat) (hj : j < s.size), i ≤ j → j < i + k → 128 ≤ (s[j]'hj).toNat) := hall
        have hv' : (r : Int) = 65533 ∨ Lib.validRune r = true := hv.imp (fun e => by omega) id
        have HV : Aside ((r : Int) = 65533 ∨ Lib.validRune r = true) := hv'
        clear hd hv hv' hall
        go_wp2_with (go_at_call 97; refine (ir_any _ _ (by omega) HV.out).mono ?_; rintro e w' ⟨rfl, hw⟩)
        go_roundg (s.size - (i + k))
        case measure => omega
        case rel =>
          have hp := below_put HB.out w.heap.size (Nat.le_refl _) (.stringIter s (i + k))
          have hsz : (wr.putObj w.heap.size (.stringIter s (i + k))).heap.size = wr.heap.size := by simp [World.putObj]
          refine ⟨i + k, _, by omega, rfl, hp.trans (hw.mono (by omega)), by have := hw.size; omega, ?_, fun j hj h1 => ?_⟩
          · rw [hw.block _ (by omega)]; exact World.putObj_heap_same hlt
          · by_cases e : j < i
            · exact HN.out j hj e
            · have := HA.out j hj (by omega) h1
              cases hb : isBl s[j] with
              | false => rfl
              | true =>
                simp only [isBl, Bool.or_eq_true, beq_iff_eq] at hb
                rcases hb with hb | hb <;> (rw [hb] at this; exact absurd this (by decide))
    · have he : i = s.size := by omega
      subst he
      have hnx := fun ty => run_next_done (P := Tryz.prog) wr w.heap.size s s.size ty HI.out hi
      have HR : Aside (R = -1) := HM.out HN.out
      go_wp2
      go_ret
      exact ⟨by rw [HR.out]; rfl, HB.out⟩

section
variable {W w : World} {R : Reads}

theorem ok64 : FnOK Tryz.prog (GW W) own1 64 gIndexAny := by
  refine ext_ok rfl fun R w args avs rs hP hs hargs hg => ?_
  unfold gIndexAny at hg
  split at hg
  · rename_i s
    split at hg
    · rename_i hl
      injection hg with hg; subst hg
      rw [hargs.str2]
      refine ⟨[.int .i64 (intOf (idxBl s))], fun R' M => vrs_one (.int _ _), ?_⟩
      by_cases h8 : s.length ≤ 8
      · exact any_short ⟨s.toArray⟩ w (by rw [sz]; exact h8) _ (fun i h hn hb => idx_hit' s i h hn hb) (fun hn => idx_miss' s hn)
      · have h116 : (Tryz.prog.info? 83).map (fun i => (i.zero, i.size)) = some (some (.agg (Array.replicate 256 (.bool false))), 256) := by kernel_rfl
        have h := Tryz.strings_IndexAny_long (zero_of_info h116).1 ⟨s.toArray⟩ ⟨#[32, 9]⟩ w (by decide) (by rw [sz]; omega) (by rw [sz]; unfold big at hl; omega) (by decide) (ascii_of_all (by decide))
        simp only [show (⟨#[32, 9]⟩ : ByteArray).data.toList = [32, 9] from rfl, lib_indexAny] at h
        exact h.mono fun e w' ⟨h1, h2⟩ => ⟨h1, by subst h2; exact ((Below.refl _ _).alloc (Nat.le_refl _) _).alloc (by simp) _⟩
    · cases hg
  · cases hg

theorem strsOf_inv : ∀ {ws : List AV} {l : List Str}, strsOf ws = some l → ws = l.map .str
  | [], l, h => by simp [strsOf] at h; subst h; rfl
  | x :: r, l, h => by
    cases x <;> try (simp [strsOf] at h; done)
    simp only [strsOf, Option.map_eq_some_iff] at h
    obtain ⟨m, hm, rfl⟩ := h
    rw [strsOf_inv hm]; rfl

/-- A slice of texts: none, or a row of cells that hold them. -/
theorem VR.strs {M : List Nat} {v : Value} {l : List Str} (hs : Stab R w) (h : VR R M v (.sl 1 (l.map .str))) :
    (l = [] ∧ ∃ A c, v = .slice A 0 c) ∨ (l ≠ [] ∧ ∃ b o c, v = .slice (some ⟨b, o, none⟩) l.length c ∧ l.length ≤ c ∧ b < w.heap.size ∧ ∀ (i : Nat) (hi : i < l.length), w.cell? ⟨b, o + i, none⟩ = some (.string ⟨l[i].toArray⟩) ∧ R ⟨b, o + i, none⟩ (.string ⟨l[i].toArray⟩)) := by
  cases hl : l with
  | nil =>
    left
    subst hl
    obtain ⟨A, n, c, rfl, hn, hc⟩ := h.slice_inv
    exact ⟨rfl, A, c, by rw [hn]; rfl⟩
  | cons x r =>
    right
    have hne : 0 < l.length := by rw [hl]; simp
    rw [← hl]
    refine ⟨fun e => by rw [e] at hne; simp at hne, ?_⟩
    generalize hx : l.map AV.str = xs at h
    cases h with
    | slnil => rw [List.map_eq_nil_iff] at hx; rw [hx] at hne; simp at hne
    | sl a n c _ _ f hn hc hz hR hV =>
    subst hx
    have hn' : n = l.length := by simpa using hn
    subst hn'
    have key : ∀ (i : Nat) (hi : i < l.length), R (a.add i) (.string ⟨l[i].toArray⟩) := by
      intro i hi
      have h1 := hR i 0 (by simpa using hi) (by omega)
      have h2 := hV i 0 (by simpa using hi) (by simp [AV.cells])
      simp only [List.getElem_map, AV.cells, List.getElem_cons_zero] at h2
      rw [h2.str_inv, Nat.mul_one, Nat.add_zero] at h1
      exact h1
    have h0 := (hs _ _ (key 0 hne)).1
    obtain ⟨b, o, sp⟩ := a
    have hsp : sp = none := by
      cases sp with
      | none => rfl
      | some y =>
        have e : (⟨b, o, some y⟩ : Addr).add 0 = ⟨b, o, some y⟩ := by simp [Addr.add]
        rw [e] at h0
        unfold World.cell? at h0
        split at h0 <;> simp at h0
    subst hsp
    refine ⟨b, o, c, rfl, hc, cell_lt h0, fun i hi => ?_⟩
    have h1 := key i hi
    have e : (⟨b, o, none⟩ : Addr).add i = ⟨b, o + i, none⟩ := by unfold Addr.add; split <;> simp_all
    rw [e] at h1
    exact ⟨(hs _ _ h1).1, h1⟩

theorem map_data (l : List Str) : (l.map fun s => (⟨s.toArray⟩ : ByteArray)).map (fun x => x.data.toList) = l := by
  rw [List.map_map]
  have : ((fun x : ByteArray => x.data.toList) ∘ fun s : Str => (⟨s.toArray⟩ : ByteArray)) = _root_.id := by funext s; simp
  rw [this, List.map_id]

theorem ok32 : FnOK Tryz.prog (GW W) own1 32 gJoin := by
  refine ext_ok rfl fun R w args avs rs hP hs hargs hg => ?_
  unfold gJoin at hg
  split at hg
  · rename_i ws sep
    split at hg
    · rename_i l hl
      have hws := strsOf_inv hl
      subst hws
      split at hg
      · rename_i hlen
        injection hg with hg; subst hg
        obtain ⟨v, vs, rfl, h1, h2⟩ := hargs.cons_inv
        rw [h2.str1]
        refine ⟨[.string ⟨(joinL sep l).toArray⟩], fun R' M => vrs_one (.str _), ?_⟩
        rcases h1.strs hs with ⟨rfl, A, c, rfl⟩ | ⟨hne, b, o, c, rfl, hc, hb, hcell⟩
        · have h := Tryz.strings_Join_none A c ⟨sep.toArray⟩ w
          exact h.mono fun e w' ⟨h1, h2⟩ => ⟨h1, h2 ▸ Below.refl _ _⟩
        · have hN : l.length ≤ 140737488355328 := by have := hlen.2; unfold lim at this; omega
          have h := Tryz.strings_Join b o c (l.map fun s => ⟨s.toArray⟩) ⟨sep.toArray⟩ w (fun j x hx => by
              simp only [List.getElem?_map, Option.map_eq_some_iff] at hx
              obtain ⟨s, hs1, rfl⟩ := hx
              obtain ⟨hj, he⟩ := List.getElem?_eq_some_iff.1 hs1
              subst he
              exact (hcell j hj).1) hb (by simpa using hN) (by simpa using hc) (by rw [map_data, lib_join]; have := hlen.1; unfold lim at this; show (joinL sep l).length ≤ _; omega)
          rw [map_data, lib_join] at h
          simp only [List.length_map] at h
          exact h
      · cases hg
    · cases hg
  · cases hg
end
end Go.Proofs.YtaignnlnmffiaaaGreatDoor.Ex

/- text.Number. -/
namespace Go.Proofs.YtaignnlnmffiaaaGreatDoor.Ex
open Go Go.RowKit Go.Shelf Go.Lib

def errV (N : Nat) : Value := .iface 101 (.pointer (some ⟨N, 0, none⟩))

set_option maxHeartbeats 4000000 in
theorem num_err (s : ByteArray) (w : World) (u : Int)
    (h : Calls Tryz.prog 33 #[.string s, .int .i64 10, .int .i64 32] w fun e w' => ∃ N, e = .returned (.tuple #[.int .u64 u, .iface 101 (.pointer (some ⟨N, 0, none⟩))]) ∧ Below w.heap.size w w') :
    Calls Tryz.prog 22 #[.string s] w fun e w' => e = .returned (.tuple #[.int .i64 0, .bool false]) ∧ Below w.heap.size w w' := by
  go_enter Tryz.func22, Tryz.ntmps22
  go_wp2_with (first | (go_at_call 33; refine h.mono ?_; rintro e w' ⟨N, rfl, hb⟩) | fail)
  go_ret2
  exact ⟨rfl, hb⟩

set_option maxHeartbeats 4000000 in
theorem num_long (s : ByteArray) (w : World) (u : Nat) (hl : 9 < s.size)
    (h : Calls Tryz.prog 33 #[.string s, .int .i64 10, .int .i64 32] w fun e w' => e = .returned (.tuple #[.int .u64 u, .nilIface]) ∧ Below w.heap.size w w') :
    Calls Tryz.prog 22 #[.string s] w fun e w' => e = .returned (.tuple #[.int .i64 0, .bool false]) ∧ Below w.heap.size w w' := by
  have hd : decide ((9 : Int) < (s.size : Int)) = true := by simp; omega
  go_enter Tryz.func22, Tryz.ntmps22
  go_wp2_with (first | (go_at_call 33; refine h.mono ?_; rintro e w' ⟨rfl, hb⟩) | fail)
  go_ret2
  exact ⟨rfl, hb⟩

set_option maxHeartbeats 4000000 in
theorem num_short (s d : ByteArray) (w : World) (u : Nat) (hl : ¬ 9 < s.size) (hu : u < 1000000000)
    (h : Calls Tryz.prog 33 #[.string s, .int .i64 10, .int .i64 32] w fun e w' => e = .returned (.tuple #[.int .u64 u, .nilIface]) ∧ Below w.heap.size w w')
    (hI : ∀ w1, Below w.heap.size w w1 → Calls Tryz.prog 34 #[.int .i64 u] w1 fun e w' => e = .returned (.string d) ∧ Below w1.heap.size w1 w') (b : Bool) (hb : (d.toList == s.toList) = b) :
    Calls Tryz.prog 22 #[.string s] w fun e w' => e = .returned (.tuple #[.int .i64 (if b then u else 0), .bool b]) ∧ Below w.heap.size w w' := by
  have hd : decide ((9 : Int) < (s.size : Int)) = false := by simp; omega
  cases b
  all_goals
    go_enter Tryz.func22, Tryz.ntmps22
    go_wp2_with (first | (go_at_call 33; refine h.mono ?_; rintro e w' ⟨rfl, hb⟩) | (go_at_call 34; refine (hI _ (by assumption)).mono ?_; rintro e w2 ⟨rfl, hb2⟩)| fail)
    go_ret2
    exact ⟨rfl, hb.trans (hb2.mono hb.size)⟩

theorem below_bytes (w : World) (s : ByteArray) : Below w.heap.size w (Lib.bytesWorld w 5 s) := Lib.bytesWorld_below w 5 s

theorem ok22 {W : World} (hW : Good W) : FnOK Tryz.prog (GW W) own1 22 gNumber := by
  refine ext_ok rfl fun R w args avs rs hP hs hargs hg => ?_
  unfold gNumber at hg
  split at hg
  · rename_i s
    split at hg
    · cases hg
    rename_i hl
    have hl : s.length ≤ big := by omega
    unfold big at hl
    rw [hargs.str1]
    have key : ∀ (n : Int) (b : Bool), (Calls Tryz.prog 22 #[.string ⟨s.toArray⟩] w fun e w' => e = .returned (.tuple #[.int .i64 n, .bool b]) ∧ Below w.heap.size w w') →
        rs = [.int .i64 n, .bool b] → ∃ vs, (∀ R' M, VRs R' M vs rs) ∧ Calls Tryz.prog 22 [Value.string ⟨s.toArray⟩].toArray w fun e w' => e = .returned (retv vs) ∧ Below w.heap.size w w' := by
      intro n b h hr
      subst hr
      exact ⟨[.int .i64 n, .bool b], fun R' M => vrs_cons (.int _ _) (vrs_one (.bool _)), h⟩
    have e1 : (⟨s.toArray⟩ : ByteArray).data.toList = s := rfl
    rcases hp : Lib.parseUintB 32 s with u | _ | _
    · obtain ⟨h1, h2, h3⟩ := lib_parse_ok s u hp
      have hc : Calls Tryz.prog 33 #[.string ⟨s.toArray⟩, .int .i64 10, .int .i64 32] w fun e w' => e = .returned (.tuple #[.int .u64 u, .nilIface]) ∧ Below w.heap.size w w' :=
        (Tryz.strconv_ParseUint_10_at32_ok ⟨s.toArray⟩ (by rw [sz]; omega) u hp w).mono fun e w' ⟨a, b⟩ => ⟨a, by
          rcases b with rfl | rfl
          · exact Below.refl _ _
          · exact below_bytes _ _⟩
      by_cases h9 : s.length ≤ 9
      · have hu : u < 1000000000 := by
          have := valGo_lt s 0 h2
          have h5 : 10 ^ s.length ≤ 1000000000 := Nat.le_trans (Nat.pow_le_pow_right (by omega) h9) (by decide)
          rw [h3]; omega
        have hI : ∀ w1, Below w.heap.size w w1 → Calls Tryz.prog 34 #[.int .i64 u] w1 fun e w' => e = .returned (.string ⟨(decL u).toArray⟩) ∧ Below w1.heap.size w1 w' := by
          intro w1 hb
          have h := Tryz.strconv_Itoa u (by omega) (by omega) w1 (hW.tabw (hP.trans (hb.mono hP.size)))
          rw [lib_itoa] at h
          exact h.mono fun e w' ⟨h1, k, os, h2⟩ => ⟨h1, by rw [h2]; exact grow_below _ _ _⟩
        have hb : ((⟨(decL u).toArray⟩ : ByteArray).toList == (⟨s.toArray⟩ : ByteArray).toList) = (decL u == s) := by rw [toList_mk, toList_mk]
        have h := num_short ⟨s.toArray⟩ ⟨(decL u).toArray⟩ w u (by rw [sz]; omega) hu hc hI _ hb
        by_cases he : decL u = s
        · have hn : numL s = some u := by unfold numL; rw [if_pos ⟨h9, h2, h1, by rw [← h3]; exact he⟩, ← h3]
          rw [hn] at hg
          injection hg with hg
          have : (decL u == s) = true := by simpa using he
          rw [this] at h
          exact key _ _ h hg.symm
        · have hn : numL s = none := by unfold numL; rw [if_neg (fun h => he (by rw [h3]; exact h.2.2.2))]
          rw [hn] at hg
          injection hg with hg
          have : (decL u == s) = false := by simpa using he
          rw [this] at h
          exact key _ _ h hg.symm
      · have hn : numL s = none := by unfold numL; rw [if_neg (fun h => h9 h.1)]
        rw [hn] at hg
        injection hg with hg
        exact key _ _ (num_long ⟨s.toArray⟩ w u (by rw [sz]; omega) hc) hg.symm
    · have hn := lib_parse_no s (fun u => by rw [hp]; simp)
      rw [hn] at hg
      injection hg with hg
      obtain ⟨te, pe, hev⟩ := hW.esw hP
      have hc0 := Any.strconv_ParseUint_10_at32_syntax Tryz.laysPu14 ⟨s.toArray⟩ (by rw [sz]; omega) hp _ w hev (.inr ⟨te, pe, rfl⟩)
      have hc : Calls Tryz.prog 33 #[.string ⟨s.toArray⟩, .int .i64 10, .int .i64 32] w fun e w' => ∃ N, e = .returned (.tuple #[.int .u64 0, .iface 101 (.pointer (some ⟨N, 0, none⟩))]) ∧ Below w.heap.size w w' :=
        Calls.mono hc0 fun e w' ⟨N, a, _, _, b⟩ => ⟨N, a, b⟩
      exact key _ _ (num_err ⟨s.toArray⟩ w 0 hc) hg.symm
    · have hn := lib_parse_no s (fun u => by rw [hp]; simp)
      rw [hn] at hg
      injection hg with hg
      obtain ⟨te, pe, hev⟩ := hW.erw hP
      have hc := (Tryz.strconv_ParseUint_10_at32_range ⟨s.toArray⟩ (by rw [sz]; omega) hp _ w hev (.inr ⟨te, pe, rfl⟩)).mono (fun e w' ⟨N, a, _, _, b⟩ => (⟨N, a, b⟩ : ∃ N, e = Ending.returned (.tuple #[.int .u64 4294967295, .iface 101 (.pointer (some ⟨N, 0, none⟩))]) ∧ Below w.heap.size w w'))
      exact key _ _ (num_err ⟨s.toArray⟩ w 4294967295 hc) hg.symm
  · cases hg
end Go.Proofs.YtaignnlnmffiaaaGreatDoor.Ex

/- What is walked, over what is not: the machine's calls. -/
namespace Go.Proofs.YtaignnlnmffiaaaGreatDoor.Ex
open Go Go.RowKit Go.Shelf

theorem fns_chk : fns.all (chkFn Tryz.prog own1) = true := by kernel_rfl
theorem mixed : Tryz.prog.follows .mixedOrders = true := by kernel_rfl

section
variable {W : World}

theorem ext_all [XX] (hW : Good W) (hx : ∀ g, XX.x = some g → callable Tryz.prog 26 = true ∧ FnOK Tryz.prog (GW W) own1 26 g) (hy : ∀ g, XX.y = some g → callable Tryz.prog 47 = true ∧ FnOK Tryz.prog (GW W) own1 47 g) :
    ∀ f g, ext0 f = some g → callable Tryz.prog f = true ∧ FnOK Tryz.prog (GW W) own1 f g := by
  intro f g h
  unfold ext0 at h
  split at h
  · exact hx g h
  · exact hy g h
  · injection h with h; subst h; exact ⟨by kernel_rfl, ok22 hW⟩
  · injection h with h; subst h; exact ⟨by kernel_rfl, ok32⟩
  · injection h with h; subst h; exact ⟨by kernel_rfl, ok34 hW⟩
  · injection h with h; subst h; exact ⟨by kernel_rfl, ok35⟩
  · injection h with h; subst h; exact ⟨by kernel_rfl, ok40 hW⟩
  · injection h with h; subst h; exact ⟨by kernel_rfl, ok50 hW⟩
  · injection h with h; subst h; exact ⟨by kernel_rfl, ok63⟩
  · injection h with h; subst h; exact ⟨by kernel_rfl, ok64⟩
  · injection h with h; subst h; exact ⟨by kernel_rfl, ok128⟩
  · injection h with h; subst h; exact ⟨by kernel_rfl, ok129 hW⟩
  · injection h with h; subst h; exact ⟨by kernel_rfl, ok131⟩
  · injection h with h; subst h; exact ⟨by kernel_rfl, ok132⟩
  · injection h with h; subst h; exact ⟨by kernel_rfl, ok158⟩
  · cases h

/-- A pure call's answer is the machine's. -/
theorem calls_of [XX] (hext : ∀ f g, ext0 f = some g → callable Tryz.prog f = true ∧ FnOK Tryz.prog (GW W) own1 f g) {n : Nat} {f : FuncId} {R : Reads} {w : World} {args : List Value} {avs rs : List AV} {S : Obs}
    (hb : Below W.heap.size W w) (hs : Stab R w) (ha : VRs R [] args avs) (h : F n (.f f) avs [] = some (rs, S)) :
    Calls Tryz.prog f args.toArray w fun e w' => ∃ vs R' bl, e = .returned (retv vs) ∧ VRs R' (mains bl) vs rs ∧ Stp R [] w R' bl w' ∧ SR (lokB own1) R' bl w' S ∧
      (own1 f = true → ∃ v sz xs, vs = [v] ∧ rs = [.sl sz xs] ∧ OwnV R' 0 w' v sz ∧ ∀ b, blockOf v = some b → (w.heap.size ≤ b ∨ b ∈ fp []) ∧ b ∉ fp bl) :=
  fnS_sound mixed hext fns_chk n (.f f) R [] w [] args avs rs S ⟨hb, by simp [fp], hb.size⟩ hs ⟨rfl, by simp [fp], by simp [fp], by intro i p o h; simp at h⟩ ha h

theorem stp_below {R R' : Reads} {bl : BL} {w w' : World} (h : Stp R [] w R' bl w') : Below w.heap.size w w' :=
  ⟨h.os, h.tape, h.output, h.size, fun k hk => h.blk k hk (by simp [fp])⟩
end

/-- Level nought: both are told nothing of. -/
@[reducible] def X0 : XX := ⟨none, none⟩
theorem ext_0 {W : World} (hW : Good W) : ∀ f g, @ext0 X0 f = some g → callable Tryz.prog f = true ∧ FnOK Tryz.prog (GW W) own1 f g :=
  @ext_all W X0 hW (fun g h => by cases h) (fun g h => by cases h)

/-- A row of texts of the call's own. -/
def OwnStrs (base : Nat) (w : World) (v : Value) (l : List Str) : Prop :=
  (l = [] ∧ v = .slice none 0 0) ∨ (∃ b c cur e, v = .slice (some ⟨b, 0, none⟩) l.length c ∧ base ≤ b ∧ b < w.heap.size ∧ w.heap[b]? = some (.cells cur e (0, 0)) ∧ l.length ≤ c ∧ c ≤ maxLen ∧ cur.size = c ∧
    ∀ (i : Nat) (hi : i < l.length), cur[i]? = some (.string ⟨l[i].toArray⟩))

theorem ownStrs_of {R : Reads} {M : List Nat} {w : World} {v : Value} {l : List Str} {base : Nat} (hs : Stab R w) (hv : VR R M v (.sl 1 (l.map .str))) (ho : OwnV R 0 w v 1) (hb : ∀ b, blockOf v = some b → base ≤ b) : OwnStrs base w v l := by
  rcases ho with rfl | ⟨b, n, c, cur, e, rfl, h2, h3, h4, h5, h6, h7⟩
  · rcases hv.strs hs with ⟨rfl, _⟩ | ⟨hne, b, o, c, h, _⟩
    · exact .inl ⟨rfl, rfl⟩
    · cases h
  · have hlt : b < w.heap.size := (Array.getElem?_eq_some_iff.1 h3).1
    have hn : n = l.length := by
      obtain ⟨A, m, c', h, hm, _⟩ := hv.slice_inv
      injection h with e1 e2 e3
      rw [e2, hm]; simp
    subst hn
    refine .inr ⟨b, c, cur, e, rfl, hb b rfl, hlt, h3, h4, h5, by omega, fun i hi => ?_⟩
    rcases hv.strs hs with ⟨hl, _⟩ | ⟨hne, b', o, c', h, _, _, hcell⟩
    · rw [hl] at hi; simp at hi
    · injection h with e1 e2 e3
      injection e1 with e1
      injection e1 with e1 e4 e5
      subst e1 e4
      have := (hcell i hi).1
      rw [Nat.zero_add, cells_of_block h3] at this
      exact this

/-- text.Words: a row of its own. -/
theorem words_calls {W w : World} (hW : Good W) (hb : Below W.heap.size W w) (s : Str) (hs : s.length ≤ 100000000) :
    Calls Tryz.prog 19 #[.string ⟨s.toArray⟩] w fun e w' => ∃ v, e = .returned v ∧ Below w.heap.size w w' ∧ OwnStrs w.heap.size w' v (wordsL s) := by
  letI : XX := X0
  have h := cp19 (s.length + 5) s (by omega) (by omega)
  simp only [CP, callP] at h
  split at h
  case isFalse => cases h
  split at h
  case h_2 => cases h
  rename_i rs S hF
  split at h
  case isFalse => cases h
  injection h with h
  refine (calls_of (ext_0 hW) (R := fun _ _ => False) hb (fun _ _ h => h.elim) (vrs_one (.str s)) hF).mono fun e w' hp => ?_
  obtain ⟨vs, R', bl, rfl, hv, hst, hsr, ho⟩ := hp
  obtain ⟨v, sz, xs, rfl, h2, h3, h4⟩ := ho rfl
  subst h2
  simp only [packAV] at h
  rw [h] at hv
  injection h with e1 e2
  subst e1
  refine ⟨v, rfl, stp_below hst, ownStrs_of hst.stab (hv.2 0 (by simp) (by simp)) h3 fun b hb => ?_⟩
  rcases (h4 b hb).1 with h5 | h5
  · exact h5
  · simp [fp] at h5

/-- text.Join of a row that stands in the world. -/
theorem join_calls {W w : World} (hW : Good W) (hb : Below W.heap.size W w) (l : List Str) (hl : (joinL [32] l).length ≤ lim) (v : Value)
    (hv : (l = [] ∧ (v = .slice none 0 0 ∨ ∃ a c, v = .slice (some a) 0 c)) ∨ (l ≠ [] ∧ ∃ b c, v = .slice (some ⟨b, 0, none⟩) l.length c ∧ l.length ≤ c ∧ ∀ (i : Nat) (hi : i < l.length), w.cell? ⟨b, i, none⟩ = some (.string ⟨l[i].toArray⟩))) :
    Calls Tryz.prog 21 #[v] w fun e w' => e = .returned (.string ⟨(joinL [32] l).toArray⟩) ∧ Below w.heap.size w w' := by
  letI : XX := X0
  have h := cp21 0 l hl
  simp only [CP, callP] at h
  split at h
  case isFalse => cases h
  split at h
  case h_2 => cases h
  rename_i rs S hF
  split at h
  case isFalse => cases h
  injection h with h
  have hvr : VR (Mem w) [] v (.sl 1 (l.map .str)) := by
    rcases hv with ⟨rfl, rfl | ⟨a, c, rfl⟩⟩ | ⟨hne, b, c, rfl, hc, hcell⟩
    · exact .slnil 1
    · exact .sl a 0 c 1 [] (fun _ _ => Go.undef) rfl (Nat.zero_le _) (by simp) (by simp) (by simp)
    · refine .sl _ _ _ _ _ (fun i _ => .string ⟨(l[i]?.getD []).toArray⟩) (by simp) hc (by simp [AV.cells]) ?_ ?_
      · intro i j hi hj
        have hi' : i < l.length := by simpa using hi
        rw [add_plain, List.getElem?_eq_getElem hi']
        have : j = 0 := by omega
        subst this
        rw [Nat.mul_one, Nat.add_zero]
        exact ⟨hcell i hi', rfl⟩
      · intro i j hi hj
        have hi' : i < l.length := by simpa using hi
        simp only [List.getElem_map, AV.cells, List.length_singleton] at hj ⊢
        have : j = 0 := by omega
        subst this
        rw [List.getElem?_eq_getElem hi']
        exact .str _
  refine (calls_of (ext_0 hW) hb (Mem.stab w) (vrs_one hvr) hF).mono fun e w' hp => ?_
  obtain ⟨vs, R', bl, rfl, hv', hst, hsr, ho⟩ := hp
  refine ⟨?_, stp_below hst⟩
  match rs, vs, hv', h with
  | [r], [u], hv', h =>
    have h1 := hv'.2 0 (by simp) (by simp)
    simp only [packAV] at h
    subst h
    simp only [List.getElem_cons_zero] at h1
    rw [h1.str_inv]; rfl
  | [], vs, hv', h => cases h
  | _ :: _ :: _, _, _, h => cases h
  | [r], [], hv', h => exact absurd hv'.1 (by simp)
  | [r], _ :: _ :: _, hv', h => exact absurd hv'.1 (by simp)
end Go.Proofs.YtaignnlnmffiaaaGreatDoor.Ex

/- Sorted words: one, of sort. -/
namespace Go.Proofs.YtaignnlnmffiaaaGreatDoor.Ex
open Go Go.RowKit Go.Shelf

def sortB : ByteArray := ⟨#[115, 111, 114, 116]⟩

theorem sort_below {W w1 : World} (h : Below W.heap.size W w1) {b : Nat} (hb : W.heap.size ≤ b) (n : Nat) (d : Array (List UInt8)) (os : Array Obj) :
    Below W.heap.size W (Sort.grow (Sort.putRow encStr (Sort.ahead w1 n) b 0 d) os) := by
  refine ⟨h.os, h.tape, h.output, ?_, fun k hk => ?_⟩
  · have := h.size; simp [Sort.grow, Sort.putRow, Sort.mapBlock, Sort.ahead]; omega
  · have h1 : k < (Sort.putRow encStr (Sort.ahead w1 n) b 0 d).heap.size := by have := h.size; simp [Sort.putRow, Sort.mapBlock, Sort.ahead]; omega
    rw [Sort.heap_grow_old _ _ h1]
    simp only [Sort.putRow, Sort.mapBlock, Sort.ahead, Array.getElem?_modify]
    rw [if_neg (by omega)]
    exact h.block k hk
theorem put_below {W w1 : World} (h : Below W.heap.size W w1) {b : Nat} (hb : W.heap.size ≤ b) (n : Nat) (d : Array (List UInt8)) :
    Below W.heap.size W (Sort.putRow encStr (Sort.ahead w1 n) b 0 d) := by
  have := sort_below h hb n d #[]
  simpa using this

/-- A row that holds texts: the sort's word for it. -/
theorem holds_own {w : World} {b c : Nat} {cur : Array Value} {e : TypeId} {l : List Str} (hb : w.heap[b]? = some (.cells cur e (0, 0))) (hc : ∀ (i : Nat) (hi : i < l.length), cur[i]? = some (.string ⟨l[i].toArray⟩)) :
    Sort.Holds encStr w b 0 l.toArray := by
  intro j hj
  have hj' : j < l.length := by simpa using hj
  rw [Nat.zero_add]
  refine ⟨?_, ?_⟩
  · rw [cells_of_block hb, hc j hj']
    simp [encStr, hj']
  · simp [World.frozen?, hb]

theorem insL_len (x : Str) : ∀ l : List Str, (insL' x l).length ≤ l.length + 1
  | [] => by simp [insL']
  | z :: r => by
    have := insL_len x r
    simp only [insL']
    split
    · simp
    · split
      · simp
      · simp; omega
theorem sortGo_len : ∀ (l acc : List Str), (l.foldl (fun acc x => insL' x acc) acc).length ≤ l.length + acc.length
  | [], acc => by simp
  | x :: r, acc => by
    have h1 := sortGo_len r (insL' x acc)
    have h2 := insL_len x acc
    simp at h1 ⊢; omega
theorem sortU_len (l : List Str) : (sortU l).length ≤ l.length := by
  have := sortGo_len l []; simpa [sortU] using this

/-- Sorted, each once: what the two calls make of a row. -/
theorem sorted_calls {W w : World} {v : Value} {l : List Str} (hl : l.length ≤ 1000000000) (hb : Below W.heap.size W w) (ho : OwnStrs W.heap.size w v l) :
    Calls Tryz.prog 36 #[v] w fun e w1 => e = .returned (.tuple #[]) ∧ Below W.heap.size W w1 ∧
      Calls Tryz.prog 37 #[v] w1 fun e w2 => ∃ v2, e = .returned v2 ∧ Below W.heap.size W w2 ∧
        ((sortU l = [] ∧ (v2 = .slice none 0 0 ∨ ∃ a c, v2 = .slice (some a) 0 c)) ∨ (sortU l ≠ [] ∧ ∃ b c, v2 = .slice (some ⟨b, 0, none⟩) (sortU l).length c ∧ (sortU l).length ≤ c ∧
          ∀ (i : Nat) (hi : i < (sortU l).length), w2.cell? ⟨b, i, none⟩ = some (.string ⟨(sortU l)[i].toArray⟩))) := by
  have none0 : ∀ p c, l = [] → v = .slice p 0 c → (v = .slice none 0 0 ∨ ∃ a c, v = .slice (some a) 0 c) → _ := fun p c hl0 hv hor =>
    (show Calls Tryz.prog 36 #[v] w fun e w1 => e = .returned (.tuple #[]) ∧ Below W.heap.size W w1 ∧
      Calls Tryz.prog 37 #[v] w1 fun e w2 => ∃ v2, e = .returned v2 ∧ Below W.heap.size W w2 ∧
        ((sortU l = [] ∧ (v2 = .slice none 0 0 ∨ ∃ a c, v2 = .slice (some a) 0 c)) ∨ (sortU l ≠ [] ∧ ∃ b c, v2 = .slice (some ⟨b, 0, none⟩) (sortU l).length c ∧ (sortU l).length ≤ c ∧
          ∀ (i : Nat) (hi : i < (sortU l).length), w2.cell? ⟨b, i, none⟩ = some (.string ⟨(sortU l)[i].toArray⟩))) from by
      subst hl0 hv
      refine (Tryz.slices_Sort_string_none p c w).mono fun e w1 ⟨h1, h2⟩ => ⟨h1, h2 ▸ hb, ?_⟩
      refine (Tryz.slices_Compact_string_empty p c w1).mono fun e w2 ⟨h3, h4⟩ => ⟨_, h3, by rw [h4, h2]; exact hb, .inl ⟨rfl, hor⟩⟩)
  rcases ho with ⟨hl0, hv0⟩ | ⟨b, c, cur, e, hv0, hbase, hlt, hblk, hc, hcm, hcs, hcell⟩
  · exact none0 none 0 hl0 hv0 (.inl hv0)
  by_cases hne : l = []
  · exact none0 (some ⟨b, 0, none⟩) c hne (by rw [hv0, hne]; rfl) (.inr ⟨_, c, by rw [hv0, hne]; rfl⟩)
  · subst hv0
    have hH := holds_own (c := c) hblk hcell
    refine (Tryz.slices_Sort_string b 0 c l w hH hlt (by omega)).mono fun e w1 ⟨h1, n, os, h2⟩ => ?_
    have hb1 : Below W.heap.size W w1 := h2 ▸ sort_below hb hbase n _ os
    refine ⟨h1, hb1, ?_⟩
    have hH0 : Sort.Holds encStr (Sort.ahead w n) b 0 l.toArray := hH
    have hH1 : Sort.Holds encStr w1 b 0 (l.mergeSort fun x y => decide (x ≤ y)).toArray := by
      rw [h2]
      refine Sort.holds_grow _ _ _ _ _ _ (by simpa [Sort.putRow, Sort.mapBlock, Sort.ahead] using hlt) ?_
      exact Sort.holds_putRow encStr _ b 0 l.toArray _ hH0 (by simp)
    have hlen : (l.mergeSort fun x y => decide (x ≤ y)).length = l.length := by simp
    have hc2 := Tryz.slices_Compact_string b 0 c (l.mergeSort fun x y => decide (x ≤ y)) w1 hH1 (by rw [hlen]; omega) (by rw [hlen]; exact hc)
    rw [hlen, lib_sorted] at hc2
    refine hc2.mono fun e w2 ⟨h3, q, h4⟩ => ?_
    have hsl : (sortU l).length ≤ l.length := by
      have := sortU_len l; exact this
    have hsn : sortU l ≠ [] := fun e => hne (by
      cases l with
      | nil => rfl
      | cons x r => have := (sortU_mem (x :: r) x).2 (by simp); rw [e] at this; cases this)
    refine ⟨_, h3, h4 ▸ put_below hb1 hbase q _, .inr ⟨hsn, b, c, rfl, by omega, fun i hi => ?_⟩⟩
    rw [h4]
    have h5 := Sort.cell?_putRow encStr (Sort.ahead w1 q) b 0 (l.mergeSort fun x y => decide (x ≤ y)).toArray (sortU l ++ List.replicate (l.length - (sortU l).length) []).toArray hH1 (by simp; omega) i (by simp; omega)
    rw [Nat.zero_add] at h5
    rw [h5]
    simp only [encStr, List.getElem!_toArray, List.getElem!_eq_getElem?_getD]
    rw [List.getElem?_append_left hi, List.getElem?_eq_getElem hi]
    rfl

theorem sort_room (t : Str) (ht : t.length ≤ 100000) : (joinL [32] (sortU (wordsL t))).length ≤ lim := by
  have := sort_len t; unfold lim; omega

set_option maxHeartbeats 1000000 in
theorem sort_walk (t r : ByteArray) (w : World) (P1 P2 P3 : Value → World → Prop) (P4 : World → Prop)
    (c19 : Calls Tryz.prog 19 #[.string t] w fun e w1 => ∃ v, e = .returned v ∧ P1 v w1)
    (c36 : ∀ v w1, P1 v w1 → Calls Tryz.prog 36 #[v] w1 fun e w2 => e = .returned (.tuple #[]) ∧ P2 v w2)
    (c37 : ∀ v w2, P2 v w2 → Calls Tryz.prog 37 #[v] w2 fun e w3 => ∃ v2, e = .returned v2 ∧ P3 v2 w3)
    (c21 : ∀ v2 w3, P3 v2 w3 → Calls Tryz.prog 21 #[v2] w3 fun e w4 => e = .returned (.string r) ∧ P4 w4) :
    Calls Tryz.prog 26 #[.string sortB, .string t] w fun e w' => e = .returned (.tuple #[.string r, .bool true]) ∧ P4 w' := by
  have e1 : (sortB.toList == [115, 116, 114, 105, 112]) = false := by rw [Lib.toList_data]; rfl
  have e2 : (sortB.toList == [115, 111, 114, 116]) = true := by rw [Lib.toList_data]; rfl
  go_enter Tryz.func26, Tryz.ntmps26
  go_wp2_with (first
    | (go_at_call 19; refine c19.mono ?_; rintro e w1 ⟨v, rfl, h1⟩)
    | (go_at_call 36; refine (c36 _ _ (by assumption)).mono ?_; rintro e w2 ⟨rfl, h2⟩)
    | (go_at_call 37; refine (c37 _ _ (by assumption)).mono ?_; rintro e w3 ⟨v2, rfl, h3⟩)
    | (go_at_call 21; refine (c21 _ _ (by assumption)).mono ?_; rintro e w4 ⟨rfl, h4⟩)
    | fail)
  go_ret2
  exact ⟨rfl, h4⟩

theorem one_sort {W w : World} (hW : Good W) (hP : Below W.heap.size W w) (t : Str) (ht : t.length ≤ 100000) :
    Calls Tryz.prog 26 #[.string sortB, .string ⟨t.toArray⟩] w fun e w' => e = .returned (.tuple #[.string ⟨(joinL [32] (sortU (wordsL t))).toArray⟩, .bool true]) ∧ Below w.heap.size w w' := by
  have hl := wordsL_len t
  refine sort_walk _ _ w (fun v w1 => Below w.heap.size w w1 ∧ OwnStrs w.heap.size w1 v (wordsL t))
    (fun v w2 => Below w.heap.size w w2 ∧ Calls Tryz.prog 37 #[v] w2 fun e w3 => ∃ v2, e = .returned v2 ∧ Below w.heap.size w w3 ∧
        ((sortU (wordsL t) = [] ∧ (v2 = .slice none 0 0 ∨ ∃ a c, v2 = .slice (some a) 0 c)) ∨ (sortU (wordsL t) ≠ [] ∧ ∃ b c, v2 = .slice (some ⟨b, 0, none⟩) (sortU (wordsL t)).length c ∧ (sortU (wordsL t)).length ≤ c ∧
          ∀ (i : Nat) (hi : i < (sortU (wordsL t)).length), w3.cell? ⟨b, i, none⟩ = some (.string ⟨(sortU (wordsL t))[i].toArray⟩))))
    (fun v2 w3 => Below w.heap.size w w3 ∧
        ((sortU (wordsL t) = [] ∧ (v2 = .slice none 0 0 ∨ ∃ a c, v2 = .slice (some a) 0 c)) ∨ (sortU (wordsL t) ≠ [] ∧ ∃ b c, v2 = .slice (some ⟨b, 0, none⟩) (sortU (wordsL t)).length c ∧ (sortU (wordsL t)).length ≤ c ∧
          ∀ (i : Nat) (hi : i < (sortU (wordsL t)).length), w3.cell? ⟨b, i, none⟩ = some (.string ⟨(sortU (wordsL t))[i].toArray⟩))))
    (fun w4 => Below w.heap.size w w4) ?_ ?_ ?_ ?_
  · exact (words_calls hW hP t (by omega)).mono fun e w1 ⟨v, h1, h2, h3⟩ => ⟨v, h1, h2, h3⟩
  · rintro v w1 ⟨h1, h2⟩
    exact (sorted_calls (W := w) (w := w1) (by omega) h1 h2).mono fun e w2 ⟨h3, h4, h5⟩ => ⟨h3, h4, h5⟩
  · rintro v w2 ⟨h1, h2⟩
    exact h2
  · rintro v2 w3 ⟨h1, h2⟩
    exact (join_calls hW (hP.trans (h1.mono hP.size)) _ (sort_room t ht) v2 h2).mono fun e w4 ⟨h3, h4⟩ => ⟨h3, h1.trans (h4.mono h1.size)⟩

theorem resAV_len {pf : PF} : ∀ {rs : List ResultVar} {xs : List AV}, resAV pf rs = some xs → xs.length = rs.length
  | [], xs, h => by simp [resAV] at h; subst h; rfl
  | r :: rs, xs, h => by
    cases r with
    | tmp t =>
      simp only [resAV, Option.map_eq_some_iff] at h
      obtain ⟨ys, hy, rfl⟩ := h
      simp [resAV_len hy]
    | cell a t => cases h
theorem finFn_len {rs : List ResultVar} {c : Cfg} {xs : List AV} {S : Obs} (h : finFn rs c = some (xs, S)) : xs.length = rs.length := by
  unfold finFn at h
  split at h
  · rename_i r S' h1 h2
    injection h with h; injection h with e1 e2
    rw [← e1]; exact resAV_len h1
  · cases h
theorem runFn_len {P : Program} {own : FuncId → Bool} {call : CallT} {n : Nat} {fn : Func} {c : Code} {avs xs : List AV} {S S' : Obs} (h : runFn P own call n fn c avs S = some (xs, S')) : xs.length = fn.results.toList.length := by
  unfold runFn at h
  split at h
  · split at h
    · exact finFn_len h
    · exact finFn_len h
    · cases h
  · cases h

/-- A function of one, whatever its name. -/
theorem ok26 {W : World} (hW : Good W) : FnOK Tryz.prog (GW W) own1 26 gOne := by
  refine ext_ok rfl fun R w args avs rs hP hs hargs hg => ?_
  unfold gOne at hg
  split at hg
  · rename_i name t
    split at hg
    · rename_i ht
      injection hg with hg; subst hg
      refine ⟨[.string ⟨(oneL name t).toArray⟩, .bool true], fun R' M => vrs_cons (.str _) (vrs_one (.bool _)), ?_⟩
      by_cases hn : name = [115, 111, 114, 116]
      · subst hn
        rw [hargs.str2]
        have := one_sort hW hP t ht
        exact this
      · letI : XX := X0
        have h := cp26 rfl (t.length + 1) t ht (by omega) name hn
        simp only [CP, callP] at h
        split at h
        case isFalse => cases h
        split at h
        case h_2 => cases h
        rename_i rs S hF
        split at h
        case isFalse => cases h
        injection h with h
        have hlen : rs.length = 2 := by
          have hF' := hF
          rw [F_fn rfl rfl Tryz.func26 rfl] at hF'
          exact runFn_len hF'
        refine (calls_of (ext_0 hW) hP hs hargs hF).mono fun e w' hp => ?_
        obtain ⟨vs, R', bl, rfl, hv', hst, hsr, ho⟩ := hp
        refine ⟨?_, stp_below hst⟩
        match rs, vs, hv', h with
        | [r1, r2], [u1, u2], hv', h =>
          have h1 := hv'.2 0 (by simp) (by simp)
          have h2 := hv'.2 1 (by simp) (by simp)
          simp only [packAV, AV.tup.injEq, List.cons.injEq, and_true] at h
          obtain ⟨rfl, rfl⟩ := h
          simp only [List.getElem_cons_zero, List.getElem_cons_succ] at h1 h2
          rw [h1.str_inv, h2.bool_inv]
        | [], vs, hv', h => cases h
        | [r], vs, hv', h => exact absurd hlen (by simp)
        | _ :: _ :: _ :: _, _, _, h => simp [packAV] at h
        | [_, _], [], hv', h => exact absurd hv'.1 (by simp)
        | [_, _], [_], hv', h => exact absurd hv'.1 (by simp)
        | [_, _], _ :: _ :: _ :: _, hv', h => exact absurd hv'.1 (by simp)
    · cases hg
  · cases hg
end Go.Proofs.YtaignnlnmffiaaaGreatDoor.Ex

/- Two lists put together word by word: joined. -/
namespace Go.Proofs.YtaignnlnmffiaaaGreatDoor.Ex
open Go Go.RowKit Go.Shelf

/-- What an append to a row may turn. -/
structure Grew (w : World) (v : Value) (w' : World) (v' : Value) : Prop where
  os : w'.os = w.os
  tape : w'.tape = w.tape
  output : w'.output = w.output
  size : w.heap.size ≤ w'.heap.size
  blk : ∀ k, k < w.heap.size → some k ≠ blockOf v → w'.heap[k]? = w.heap[k]?
  row : ∀ b, blockOf v' = some b → blockOf v = some b ∨ w.heap.size ≤ b

theorem app_run {w : World} {base : Nat} {v : Value} {l : List Str} {y : Str} {ad : Addr} {c : Nat} (hown : OwnStrs base w v l) (hbase : base ≤ w.heap.size) (hc1 : 1 ≤ c) (hc : w.cell? ad = some (.string ⟨y.toArray⟩)) (hab : blockOf v ≠ some ad.block)
    (hlen : l.length ≤ 1000000000) (d : Option Nat) (ty : TypeId) (p : String) (af : Array Edge) :
    ∃ v' w', (execOp (Act.eval ⟨#[v, .slice (some ad) 1 c], []⟩) ⟨d, .call { callee := .builtin .append, args := #[.tmp 0, .tmp 1], argTypes := #[22, 22] }, ty, p, af, none⟩).run Tryz.prog w = .ok (.value v') w' ∧
      OwnStrs base w' v' (l ++ [y]) ∧ Grew w v w' v' := by
  let R : Reads := fun a u => (∃ (i : Nat) (hi : i < l.length), (∃ b, blockOf v = some b ∧ a = ⟨b, i, none⟩) ∧ u = .string ⟨l[i].toArray⟩) ∨ (a = ad ∧ u = .string ⟨y.toArray⟩)
  have hs : Stab R w := by
    rintro a u (⟨i, hi, ⟨b, hb, rfl⟩, rfl⟩ | ⟨rfl, rfl⟩)
    · rcases hown with ⟨hl, hv⟩ | ⟨b', c', cur, e, rfl, h1, h2, h3, h4, h5, h6, h7⟩
      · rw [hl] at hi; simp at hi
      · injection hb with hb
        subst hb
        exact ⟨by rw [cells_of_block h3]; exact h7 i hi, rfl⟩
    · exact ⟨hc, rfl⟩
  have hv : VR R [] v (.sl 1 (l.map .str)) := by
    rcases hown with ⟨rfl, rfl⟩ | ⟨b', c', cur, e, rfl, h1, h2, h3, h4, h5, h6, h7⟩
    · exact .slnil 1
    · refine .sl _ _ _ _ _ (fun i _ => .string ⟨(l[i]?.getD []).toArray⟩) (by simp) h4 (by simp [AV.cells]) ?_ ?_
      · intro i j hi hj
        have hi' : i < l.length := by simpa using hi
        have : j = 0 := by omega
        subst this
        rw [add_plain, List.getElem?_eq_getElem hi', Nat.mul_one, Nat.add_zero]
        exact .inl ⟨i, hi', ⟨b', rfl, rfl⟩, rfl⟩
      · intro i j hi hj
        have hi' : i < l.length := by simpa using hi
        simp only [List.getElem_map, AV.cells, List.length_singleton] at hj ⊢
        have : j = 0 := by omega
        subst this
        rw [List.getElem?_eq_getElem hi']
        exact .str _
  have hx : VR R [] (.slice (some ad) 1 c) (.sl 1 [.str y]) := by
    refine .sl _ _ _ _ _ (fun _ _ => .string ⟨y.toArray⟩) rfl hc1 (by simp [AV.cells]) ?_ ?_
    · intro i j hi hj
      have h1 : i = 0 := by simpa using hi
      have h2 : j = 0 := by omega
      subst h1 h2
      exact .inr ⟨by simp [Addr.add], rfl⟩
    · intro i j hi hj
      have h1 : i = 0 := by simpa using hi
      subst h1
      simp only [List.getElem_cons_zero, AV.cells, List.length_singleton] at hj ⊢
      have : j = 0 := by omega
      subst this
      exact .str _
  have hO : OwnV R base w v 1 := by
    rcases hown with ⟨rfl, rfl⟩ | ⟨b', c', cur, e, rfl, h1, h2, h3, h4, h5, h6, h7⟩
    · exact .inl rfl
    · refine .inr ⟨b', _, c', cur, e, rfl, h1, h3, h4, h5, by omega, ?_⟩
      rintro a u (⟨i, hi, ⟨b, hb, rfl⟩, rfl⟩ | ⟨rfl, rfl⟩) hab'
      · simpa using hi
      · exact absurd (by rw [← hab']; rfl) hab
  let pf : PF := fun t => if t = 0 then .sl 1 (l.map .str) else if t = 1 then .sl 1 [.str y] else .undef
  have hf : FrR R [] (Act.tmps ⟨#[v, .slice (some ad) 1 c], []⟩) pf := by
    intro t
    match t with
    | 0 => exact hv
    | 1 => exact hx
    | t + 2 => exact .undef
  have hl2 : (l.length + 1) * 16 ≤ 140737488355328 := by omega
  have hev : evApp Tryz.prog [.tmp 0, .tmp 1] [22, 22] pf = some (.sl 1 (l.map .str ++ [.str y])) := by
    simp [evApp, pf, hl2]
  obtain ⟨v', w', R', sz, xs, hr, hst, hx', hv', hO', hb'⟩ := evApp_sound (o := ⟨d, .call { callee := .builtin .append, args := #[.tmp 0, .tmp 1], argTypes := #[22, 22] }, ty, p, af, none⟩) (a := ⟨#[v, .slice (some ad) 1 c], []⟩)
    (args := #[.tmp 0, .tmp 1]) (tys := #[22, 22]) (base := base) (s := .tmp 0) (y := .tmp 1) rfl rfl hf hs hbase hev (fun sz xs h => by
      simp only [opv, pf, if_true] at h
      injection h with h; injection h with h1 h2; subst h1
      exact hO)
  injection hx' with e1 e2
  subst e1 e2
  refine ⟨v', w', hr, ?_, hst.os, hst.tape, hst.output, hst.size, fun k hk hne => hst.blk k hk hne, hb'⟩
  refine ownStrs_of hst.stab (by simpa using hv') (hO'.mono_base (Nat.zero_le _)) fun b hb => ?_
  rcases hO' with rfl | ⟨b2, n2, c2, cur, e, rfl, h2, _⟩
  · cases hb
  · injection hb with hb; subst hb; exact h2

/-- The law at the operation. -/
theorem wpList_app {ops : Array Oper} {rest : List Oper} {a : Act} {Q : Exit → Act → World → Prop} {w : World} (d : Option Nat) (s x : Nat) (ty : TypeId) (p : String) (af : Array Edge) (base : Nat) (v : Value) (l : List Str) (y : Str) (ad : Addr) (c : Nat)
    (hs : a.eval (.tmp s) = v) (hx : a.eval (.tmp x) = .slice (some ad) 1 c) (hown : OwnStrs base w v l) (hbase : base ≤ w.heap.size) (hc1 : 1 ≤ c) (hc : w.cell? ad = some (.string ⟨y.toArray⟩)) (hab : blockOf v ≠ some ad.block) (hlen : l.length ≤ 1000000000)
    (h : ∀ v' w', OwnStrs base w' v' (l ++ [y]) → Grew w v w' v' → wpList Tryz.prog ops Q rest (a.put d v') w') :
    wpList Tryz.prog ops Q (⟨d, .call { callee := .builtin .append, args := #[.tmp s, .tmp x], argTypes := #[22, 22] }, ty, p, af, none⟩ :: rest) a w := by
  refine wpList_plain rfl fun K hK => ?_
  obtain ⟨v', w', hr, h1, h2⟩ := app_run hown hbase hc1 hc hab hlen d ty p af
  have e : (execOp a.eval ⟨d, .call { callee := .builtin .append, args := #[.tmp s, .tmp x], argTypes := #[22, 22] }, ty, p, af, none⟩) =
      (execOp (Act.eval ⟨#[v, .slice (some ad) 1 c], []⟩) ⟨d, .call { callee := .builtin .append, args := #[.tmp 0, .tmp 1], argTypes := #[22, 22] }, ty, p, af, none⟩) := by
    have e0 : Act.eval ⟨#[v, .slice (some ad) 1 c], []⟩ (.tmp 0) = v := rfl
    have e1 : Act.eval ⟨#[v, .slice (some ad) 1 c], []⟩ (.tmp 1) = .slice (some ad) 1 c := rfl
    simp only [execOp, resolve, List.map_toArray, List.map_cons, List.map_nil, hs, hx, e0, e1]
  unfold Oper.wp
  rw [e, hr]
  exact hK _ _ (h v' w' h1 h2)

end Go.Proofs.YtaignnlnmffiaaaGreatDoor.Ex

/- joined: the loop. -/
namespace Go.Proofs.YtaignnlnmffiaaaGreatDoor.Ex
open Go Go.RowKit Go.Shelf

theorem zip_len : ∀ a b : List Str, (zipAdd a b).length = max a.length b.length
  | a, [] => by cases a <;> simp [zipAdd]
  | [], y :: b => by simp [zipAdd]
  | x :: a, y :: b => by simp only [zipAdd, List.length_cons, zip_len a b]; omega
theorem zip_nil_left (b : List Str) : zipAdd [] b = b := by cases b <;> rfl
theorem zip_nil_right (a : List Str) : zipAdd a [] = a := by cases a <;> rfl
theorem zip_store : ∀ (a b : List Str) (k : Nat) (hk : k < b.length) (ha : k < (zipAdd a (b.take k)).length) (hka : k < a.length), zipAdd a (b.take (k + 1)) = (zipAdd a (b.take k)).set k ((zipAdd a (b.take k))[k] ++ b[k])
  | [], b, k, hk, ha, hka => by simp at hka
  | x :: a, [], k, hk, _, _ => by simp at hk
  | x :: a, y :: b, 0, hk, _, _ => by simp [zipAdd, zip_nil_right]
  | x :: a, y :: b, k + 1, hk, ha, hka => by
    have ih := zip_store a b k (by simpa using hk) (by simpa [zipAdd] using ha) (by simpa using hka)
    simp only [List.take_succ_cons, zipAdd, List.set_cons_succ, List.getElem_cons_succ]
    rw [ih]
theorem zip_app : ∀ (a b : List Str) (k : Nat) (hk : k < b.length) (hka : a.length ≤ k), zipAdd a (b.take (k + 1)) = zipAdd a (b.take k) ++ [b[k]]
  | [], b, k, hk, _ => by rw [zip_nil_left, zip_nil_left, List.take_succ_eq_append_getElem hk]
  | x :: a, b, 0, hk, hka => by simp at hka
  | x :: a, [], k, hk, _ => by simp at hk
  | x :: a, y :: b, k + 1, hk, hka => by
    have ih := zip_app a b k (by simpa using hk) (by simpa using hka)
    simp only [List.take_succ_cons, zipAdd, List.getElem_cons_succ, List.cons_append]
    rw [ih]

theorem OwnStrs.mono_world {base : Nat} {w w' : World} {v : Value} {l : List Str} (h : OwnStrs base w v l) (hsz : w.heap.size ≤ w'.heap.size) (hb : ∀ b, blockOf v = some b → b < w.heap.size → w'.heap[b]? = w.heap[b]?) : OwnStrs base w' v l := by
  rcases h with h | ⟨b, c, cur, e, rfl, h1, h2, h3, h4, h5, h6, h7⟩
  · exact .inl h
  · exact .inr ⟨b, c, cur, e, rfl, h1, by omega, by rw [hb b rfl h2]; exact h3, h4, h5, h6, h7⟩

def strV (s : Str) : Value := .string ⟨s.toArray⟩

/-- The loop's state: the row so far, and the other row as it was. -/
structure JJ (w : World) (bB : Nat) (LA LB : List Str) (k : Nat) (v : Value) (wr : World) : Prop where
  own : OwnStrs w.heap.size wr v (zipAdd LA (LB.take k))
  below : Below w.heap.size w wr
  ne : blockOf v ≠ some bB
  lt : bB < wr.heap.size
  base : w.heap.size ≤ bB
  cells : ∀ (i : Nat) (hi : i < LB.length), wr.cell? ⟨bB, i, none⟩ = some (strV LB[i])

section
variable {w wr : World} {bB k : Nat} {LA LB : List Str} {v : Value}

theorem JJ.len (h : JJ w bB LA LB k v wr) (hk : k ≤ LB.length) : ∃ A c, v = .slice A (max LA.length k) c := by
  have hl : (zipAdd LA (LB.take k)).length = max LA.length k := by rw [zip_len]; simp; omega
  rcases h.own with ⟨h1, rfl⟩ | ⟨b, c, cur, e, rfl, _⟩
  · refine ⟨none, 0, ?_⟩
    rw [h1] at hl; simp at hl; rw [← hl]
  · exact ⟨_, c, by rw [hl]⟩

theorem JJ.at (h : JJ w bB LA LB k v wr) (hk : k < LB.length) (hka : k < LA.length) : ∃ b c, ∃ x : Str, x ∈ zipAdd LA (LB.take k) ∧ v = .slice (some ⟨b, 0, none⟩) LA.length c ∧ wr.cell? ⟨b, k, none⟩ = some (strV x) ∧ wr.frozen? ⟨b, k, none⟩ = false ∧
    JJ w bB LA LB (k + 1) v (wr.setCell ⟨b, k, none⟩ (strV (x ++ LB[k]))) := by
  have hl : (zipAdd LA (LB.take k)).length = LA.length := by rw [zip_len]; simp; omega
  rcases h.own with ⟨h1, rfl⟩ | ⟨b, c, cur, e, rfl, h1, h2, h3, h4, h5, h6, h7⟩
  · rw [h1] at hl; simp at hl; omega
  · have hkl : k < (zipAdd LA (LB.take k)).length := by omega
    refine ⟨b, c, (zipAdd LA (LB.take k))[k], List.getElem_mem hkl, by rw [hl], by rw [cells_of_block h3]; exact h7 k hkl, by simp [World.frozen?, h3], ?_⟩
    have hblk : (wr.setCell ⟨b, k, none⟩ (strV ((zipAdd LA (LB.take k))[k] ++ LB[k]))).heap[b]? = some (.cells (cur.setIfInBounds k (strV ((zipAdd LA (LB.take k))[k] ++ LB[k]))) e (0, 0)) := by
      simp [World.setCell, Array.getElem?_modify, h3]
    have hoth : ∀ i, i ≠ b → (wr.setCell ⟨b, k, none⟩ (strV ((zipAdd LA (LB.take k))[k] ++ LB[k]))).heap[i]? = wr.heap[i]? := fun i hi => Below.heap_setCell _ _ _ _ hi
    have hbB : bB ≠ b := fun e => h.ne (by rw [e]; rfl)
    refine ⟨.inr ⟨b, c, cur.setIfInBounds k (strV ((zipAdd LA (LB.take k))[k] ++ LB[k])), e, ?_, h1, by simpa [World.setCell] using h2, hblk, ?_, h5, by simpa using h6, ?_⟩, h.below.setCell h1 _, h.ne, by simpa [World.setCell] using h.lt, h.base, ?_⟩
    · rw [zip_store LA LB k hk hkl hka, List.length_set]
    · rw [zip_store LA LB k hk hkl hka, List.length_set]; exact h4
    · intro i hi
      rw [zip_store LA LB k hk hkl hka, List.length_set] at hi
      rw [Array.getElem?_setIfInBounds]
      by_cases e : k = i
      · subst e
        rw [if_pos rfl, if_pos (by omega)]
        simp only [zip_store LA LB k hk hkl hka, List.getElem_set_self]
        rfl
      · rw [if_neg e]
        simp only [zip_store LA LB k hk hkl hka, List.getElem_set_ne e]
        exact h7 i hi
    · intro i hi
      rw [World.cell?_of_block (hoth bB hbB)]
      exact h.cells i hi

theorem JJ.alloc (h : JJ w bB LA LB k v wr) (o : Obj) : JJ w bB LA LB k v (wr.alloc o) := by
  have hsz : (wr.alloc o).heap.size = wr.heap.size + 1 := by simp
  have hold : ∀ i, i < wr.heap.size → (wr.alloc o).heap[i]? = wr.heap[i]? := fun i hi => Below.heap_alloc _ _ _ hi
  refine ⟨h.own.mono_world (by omega) (fun b _ hb => hold b hb), h.below.alloc h.below.size o, h.ne, by have := h.lt; omega, h.base, fun i hi => ?_⟩
  rw [World.cell?_of_block (hold bB h.lt)]
  exact h.cells i hi

theorem JJ.app (h : JJ w bB LA LB k v wr) (hk : k < LB.length) (hka : LA.length ≤ k) {v' : Value} {w' : World} (ho : OwnStrs w.heap.size w' v' (zipAdd LA (LB.take k) ++ [LB[k]])) (hg : Grew wr v w' v') : JJ w bB LA LB (k + 1) v' w' := by
  have hbl : ∀ b, blockOf v = some b → w.heap.size ≤ b := by
    intro b hb
    rcases h.own with ⟨_, rfl⟩ | ⟨b', c, cur, e, rfl, h1, _⟩
    · cases hb
    · have : b' = b := by simpa [blockOf] using hb
      omega
  have hbB : some bB ≠ blockOf v := fun e => h.ne e.symm
  refine ⟨by rw [zip_app LA LB k hk hka]; exact ho, h.below.trans ⟨hg.os, hg.tape, hg.output, hg.size, fun i hi => hg.blk i (by have := h.below.size; omega) fun e => by have := hbl i e.symm; omega⟩, fun e => ?_, by have := hg.size; have := h.lt; omega, h.base, fun i hi => ?_⟩
  · rcases hg.row bB e with h1 | h1
    · exact h.ne h1
    · have := h.lt; omega
  · rw [World.cell?_of_block (hg.blk bB h.lt hbB)]
    exact h.cells i hi
end

theorem new_cell (w : World) (v : Value) (t : TypeId) : (w.alloc (.cells #[v] t)).cell? ⟨w.heap.size, 0, none⟩ = some v := by
  have : (w.alloc (.cells #[v] t)).heap[w.heap.size]? = some (.cells #[v] t (0, 0)) := by
    show (w.heap.push _)[w.heap.size]? = _
    simp
  rw [cells_of_block this]; rfl

theorem JJ.fresh {w wr : World} {bB k : Nat} {LA LB : List Str} {v : Value} (h : JJ w bB LA LB k v wr) : blockOf v ≠ some wr.heap.size := by
  rcases h.own with ⟨_, rfl⟩ | ⟨b, c, cur, e, rfl, _, h2, _⟩
  · intro e; cases e
  · intro e
    have : b = wr.heap.size := by simpa [blockOf] using e
    omega

theorem wrap64n (k : Nat) (h : k ≤ 1000000000) : IntKind.wrap .i64 ((k : Int) + 1) = (k : Int) + 1 := wrap64 (by omega) (by omega)

set_option maxHeartbeats 4000000 in
theorem joined_walk (sA sB r : ByteArray) (w : World) (LA LB : List Str) (hA : LA.length ≤ 200000) (hB : LB.length ≤ 200000) (hw1 : ∀ (k : Nat) (x : Str), x ∈ zipAdd LA (LB.take k) → x.length ≤ 1000000) (hw2 : ∀ y ∈ LB, y.length ≤ 1000000) (Q1 : Value → World → Prop) (P4 : World → Prop)
    (c1 : Calls Tryz.prog 19 #[.string sA] w fun e w1 => ∃ vA, e = .returned vA ∧ Q1 vA w1)
    (c2 : ∀ vA w1, Q1 vA w1 → Calls Tryz.prog 19 #[.string sB] w1 fun e w2 => ∃ bB cB, e = .returned (.slice (some ⟨bB, 0, none⟩) LB.length cB) ∧ JJ w bB LA LB 0 vA w2)
    (c3 : ∀ bB v w3, JJ w bB LA LB LB.length v w3 → Calls Tryz.prog 21 #[v] w3 fun e w4 => e = .returned (.string r) ∧ P4 w4) :
    Calls Tryz.prog 47 #[.string sA, .string sB] w fun e w' => e = .returned (.string r) ∧ P4 w' := by
  have H1 := Lib.hid hw1
  have H2 := Lib.hid hw2
  clear hw1 hw2
  go_enter Tryz.func47, Tryz.ntmps47
  go_wp2_with (first
    | (go_at_call 19; ((with_reducible refine c1.mono ?_); rintro e w1 ⟨vA, rfl, q1⟩))
    | (go_at_call 19; ((with_reducible refine (c2 _ _ (by assumption)).mono ?_); rintro e w2 ⟨bB, cB, rfl, q2⟩))
    | fail)
  go_loopw [5, 7, 8, 15] (fun v _ _ i wr => ∃ k : Nat, k ≤ LB.length ∧ i = .int .i64 k ∧ JJ w bB LA LB k v wr) (fun _ _ _ i _ => LB.length - (Go.RowKit.intOf i).toNat)
  case atStart => exact ⟨0, Nat.zero_le _, rfl, q2⟩
  case round =>
    obtain ⟨k, hk, rfl, hJ⟩ := hrel
    by_cases hlt : k < LB.length
    · have hcB := hJ.cells k hlt
      have hy := H2.out _ (List.getElem_mem hlt)
      by_cases hka : k < LA.length
      · obtain ⟨b, c, x, hx, hv, hcA, hfA, hJ'⟩ := hJ.at hlt hka
        have hxl := H1.out k x hx
        subst hv
        generalize LB[k] = y at *
        have hcat : (⟨x.toArray⟩ : ByteArray) ++ ⟨y.toArray⟩ = ⟨(x ++ y).toArray⟩ := by
          apply ByteArray.ext; simp [ByteArray.data_append]
        have hs1 := sz x
        have hs2 := sz y
        have hn1 : ¬ ((9223372036854775807 : Int) < (x.length : Int) + (y.length : Int)) := by omega
        unfold strV at hcB hcA hJ'
        have HJ := Lib.hid hJ'
        have HX := Lib.hid hx
        clear hJ' hx hJ q2
        go_wp2
        go_roundw
        case rel => exact ⟨k + 1, by omega, by go_num, by have := HJ.out; rw [← hcat] at this; exact this⟩
        case measure => simp [Go.RowKit.intOf]; omega
      · obtain ⟨A, c, hv⟩ := hJ.len hk
        have hmax : max LA.length k = k := by omega
        rw [hmax] at hv
        subst hv
        unfold strV at hcB
        have hlenL : (zipAdd LA (LB.take k)).length ≤ 1000000000 := by rw [zip_len]; simp; omega
        have HL := Lib.hid hlenL
        clear hlenL q2 hmax
        go_wp2_with (first
          | (at_builtin; refine wpList_app _ 31 33 _ _ _ w.heap.size _ (zipAdd LA (LB.take k)) LB[k] ⟨wr.heap.size, 0, none⟩ 1 rfl rfl (hJ.alloc _).own (hJ.alloc _).below.size (Nat.le_refl _) (new_cell _ _ _) hJ.fresh HL.out ?_; intro v' w' hown' hgrew)
          | fail)
        go_roundw
        case rel => exact ⟨k + 1, by omega, by go_num, (hJ.alloc _).app hlt (by omega) hown' hgrew⟩
        case measure => simp [Go.RowKit.intOf]; omega
    · have : k = LB.length := by omega
      subst this
      obtain ⟨A, c, hv⟩ := hJ.len hk
      subst hv
      go_wp2_with (first | (go_at_call 21; refine (c3 _ _ _ hJ).mono ?_; rintro e w4 ⟨rfl, h4⟩) | fail)
      go_ret
      exact ⟨rfl, h4⟩

theorem zip_mem (M N : Nat) : ∀ (a b : List Str), (∀ x ∈ a, x.length ≤ M) → (∀ y ∈ b, y.length ≤ N) → ∀ z ∈ zipAdd a b, z.length ≤ M + N
  | a, [], ha, hb, z, hz => by rw [zip_nil_right] at hz; have := ha z hz; omega
  | [], y :: b, ha, hb, z, hz => by rw [zip_nil_left] at hz; have := hb z hz; omega
  | x :: a, y :: b, ha, hb, z, hz => by
    simp only [zipAdd, List.mem_cons] at hz
    rcases hz with rfl | hz
    · have := ha x (by simp); have := hb y (by simp); simp; omega
    · exact zip_mem M N a b (fun x hx => ha x (by simp [hx])) (fun y hy => hb y (by simp [hy])) z hz

set_option maxHeartbeats 4000000 in
theorem joined_walk0 (sA sB r : ByteArray) (w : World) (Q1 Q2 : Value → World → Prop) (P4 : World → Prop)
    (c1 : Calls Tryz.prog 19 #[.string sA] w fun e w1 => ∃ vA, e = .returned vA ∧ Q1 vA w1)
    (c2 : ∀ vA w1, Q1 vA w1 → Calls Tryz.prog 19 #[.string sB] w1 fun e w2 => ∃ A c, e = .returned (.slice A 0 c) ∧ Q2 vA w2)
    (c3 : ∀ v w3, Q2 v w3 → Calls Tryz.prog 21 #[v] w3 fun e w4 => e = .returned (.string r) ∧ P4 w4) :
    Calls Tryz.prog 47 #[.string sA, .string sB] w fun e w' => e = .returned (.string r) ∧ P4 w' := by
  go_enter Tryz.func47, Tryz.ntmps47
  go_wp2_with (first
    | (go_at_call 19; ((with_reducible refine c1.mono ?_); rintro e w1 ⟨vA, rfl, q1⟩))
    | (go_at_call 19; ((with_reducible refine (c2 _ _ (by assumption)).mono ?_); rintro e w2 ⟨A, c, rfl, q2⟩))
    | fail)
  go_loopw [5, 7, 8, 15] (fun v _ _ i wr => v = vA ∧ i = .int .i64 0 ∧ Q2 vA wr) (fun _ _ _ _ _ => 0)
  case atStart => exact ⟨rfl, rfl, q2⟩
  case round =>
    obtain ⟨rfl, rfl, hq⟩ := hrel
    go_wp2_with (first | (go_at_call 21; refine (c3 _ _ (by assumption)).mono ?_; rintro e w4 ⟨rfl, h4⟩) | fail)
    go_ret
    exact ⟨rfl, h4⟩

theorem joined_all {W w : World} (hW : Good W) (hP : Below W.heap.size W w) (s t : Str) (hs : s.length ≤ 100000) (ht : t.length ≤ 100000) :
    Calls Tryz.prog 47 #[.string ⟨s.toArray⟩, .string ⟨t.toArray⟩] w fun e w' => e = .returned (.string ⟨(joinL [32] (zipAdd (wordsL s) (wordsL t))).toArray⟩) ∧ Below w.heap.size w w' := by
  have l1 := wordsL_len s
  have l2 := wordsL_len t
  have room : (joinL [32] (zipAdd (wordsL s) (wordsL t))).length ≤ lim := by
    have h1 := zip_sum (wordsL s) (wordsL t)
    have h2 := wordsL_sum s
    have h3 := wordsL_sum t
    have h4 := join_length_le (zipAdd (wordsL s) (wordsL t))
    unfold lim; omega
  have c1 : Calls Tryz.prog 19 #[.string ⟨s.toArray⟩] w fun e w1 => ∃ vA, e = .returned vA ∧ (Below w.heap.size w w1 ∧ OwnStrs w.heap.size w1 vA (wordsL s)) :=
    (words_calls hW hP s (by omega)).mono fun e w1 ⟨v, h1, h2, h3⟩ => ⟨v, h1, h2, h3⟩
  have join : ∀ v w3 l, (joinL [32] l).length ≤ lim → Below w.heap.size w w3 → OwnStrs w.heap.size w3 v l → Calls Tryz.prog 21 #[v] w3 fun e w4 => e = .returned (.string ⟨(joinL [32] l).toArray⟩) ∧ Below w.heap.size w w4 := by
    intro v w3 l hl hb ho
    refine (join_calls hW (hP.trans (hb.mono hP.size)) l hl v ?_).mono fun e w4 ⟨h1, h2⟩ => ⟨h1, hb.trans (h2.mono hb.size)⟩
    rcases ho with ⟨h1, h2⟩ | ⟨b, c, cur, e, rfl, h1, h2, h3, h4, h5, h6, h7⟩
    · exact .inl ⟨h1, .inl h2⟩
    · by_cases hl0 : l = []
      · exact .inl ⟨hl0, .inr ⟨⟨b, 0, none⟩, c, by rw [hl0]; rfl⟩⟩
      · exact .inr ⟨hl0, b, c, rfl, h4, fun i hi => by rw [cells_of_block h3]; exact h7 i hi⟩
  have c2 : ∀ vA w1, (Below w.heap.size w w1 ∧ OwnStrs w.heap.size w1 vA (wordsL s)) → Calls Tryz.prog 19 #[.string ⟨t.toArray⟩] w1 fun e w2 => ∃ v, e = .returned v ∧ Below w.heap.size w w2 ∧ OwnStrs w.heap.size w2 vA (wordsL s) ∧
      OwnStrs w1.heap.size w2 v (wordsL t) ∧ (∀ b, blockOf vA = some b → b < w1.heap.size) := by
    rintro vA w1 ⟨hb1, ho1⟩
    refine (words_calls hW (hP.trans (hb1.mono hP.size)) t (by omega)).mono fun e w2 ⟨v, h1, h2, h3⟩ => ⟨v, h1, hb1.trans (h2.mono hb1.size), ho1.mono_world h2.size (fun b _ hb => h2.block b hb), h3, fun b hb => ?_⟩
    rcases ho1 with ⟨_, rfl⟩ | ⟨b', c, cur, e, rfl, _, h4, _⟩
    · cases hb
    · have : b' = b := by simpa [blockOf] using hb
      omega
  by_cases hB : wordsL t = []
  · rw [hB, zip_nil_right] at room ⊢
    refine joined_walk0 _ _ _ w _ (fun v w2 => Below w.heap.size w w2 ∧ OwnStrs w.heap.size w2 v (wordsL s)) (fun w4 => Below w.heap.size w w4) c1 (fun vA w1 h => (c2 vA w1 h).mono fun e w2 ⟨v, h1, h2, h3, h4, _⟩ => ?_) (fun v w3 ⟨h1, h2⟩ => join v w3 _ room h1 h2)
    rw [hB] at h4
    rcases h4 with ⟨_, rfl⟩ | ⟨b, c, cur, e, rfl, _⟩
    · exact ⟨none, 0, h1, h2, h3⟩
    · exact ⟨_, c, h1, h2, h3⟩
  · refine joined_walk _ _ _ w (wordsL s) (wordsL t) (by omega) (by omega) (fun k x hx => ?_) (fun y hy => by have := wordsL_mem t y hy; omega) _ (fun w4 => Below w.heap.size w w4) c1 (fun vA w1 h => (c2 vA w1 h).mono fun e w2 ⟨v, h1, h2, h3, h4, h5⟩ => ?_)
      (fun bB v w3 h => join v w3 _ room h.below (by have := h.own; rwa [List.take_length] at this))
    · have := zip_mem s.length t.length (wordsL s) ((wordsL t).take k) (fun x hx => wordsL_mem s x hx) (fun y hy => wordsL_mem t y (List.mem_of_mem_take hy)) x hx
      omega
    · rcases h4 with ⟨h, _⟩ | ⟨b, c, cur, e, rfl, g1, g2, g3, g4, g5, g6, g7⟩
      · exact absurd h hB
      · refine ⟨b, c, h1, by rw [List.take_zero, zip_nil_right]; exact h3, h2, fun e => ?_, g2, by have := h.1.size; omega, fun i hi => by rw [cells_of_block g3]; exact g7 i hi⟩
        have := h5 b e; omega

theorem ok47 {W : World} (hW : Good W) : FnOK Tryz.prog (GW W) own1 47 gJoined := by
  refine ext_ok rfl fun R w args avs rs hP hs hargs hg => ?_
  unfold gJoined at hg
  split at hg
  · rename_i s t
    split at hg
    · rename_i hl
      injection hg with hg; subst hg
      rw [hargs.str2]
      exact ⟨[.string ⟨(joinL [32] (zipAdd (wordsL s) (wordsL t))).toArray⟩], fun R' M => vrs_one (.str _), joined_all hW hP s t hl.1 hl.2⟩
    · cases hg
  · cases hg

/-- Both told of: what the laws are walked over. -/
@[reducible] def X1 : XX := ⟨some gOne, some gJoined⟩
theorem full1 : @Full X1 := ⟨rfl, rfl⟩
theorem ext_1 {W : World} (hW : Good W) : ∀ f g, @ext0 X1 f = some g → callable Tryz.prog f = true ∧ FnOK Tryz.prog (GW W) own1 f g :=
  @ext_all W X1 hW (fun g h => by injection h with h; subst h; exact ⟨by kernel_rfl, ok26 hW⟩) (fun g h => by injection h with h; subst h; exact ⟨by kernel_rfl, ok47 hW⟩)
end Go.Proofs.YtaignnlnmffiaaaGreatDoor.Ex

/- The rows' frame: what is laid, a world that fits, what a walked law comes to. -/
namespace Go.Proofs.YtaignnlnmffiaaaGreatDoor.Ex
open Go Go.RowKit Go.Shelf Go.ChangeShapes Go.WideShapes Go.ChangeAt

theorem own0 : ownKnob Tryz.prog.godebug = none := by kernel_rfl
theorem star0 : "*" ++ "errors.errorString" = "*errors.errorString" := by decide
theorem row146 (u : TypeId) (h : Tryz.prog.typeName? 3 u = some "*errors.errorString") : u = 146 :=
  typeName_ptr_named (nm := "errors.errorString") (by rw [star0]; kernel_rfl) (by kernel_rfl) (by decide) u (by rw [star0]; exact h)

/-- A table's cells. -/
def flatD (d : DataW Unit) : List Value :=
  match d with
  | .agg l => l.flatMap fun x => match x with
    | .lit (.int k n) => [.int k n]
    | .agg m => m.flatMap fun y => match y with
      | .lit (.int k n) => [.int k n]
      | _ => []
    | _ => []
  | _ => []

/-- A world for the witness: the settled one, the two errors' structs behind it, the variables holding what their initialisers lay. -/
noncomputable def laidWorld (os : Os) : World :=
  let N := (World.settled Tryz.prog os).heap.size
  let w0 := World.holding Tryz.prog os ⟨#[.cells #[.string ⟨#[105, 110, 118, 97, 108, 105, 100, 32, 115, 121, 110, 116, 97, 120]⟩] 148, .cells #[.string ⟨#[118, 97, 108, 117, 101, 32, 111, 117, 116, 32, 111, 102, 32, 114, 97, 110, 103, 101]⟩] 148], #[], []⟩
  let put (h : Array Obj) (g : Nat) (cs : Array Value) : Array Obj := h.modify g fun
    | .cells _ t frozen => .cells cs t frozen
    | o => o
  let h0 := put (put w0.heap 0 #[.iface 146 (.pointer (some ⟨N, 0, none⟩))]) 1 #[.iface 146 (.pointer (some ⟨N + 1, 0, none⟩))]
  let h1 := put h0 3 (flatD Rows.laid_internal_strconv_uint64pow10).toArray
  let h2 := put h1 4 (flatD Rows.laid_unicode_utf8_first).toArray
  let h3 := put h2 5 (flatD Rows.laid_unicode_utf8_acceptRanges).toArray
  let h4 := put h3 6 (flatD Rows.laid_math_bits_deBruijn32tab).toArray
  let h5 := put h4 7 (flatD Rows.laid_math_bits_deBruijn64tab).toArray
  { w0 with heap := h5 }

/-- What all the rows of this seat list. -/
noncomputable abbrev laidL : List (String × DataW Unit) := Rows.callPiecesRow.laid

theorem laid_met (os : Os) (args : Array Value) : laidMet Tryz.prog laidL ((laidWorld os).forCall (fun _ _ => 0) ⟨#[], args, []⟩).memory :=
  laidMet_of_run' 8 (by kernel_rfl) (by kernel_rfl)

theorem tab_eq : Rows.laid_internal_strconv_uint64pow10 = Lib.tabData (H := Unit) .u64 Lib.pow10Tab := by kernel_rfl

/-- What the row's list gives. -/
theorem good_of {W : World} (hL : laidMetH Tryz.prog laidL W) (hsh : W.ShapedOpen Tryz.prog) : Good W := by
  have hL' : laidMet Tryz.prog laidL W := hL
  have ml : ∃ m, W.cell? ⟨2, 0, none⟩ = some (.int .i64 m) :=
    Go.Proofs.cell_of_shapedOpen_int (zero := #[.int .i64 0]) (t := 3) hsh (of_decide_eq_true (by kernel_rfl)) (by kernel_rfl) rfl (by kernel_rfl) (by kernel_rfl) Tryz.underlying3
  have h3 : laidMet Tryz.prog (("internal/strconv.uint64pow10", Lib.tabData .u64 Lib.pow10Tab) :: [("unicode/utf8.acceptRanges", Rows.laid_unicode_utf8_acceptRanges), ("strconv.ErrRange", Rows.laid_strconv_ErrRange), ("strconv.ErrSyntax", Rows.laid_strconv_ErrSyntax), ("unicode/utf8.first", Rows.laid_unicode_utf8_first)]) W := by
    have := hL'.tail.tail
    rw [tab_eq] at this
    exact this
  obtain ⟨a1, t1, hv1, hc1, ht1, _⟩ := laid_sentinel (g := 1) h3.tail.tail (by kernel_rfl) (by kernel_rfl) Tryz.underlying55 row146 Tryz.underlying146 Tryz.underlying148 rfl rfl Tryz.underlying9 (by kernel_rfl) (by kernel_rfl)
  obtain ⟨a0, t0, hv0, hc0, ht0, _⟩ := laid_sentinel (g := 0) h3.tail.tail.tail (by kernel_rfl) (by kernel_rfl) Tryz.underlying55 row146 Tryz.underlying146 Tryz.underlying148 rfl rfl Tryz.underlying9 (by kernel_rfl) (by kernel_rfl)
  refine ⟨ml, ?_, ?_, Lib.tabIs_of_head (rest := _) (g := 3) (t := 150) (e := 53) (n := 20) (by kernel_rfl) (by kernel_rfl) Tryz.underlying150 Tryz.underlying53 (by kernel_rfl) (by kernel_rfl) h3⟩
  · exact ⟨146, _, by simpa using World.var?_cell (by kernel_rfl) hv0 0⟩
  · exact ⟨146, _, by simpa using World.var?_cell (by kernel_rfl) hv1 0⟩

/-- A walked law: the machine's call. -/
theorem law_calls {W : World} (hW : Good W) {n : Nat} {f : FuncId} {avs : List AV} {R : Reads} {args : List Value} (h : CP (@F X1 n) f avs (.bool true)) (hs : Stab R W) (ha : VRs R [] args avs) :
    Calls Tryz.prog f args.toArray W fun e w' => e = .returned (.bool true) ∧ Below W.heap.size W w' := by
  simp only [CP, callP] at h
  split at h
  case isFalse => cases h
  split at h
  case h_2 => cases h
  rename_i rs S hF
  split at h
  case isFalse => cases h
  injection h with h
  refine (@calls_of W X1 (ext_1 hW) n f R W args avs rs S (Below.refl _ _) hs ha hF).mono fun e w' hp => ?_
  obtain ⟨vs, R', bl, rfl, hv', hst, hsr, ho⟩ := hp
  refine ⟨?_, stp_below hst⟩
  match rs, vs, hv', h with
  | [r], [u], hv', h =>
    have h1 := hv'.2 0 (by simp) (by simp)
    simp only [packAV] at h
    subst h
    simp only [List.getElem_cons_zero] at h1
    rw [h1.bool_inv]; rfl
  | [], vs, hv', h => cases h
  | _ :: _ :: _, _, _, h => cases h
  | [r], [], hv', h => exact absurd hv'.1 (by simp)
  | [r], _ :: _ :: _, hv', h => exact absurd hv'.1 (by simp)

theorem vr_string {R : Reads} {M : List Nat} (s : ByteArray) : VR R M (.string s) (.str s.data.toList) := by
  have : s = ⟨s.data.toList.toArray⟩ := by cases s; simp
  conv => lhs; rw [this]
  exact .str _

end Go.Proofs.YtaignnlnmffiaaaGreatDoor.Ex

/- Loops by count; the examples; pieces of words. -/
namespace Go.Proofs.YtaignnlnmffiaaaGreatDoor.Ex
open Go

/-- A loop that counts to the end. -/
theorem iter_count {E : Cfg → Option (PX × Cfg)} {S : Obs} {D : List Nat} (id : Nat) (I : Nat → PF → Prop) (len : Nat)
    (step : ∀ i pf, i < len → I i pf → ∃ pf', E ⟨pf, S, D⟩ = some (.norm, ⟨pf', S, D⟩) ∧ I (i + 1) pf')
    (stop : ∀ pf, I len pf → ∃ pf', E ⟨pf, S, D⟩ = some (.ex id, ⟨pf', S, D⟩) ∧ I len pf') :
    ∀ (k i n : Nat) (pf : PF) (r : Option (PX × Cfg)), i + k = len → iter E n ⟨pf, S, D⟩ = r → I i pf → k < n → ∃ pf', r = some (.ex id, ⟨pf', S, D⟩) ∧ I len pf' := by
  intro k
  induction k with
  | zero =>
    intro i n pf r hi hr hI hn
    obtain ⟨n, rfl⟩ : ∃ m, n = m + 1 := ⟨n - 1, by omega⟩
    have : i = len := by omega
    subst this
    obtain ⟨pf', he, hI'⟩ := stop pf hI
    simp only [iter, he] at hr
    exact ⟨pf', hr.symm, hI'⟩
  | succ k ih =>
    intro i n pf r hi hr hI hn
    obtain ⟨n, rfl⟩ : ∃ m, n = m + 1 := ⟨n - 1, by omega⟩
    obtain ⟨pf', he, hI'⟩ := step i pf (by omega) hI
    simp only [iter, he] at hr
    exact ih (i + 1) n pf' r (by omega) hr hI' (by omega)

/-- A loop with a measure. -/
theorem iter_gen {E : Cfg → Option (PX × Cfg)} {S : Obs} {D : List Nat} {σ : Type} (μ : σ → Nat) (I : σ → PF → Prop) (Q : PX → PF → Prop)
    (step : ∀ s pf, I s pf → (∃ s' pf', E ⟨pf, S, D⟩ = some (.norm, ⟨pf', S, D⟩) ∧ μ s' < μ s ∧ I s' pf') ∨ (∃ x pf', x ≠ .norm ∧ E ⟨pf, S, D⟩ = some (x, ⟨pf', S, D⟩) ∧ Q x pf')) :
    ∀ (n : Nat) (s : σ) (pf : PF) (r : Option (PX × Cfg)), iter E n ⟨pf, S, D⟩ = r → I s pf → μ s < n → ∃ x pf', r = some (x, ⟨pf', S, D⟩) ∧ Q x pf' := by
  intro n
  induction n with
  | zero => intro s pf r _ _ h; omega
  | succ n ih =>
    intro s pf r hr hI hn
    rcases step s pf hI with ⟨s', pf', he, hm, hI'⟩ | ⟨x, pf', hx, he, hq⟩
    · simp only [iter, he] at hr
      exact ih s' pf' r hr hI' (by omega)
    · refine ⟨x, pf', ?_, hq⟩
      cases x with
      | norm => exact absurd rfl hx
      | ex i => simp only [iter, he] at hr; exact hr.symm
      | ret => simp only [iter, he] at hr; exact hr.symm

theorem cp12 [XX] (hX : Full) (m : Nat) : CP (F (m + 50)) 12 [] (.bool true) := by
  have c1 : callL [112, 97, 116, 115, 117, 98, 115, 116] [[37, 46, 99], [37, 46, 111], [97, 46, 99, 32, 98, 46, 104]] = ([97, 46, 111, 32, 98, 46, 104], 0) := by
    rw [callL_fin (by decide) rfl]
    have : toldL (gSub [37, 46, 99] [37, 46, 111]) [97, 46, 99, 32, 98, 46, 104] = [97, 46, 111, 32, 98, 46, 104] := by decide
    simp [ansL, threeL, finL, this]
  have c2 : callL [115, 111, 114, 116] [[98, 32, 97, 32, 98]] = ([97, 32, 98], 0) := by
    rw [callL_fin (by decide) rfl]
    have : joinL [32] (sortU (wordsL [98, 32, 97, 32, 98])) = [97, 32, 98] := by decide
    simp [ansL, oneL, finL, this]
  have c3 : callL [100, 105, 114] [[120, 47, 121, 32, 122]] = ([120, 47, 32, 46, 47], 0) := by
    rw [callL_fin (by decide) rfl]
    have : toldL (gPart [100, 105, 114]) [120, 47, 121, 32, 122] = [120, 47, 32, 46, 47] := by decide
    simp [ansL, oneL, finL, this]
  have h1 := cp14 hX (m + 29) [112, 97, 116, 115, 117, 98, 115, 116] [[37, 46, 99], [37, 46, 111], [97, 46, 99, 32, 98, 46, 104]] (by simp) (by simp)
  have h2 := cp14 hX (m + 29) [115, 111, 114, 116] [[98, 32, 97, 32, 98]] (by simp) (by simp)
  have h3 := cp14 hX (m + 29) [100, 105, 114] [[120, 47, 121, 32, 122]] (by simp) (by simp)
  rw [c1] at h1
  rw [c2] at h2
  rw [c3] at h3
  simp only [CP, List.map_cons, List.map_nil] at h1 h2 h3
  generalize hn : m + 29 + 20 = n at h1 h2 h3
  have e : m + 50 = n + 1 := by omega
  rw [e]
  clear hn e
  refine F_cp (rs := [.bool true]) (S := []) rfl rfl ?_
  rw [F_fn rfl rfl Tryz.func12 rfl]
  simp (config := { maxSteps := 2000000 }) [runFn, Tryz.f12, h1, h2, h3]

end Go.Proofs.YtaignnlnmffiaaaGreatDoor.Ex

/- What is known of the callees at any depth that is great enough; pieces of words. -/
namespace Go.Proofs.YtaignnlnmffiaaaGreatDoor.Ex
open Go

def deep (n : Nat) : Prop := 3000000 ≤ n
theorem deep_some : ∃ n, deep n := ⟨3000000, by unfold deep; exact Nat.le_refl _⟩

section
variable [XX] {n : Nat}
theorem a19 (hn : deep n) (s : Str) (hs : s.length ≤ 2000000) : callP (F n) (.f 19) [.str s] = some (.sl 1 ((wordsL s).map .str)) := by
  unfold deep at hn; exact cp19 n s (by omega) (by omega)
theorem a14 (hn : deep n) (hX : Full) (name : Str) (args : List Str) (ha : ∀ a ∈ args, a.length ≤ 100000) : callP (F n) (.f 14) [.str name, .sl 1 (args.map .str)] = some (.tup [.str (callL name args).1, .int .i64 (callL name args).2]) := by
  unfold deep at hn
  obtain ⟨m, rfl⟩ : ∃ m, n = m + 20 := ⟨n - 20, by omega⟩
  exact cp14 hX m name args ha (fun a h => by have := ha a h; omega)
theorem a18 (hn : deep n) (hX : Full) (name : Str) (args : List Str) (ha : ∀ a ∈ args, a.length ≤ 100000) : callP (F n) (.f 18) [.str name, .sl 1 (args.map .str)] = some (.str (ofL name args)) := by
  unfold deep at hn
  obtain ⟨m, rfl⟩ : ∃ m, n = m + 21 := ⟨n - 21, by omega⟩
  exact cp18 hX m name args ha (fun a h => by have := ha a h; omega)
theorem a18_1 (hn : deep n) (hX : Full) (name t : Str) (ht : t.length ≤ 100000) : callP (F n) (.f 18) [.str name, .sl 1 [.str t]] = some (.str (ofL name [t])) :=
  a18 hn hX name [t] (by simpa using ht)
theorem a18_2 (hn : deep n) (hX : Full) (name a t : Str) (ha : a.length ≤ 100000) (ht : t.length ≤ 100000) : callP (F n) (.f 18) [.str name, .sl 1 [.str a, .str t]] = some (.str (ofL name [a, t])) :=
  a18 hn hX name [a, t] (by simp [ha, ht])
theorem a18_3 (hn : deep n) (hX : Full) (name a b t : Str) (ha : a.length ≤ 100000) (hb : b.length ≤ 100000) (ht : t.length ≤ 100000) : callP (F n) (.f 18) [.str name, .sl 1 [.str a, .str b, .str t]] = some (.str (ofL name [a, b, t])) :=
  a18 hn hX name [a, b, t] (by simp [ha, hb, ht])
theorem a12 (hn : deep n) (hX : Full) : callP (F n) (.f 12) [] = some (.bool true) := by
  unfold deep at hn
  obtain ⟨m, rfl⟩ : ∃ m, n = m + 50 := ⟨n - 50, by omega⟩
  exact cp12 hX m
theorem a16 (hn : deep n) (name : Str) : callP (F n) (.f 16) [.str name] = some (.int .i64 (manyL name)) := by
  unfold deep at hn
  obtain ⟨m, rfl⟩ : ∃ m, n = m + 1 := ⟨n - 1, by omega⟩
  exact cp16 m name
theorem a17 (hn : deep n) (name : Str) : callP (F n) (.f 17) [.str name] = some (.int .i64 (manyL name)) := by
  unfold deep at hn
  obtain ⟨m, rfl⟩ : ∃ m, n = m + 1 := ⟨n - 1, by omega⟩
  exact cp17 m name
theorem a21 (hn : deep n) (l : List Str) (h : (joinL [32] l).length ≤ lim) : callP (F n) (.f 21) [.sl 1 (l.map .str)] = some (.str (joinL [32] l)) := by
  unfold deep at hn
  obtain ⟨m, rfl⟩ : ∃ m, n = m + 2 := ⟨n - 2, by omega⟩
  exact cp21 m l h
theorem a24 (hn : deep n) (s : Str) (hs : s.length ≤ big) : callP (F n) (.f 24) [.str s] = some (.str (trimB s)) := by
  unfold deep at hn
  obtain ⟨m, rfl⟩ : ∃ m, n = m + 2 := ⟨n - 2, by omega⟩
  exact cp24 m s hs
theorem a22 (hn : deep n) (s : Str) (hs : s.length ≤ big) : callP (F n) (.f 22) [.str s] = some (.tup [.int .i64 (numP s).1, .bool (numP s).2]) := by
  unfold deep at hn
  obtain ⟨m, rfl⟩ : ∃ m, n = m + 1 := ⟨n - 1, by omega⟩
  exact cp22 m s hs
end

theorem pieces_law (w : Str) (h : okW w = true) (hl : w.length ≤ 500) :
    ((ofL [100, 105, 114] [w] ++ ofL [110, 111, 116, 100, 105, 114] [w] != w) && ((ofL [100, 105, 114] [w] != [46, 47]) || (ofL [110, 111, 116, 100, 105, 114] [w] != w))) = false ∧ ofL [98, 97, 115, 101, 110, 97, 109, 101] [w] ++ ofL [115, 117, 102, 102, 105, 120] [w] = w := by
  have h1 := baseL_join w
  refine ⟨?_, ?_⟩
  · rw [of_dir h (by omega), of_notdir h (by omega)]
    by_cases hd : (baseL w).1 = []
    · rw [hd] at h1
      rw [if_pos hd, show (baseL w).2.1 ++ (baseL w).2.2 = w from h1]
      simp
    · rw [if_neg hd, h1]; simp
  · rw [of_basename h (by omega), of_suffix h (by omega), List.append_assoc, h1]

set_option maxHeartbeats 4000000 in
theorem law6 [XX] (hX : Full) (n : Nat) (hn : deep n) (s : Str) (hs : s.length ≤ 2000000) : CP (F (n + 1)) 6 [.str s] (.bool true) := by
  have h12 := a12 hn hX
  have h19 := a19 hn s hs
  refine F_cp (rs := [.bool true]) (S := []) rfl rfl ?_
  rw [F_fn rfl rfl Tryz.func6 rfl]
  by_cases h5 : 500 < s.length
  · have e : decide ((500 : Int) < (s.length : Int)) = true := by simpa using (by omega : (500 : Int) < (s.length : Int))
    simp [runFn, Tryz.f6, h12, h19, e]
  have e5 : decide ((500 : Int) < (s.length : Int)) = false := by simpa using (by omega : ¬ (500 : Int) < (s.length : Int))
  by_cases h1 : (wordsL s).length = 1
  · obtain ⟨w, hw⟩ := List.length_eq_one_iff.1 h1
    have hok := wordsL_okW s w (by rw [hw]; simp)
    have hlen := wordsL_mem s w (by rw [hw]; simp)
    obtain ⟨p1, p2⟩ := pieces_law w hok (by omega)
    have l1 := partL_len [100, 105, 114] w
    have d1 := a18_1 hn hX [100, 105, 114] w (by omega)
    have d2 := a18_1 hn hX [110, 111, 116, 100, 105, 114] w (by omega)
    have d3 := a18_1 hn hX [98, 97, 115, 101, 110, 97, 109, 101] w (by omega)
    have d4 := a18_1 hn hX [115, 117, 102, 102, 105, 120] w (by omega)
    have e1 : (ofL [100, 105, 114] [w]).length ≤ 2000 := by rw [of_dir hok (by omega)]; have := baseL_len w; split <;> simp <;> omega
    have e2 : (ofL [110, 111, 116, 100, 105, 114] [w]).length ≤ 2000 := by rw [of_notdir hok (by omega)]; have := baseL_len w; simp; omega
    have e3 : (ofL [98, 97, 115, 101, 110, 97, 109, 101] [w]).length ≤ 2000 := by rw [of_basename hok (by omega)]; have := baseL_len w; simp; omega
    have e4 : (ofL [115, 117, 102, 102, 105, 120] [w]).length ≤ 2000 := by rw [of_suffix hok (by omega)]; have := baseL_len w; omega
    rw [hw] at h19
    generalize ofL [100, 105, 114] [w] = x1 at *
    generalize ofL [110, 111, 116, 100, 105, 114] [w] = x2 at *
    generalize ofL [98, 97, 115, 101, 110, 97, 109, 101] [w] = x3 at *
    generalize ofL [115, 117, 102, 102, 105, 120] [w] = x4 at *
    have f1 : x1.length + x2.length ≤ 9223372036854775807 := by omega
    have f2 : x3.length + x4.length ≤ 9223372036854775807 := by omega
    simp only [List.map_cons, List.map_nil] at h19
    simp only [bne, bstr] at p1
    simp [runFn, Tryz.f6, h12, h19, e5, d1, d2, d3, d4, f1, f2, p2, bstr]
    by_cases c1 : x1 ++ x2 = w
    · simp [c1, p2, d3, d4, f2]
    · simp [c1] at p1
      obtain ⟨p3, p4⟩ := p1
      subst p3 p4
      have c2 : ¬ (46 :: 47 :: x2 = x2) := c1
      simp [c2, p2, d3, d4, f2]
  · have e1 : (((wordsL s).length : Int) == 1) = false := by simpa using (by omega : ¬ ((wordsL s).length : Int) = 1)
    simp [runFn, Tryz.f6, h12, h19, e5, e1, bne]

end Go.Proofs.YtaignnlnmffiaaaGreatDoor.Ex

/- Two lists are the same; a number as a text; words put together one by one. -/
namespace Go.Proofs.YtaignnlnmffiaaaGreatDoor.Ex
open Go

theorem w64 {i : Nat} (h : i ≤ 4000000000) : IntKind.wrap .i64 ((i : Int) + 1) = ((i + 1 : Nat) : Int) := by
  rw [wrap64 (by omega) (by omega)]; omega

theorem cp20 [XX] (n : Nat) (l : List Str) (hl : l.length ≤ 1000000000) (hn : l.length < n) : CP (F (n + 1)) 20 [.sl 1 (l.map .str), .sl 1 (l.map .str)] (.bool true) := by
  refine F_cp (rs := [.bool true]) (S := []) (by simp [noBoxL, noBox]) rfl ?_
  rw [F_fn rfl rfl Tryz.func20 rfl]
  simp [runFn, Tryz.f20]
  generalize hI : iter _ _ _ = r
  obtain ⟨pf', rfl, h⟩ := iter_count 0 (fun i pf => pf 0 = .sl 1 (l.map .str) ∧ pf 1 = .sl 1 (l.map .str) ∧ pf 5 = .int .i64 i) l.length
    (fun i pf hi h => by
      obtain ⟨h0, h1, h5⟩ := h
      have hw := w64 (i := i) (by omega)
      simp [h0, h1, h5, hi, hw])
    (fun pf h => by
      obtain ⟨h0, h1, h5⟩ := h
      simp [h0, h1, h5]) l.length 0 n _ r (by omega) hI (by simp) (by omega)
  simp

theorem dig_slice : ∀ d : Fin 10, (([48, 49, 50, 51, 52, 53, 54, 55, 56, 57] : Str).drop d.val).take 1 = [digB d.val] := by decide
theorem dig_slice' (d : Nat) (h : d < 10) : (([48, 49, 50, 51, 52, 53, 54, 55, 56, 57] : Str).drop d).take 1 = [digB d] := dig_slice ⟨d, h⟩

theorem tmod10 (m : Nat) : ((m : Int).tmod 10) = ((m % 10 : Nat) : Int) := by
  rw [Int.tmod_eq_emod_of_nonneg (by omega)]; omega
theorem tdiv10 (m : Nat) : ((m : Int).tdiv 10) = ((m / 10 : Nat) : Int) := by
  rw [Int.tdiv_eq_ediv_of_nonneg (by omega)]; omega

def decI (k : Nat) (x : Nat × Str) : Prop := (x.2 = [] ∧ x.1 = k) ∨ (x.2 ≠ [] ∧ x.1 = 0 ∧ x.2 = decL k) ∨ (x.2 ≠ [] ∧ x.1 ≠ 0 ∧ decL x.1 ++ x.2 = decL k)
theorem decI_step {k m : Nat} {s : Str} (h : decI k (m, s)) (hgo : m ≠ 0 ∨ s = []) : decI k (m / 10, digB (m % 10) :: s) := by
  have key : decL m ++ s = decL k := by
    rcases h with ⟨h1, h2⟩ | ⟨h1, h2, h3⟩ | ⟨h1, h2, h3⟩
    · simp only at h1 h2; rw [h1, h2, List.append_nil]
    · simp only at h1 h2; rcases hgo with h | h
      · exact absurd h2 h
      · exact absurd h h1
    · exact h3
  by_cases hm : m < 10
  · refine .inr (.inl ⟨by simp, ?_, ?_⟩)
    · show m / 10 = 0; omega
    · show digB (m % 10) :: s = decL k
      rw [decL_small hm] at key
      rw [← key, Nat.mod_eq_of_lt hm]; rfl
  · refine .inr (.inr ⟨by simp, ?_, ?_⟩)
    · show m / 10 ≠ 0; omega
    · show decL (m / 10) ++ digB (m % 10) :: s = decL k
      rw [decL_big hm] at key
      rw [← key]; simp
theorem decI_len {k m : Nat} {s : Str} (h : decI k (m, s)) (hk : k < 1000000000) : s.length ≤ 9 := by
  have hl := decL_len 8 k (by simpa using hk)
  rcases h with ⟨h1, _⟩ | ⟨_, _, h3⟩ | ⟨_, _, h3⟩
  · simp only at h1; rw [h1]; simp
  · simp only at h3; rw [h3]; omega
  · have := congrArg List.length h3
    simp only [List.length_append] at this; omega

set_option maxHeartbeats 1000000 in
theorem cp23 [XX] (n k : Nat) (hk : k < 1000000000) (hn : k + 1 < n) : CP (F (n + 1)) 23 [.int .i64 k] (.str (decL k)) := by
  refine F_cp (rs := [.str (decL k)]) (S := []) rfl rfl ?_
  rw [F_fn rfl rfl Tryz.func23 rfl]
  simp [runFn, Tryz.f23]
  generalize hI : iter _ _ _ = r
  obtain ⟨x, pf', rfl, h⟩ := iter_gen (fun x : Nat × Str => if x.1 = 0 ∧ x.2 ≠ [] then 0 else x.1 + 1) (fun x pf => pf 0 = .int .i64 x.1 ∧ pf 3 = .str x.2 ∧ decI k x ∧ x.1 ≤ k)
    (fun x pf => x = .ex 0 ∧ pf 3 = .str (decL k))
    (fun x pf h => by
      obtain ⟨m, s⟩ := x
      obtain ⟨h0, h3, hd, hmk⟩ := h
      simp only at h0 h3 hmk
      have hsl := decI_len hd hk
      have hd10 : m % 10 < 10 := Nat.mod_lt _ (by decide)
      have e1 := tmod10 m
      have e2 := tdiv10 m
      have e3 := w64 (i := m % 10) (by omega)
      have e4 : IntKind.wrap .i64 ((m / 10 : Nat) : Int) = ((m / 10 : Nat) : Int) := wrap64 (by omega) (by omega)
      have e5 := dig_slice' (m % 10) hd10
      have e6 : ((m % 10 + 1 : Nat) : Int) ≤ 10 := by omega
      have e7 : ((m % 10 : Nat) : Int) ≤ ((m % 10 + 1 : Nat) : Int) := by omega
      have e8 : (0 : Int) ≤ ((m % 10 + 1 : Nat) : Int) := by omega
      have e9 : (0 : Int) ≤ ((m % 10 : Nat) : Int) := by omega
      have e10 : min 1 (10 - m % 10) + s.length ≤ 9223372036854775807 := by omega
      have e13 : 1 + s.length ≤ 9223372036854775807 := by omega
      have e12 : min 1 (10 - m % 10) ≤ 9223372036854775807 := by omega
      generalize hq : ((m % 10 + 1 : Nat) : Int) = q at *
      generalize hp : ((m % 10 : Nat) : Int) = p at *
      generalize hv : ((m / 10 : Nat) : Int) = v at *
      have hqn : q.toNat = m % 10 + 1 := by omega
      have hpn : p.toNat = m % 10 := by omega
      have e11 : p ≤ (m : Int) % 10 + 1 := by omega
      have hlt : (if m / 10 = 0 ∧ digB (m % 10) :: s ≠ [] then 0 else m / 10 + 1) < (if m = 0 ∧ s ≠ [] then 0 else m + 1) ∨ (m = 0 ∧ s ≠ []) := by
        by_cases h1 : m = 0 ∧ s ≠ []
        · exact .inr h1
        · left
          rw [if_neg h1]
          split
          · omega
          · rename_i h2
            have : m / 10 ≠ 0 := fun e => h2 ⟨e, by simp⟩
            omega
      by_cases hgo : m = 0 ∧ s ≠ []
      · right
        obtain ⟨hm, hs⟩ := hgo
        have hs' : decide ((0 : Int) < (m : Int)) = false := by simp; omega
        have hs2 : (s == []) = false := by simpa using hs
        have hfin : s = decL k := by
          rcases hd with ⟨g1, _⟩ | ⟨_, _, g3⟩ | ⟨_, g2, _⟩
          · exact absurd g1 hs
          · exact g3
          · exact absurd hm g2
        refine ⟨.ex 0, ?_⟩
        simp [h0, h3, hs', hs2, hm, hs, ← hfin]
      · left
        have hmeas := hlt.resolve_right hgo
        have hst := decI_step hd (by by_cases e : m = 0; exact .inr (Classical.byContradiction fun e2 => hgo ⟨e, e2⟩); exact .inl e)
        refine ⟨(m / 10, digB (m % 10) :: s), ?_⟩
        have hle : m / 10 ≤ k := by omega
        by_cases hm : m = 0
        · have hs : s = [] := Classical.byContradiction fun e2 => hgo ⟨hm, e2⟩
          have hs' : ¬ 0 < m := by omega
          subst hs
          simp only [List.cons_ne_nil, ne_eq, not_false_eq_true, and_true] at hmeas
          simp [h0, h3, hs', e1, e2, e3, e4, e5, e6, e7, e8, e9, e11, e12, hqn, hpn, hst, hle, hmeas, hv]
          split <;> omega
        · have hs' : 0 < m := by omega
          simp [h0, h3, hs', e1, e2, e3, e4, e5, e6, e7, e8, e9, e11, e12, e13, hqn, hpn, e10, e5, hst, hle, hmeas, hv, hm]
          split <;> omega) n (k, []) _ r hI ⟨by simp, by simp, .inl ⟨rfl, rfl⟩, Nat.le_refl _⟩ (by simp; omega)
  obtain ⟨rfl, h3⟩ := h
  simp [h3]

theorem joinL_app (l : List Str) (w : Str) (h : l ≠ []) : joinL [32] (l ++ [w]) = joinL [32] l ++ 32 :: w := by
  induction l with
  | nil => exact absurd rfl h
  | cons a l ih =>
    cases l with
    | nil => simp [joinL]
    | cons b l =>
      have := ih (by simp)
      show a ++ [32] ++ joinL [32] ((b :: l) ++ [w]) = a ++ [32] ++ joinL [32] (b :: l) ++ 32 :: w
      rw [this]; simp
theorem joinL_take (l : List Str) (i : Nat) (h : i < l.length) : joinL [32] (l.take (i + 1)) = (if i = 0 then [] else joinL [32] (l.take i) ++ [32]) ++ l[i] := by
  rw [List.take_succ_eq_append_getElem h]
  by_cases hi : i = 0
  · subst hi; simp [joinL]
  · rw [joinL_app _ _ (fun e => by have h9 := congrArg List.length e; rw [List.length_take, List.length_nil] at h9; omega), if_neg hi]; simp

theorem sumLen_take (l : List Str) (i : Nat) : sumLen (l.take i) ≤ sumLen l := by
  induction l generalizing i with
  | nil => simp
  | cons a l ih => cases i with
    | zero => simp [sumLen]
    | succ i => have := ih i; simp only [List.take_succ_cons, sumLen]; omega

set_option maxHeartbeats 1000000 in
theorem cp25 [XX] (n : Nat) (l : List Str) (hb : sumLen l + l.length ≤ 1000000) (hn : l.length < n) : CP (F (n + 1)) 25 [.sl 1 (l.map .str)] (.str (joinL [32] l)) := by
  refine F_cp (rs := [.str (joinL [32] l)]) (S := []) (by simp [noBoxL, noBox]) rfl ?_
  rw [F_fn rfl rfl Tryz.func25 rfl]
  simp [runFn, Tryz.f25]
  generalize hI : iter _ _ _ = r
  obtain ⟨pf', rfl, h⟩ := iter_count 0 (fun i pf => pf 0 = .sl 1 (l.map .str) ∧ pf 3 = .str (joinL [32] (l.take i)) ∧ pf 4 = .int .i64 i) l.length
    (fun i pf hi h => by
      obtain ⟨h0, h3, h4⟩ := h
      have hw := w64 (i := i) (by omega)
      have hj := joinL_take l i hi
      have l1 : (joinL [32] (l.take i)).length ≤ 1000000 := by
        have h1 := join_length_le (l.take i)
        have h2 := sumLen_take l i
        have h3 : (l.take i).length ≤ l.length := by rw [List.length_take]; omega
        omega
      have l2 : (joinL [32] (l.take (i + 1))).length ≤ 1000000 := by
        have h1 := join_length_le (l.take (i + 1))
        have h2 := sumLen_take l (i + 1)
        have h3 : (l.take (i + 1)).length ≤ l.length := by rw [List.length_take]; omega
        omega
      rw [hj] at l2 ⊢
      by_cases hi0 : i = 0
      · subst hi0
        simp only [↓reduceIte, List.nil_append] at l2
        have h3' : pf 3 = .str [] := h3
        have e1 : l[0].length ≤ 9223372036854775807 := by omega
        have e2 : IntKind.wrap .i64 1 = 1 := wrap64 (by omega) (by omega)
        simp [h0, h3', h4, hi, hw, e1, e2]
      · generalize joinL [32] (l.take i) = x at *
        rw [if_neg hi0] at l2 ⊢
        simp only [List.length_append, List.length_cons, List.length_nil] at l2
        have hi1 : 0 < i := by omega
        have e1 : x.length + 1 ≤ 9223372036854775807 := by omega
        have e2 : x.length + 1 + l[i].length ≤ 9223372036854775807 := by omega
        have e3 : x.length + (1 + l[i].length) ≤ 9223372036854775807 := by omega
        have e4 : x.length + (l[i].length + 1) ≤ 9223372036854775807 := by omega
        simp [h0, h3, h4, hi, hw, hi1, e1, e2, e3, e4])
    (fun pf h => by
      obtain ⟨h0, h3, h4⟩ := h
      simp [h0, h3, h4]) l.length 0 n _ r (by omega) hI (by simp [joinL]) (by omega)
  obtain ⟨h0, h3, h4⟩ := h
  simp [h3]

theorem a20 [XX] {n : Nat} (hn : deep n) (l : List Str) (hl : l.length ≤ 1000000) : callP (F n) (.f 20) [.sl 1 (l.map .str), .sl 1 (l.map .str)] = some (.bool true) := by
  unfold deep at hn
  obtain ⟨m, rfl⟩ : ∃ m, n = m + 1 := ⟨n - 1, by omega⟩
  exact cp20 m l (by omega) (by omega)
theorem a23 [XX] {n : Nat} (hn : deep n) (k : Nat) (hk : k ≤ 1000000) : callP (F n) (.f 23) [.int .i64 k] = some (.str (decL k)) := by
  unfold deep at hn
  obtain ⟨m, rfl⟩ : ∃ m, n = m + 1 := ⟨n - 1, by omega⟩
  exact cp23 m k (by omega) (by omega)
theorem a25 [XX] {n : Nat} (hn : deep n) (l : List Str) (hb : sumLen l + l.length ≤ 1000000) : callP (F n) (.f 25) [.sl 1 (l.map .str)] = some (.str (joinL [32] l)) := by
  unfold deep at hn
  obtain ⟨m, rfl⟩ : ∃ m, n = m + 1 := ⟨n - 1, by omega⟩
  exact cp25 m l hb (by omega)

end Go.Proofs.YtaignnlnmffiaaaGreatDoor.Ex

/- What is sorted: each word once, in order. -/
namespace Go.Proofs.YtaignnlnmffiaaaGreatDoor.Ex
open Go

theorem any_take (w : List Str) (x : Str) (k : Nat) (h : k < w.length) : (w.take (k + 1)).any (· == x) = ((w.take k).any (· == x) || w[k] == x) := by
  rw [List.take_succ_eq_append_getElem h]; simp only [List.any_append, List.any_cons, List.any_nil, Bool.or_false]
theorem any_full {w : List Str} {x : Str} (h : x ∈ w) : (w.take w.length).any (· == x) = true := by
  rw [List.take_length]; simpa using h

theorem strict_get : ∀ {l : List Str}, strict l → ∀ i (h : i + 1 < l.length), Op.bytesLess l[i] l[i + 1] = true
  | x :: y :: r, hs, 0, _ => hs.1
  | x :: y :: r, hs, i + 1, h => strict_get (strict_tail hs) i (by simpa using h)
theorem strict_not_leq {l : List Str} (hs : strict l) (i : Nat) (h : i + 1 < l.length) : (Op.bytesLess l[i + 1] l[i] || l[i + 1] == l[i]) = false := by
  have h1 := strict_get hs i h
  have h2 : Op.bytesLess l[i + 1] l[i] = false := by
    cases hb : Op.bytesLess l[i + 1] l[i] with
    | false => rfl
    | true => have := less_trans h1 hb; rw [less_irrefl] at this; cases this
  have h3 : (l[i + 1] == l[i]) = false := by
    cases hb : (l[i + 1] == l[i]) with
    | false => rfl
    | true =>
      have e : l[i + 1] = l[i] := by simpa using hb
      rw [e, less_irrefl] at h1; cases h1
  rw [h2, h3]; rfl

theorem sortU_lenT (t : Str) : (sortU (wordsL t)).length ≤ t.length + 1 := by
  have h1 := sortU_sum (wordsL t)
  have h2 := wordsL_sum t
  omega

set_option maxHeartbeats 8000000 in
theorem law4 [XX] (hX : Full) (n : Nat) (hn : deep n) (t : Str) : CP (F (n + 1)) 4 [.str t] (.bool true) := by
  have h12 := a12 hn hX
  refine F_cp (rs := [.bool true]) (S := []) rfl rfl ?_
  rw [F_fn rfl rfl Tryz.func4 rfl]
  by_cases h5 : 1000 < t.length
  · have e : decide ((1000 : Int) < (t.length : Int)) = true := by simpa using (by omega : (1000 : Int) < (t.length : Int))
    simp [runFn, Tryz.f4, h12, e]
  have e5 : decide ((1000 : Int) < (t.length : Int)) = false := by simpa using (by omega : ¬ (1000 : Int) < (t.length : Int))
  have h1 := a18_1 hn hX [115, 111, 114, 116] t (by omega)
  rw [of_sort t (by omega)] at h1
  have h2 := a19 hn t (by omega)
  have hsl := sort_len t
  have h3 := a19 hn (joinL [32] (sortU (wordsL t))) (by omega)
  have h4 := a18_1 hn hX [115, 111, 114, 116] (joinL [32] (sortU (wordsL t))) (by omega)
  rw [of_sort _ (by omega), words_sort, sortU_twice] at h4
  rw [words_sort] at h3
  have hst := sortU_strict (wordsL t)
  have hmem := sortU_mem (wordsL t)
  have hll := sortU_lenT t
  have hwl := wordsL_len t
  have hdn : 3000000 ≤ n := hn
  generalize joinL [32] (sortU (wordsL t)) = s at *
  generalize sortU (wordsL t) = l at *
  generalize wordsL t = w at *
  simp [runFn, Tryz.f4, h12, h1, h2, h3, h4, e5]
  generalize hI : iter _ _ _ = r
  obtain ⟨pf', rfl, h⟩ := iter_count 0 (fun i pf => pf 4 = .str s ∧ pf 5 = .sl 1 (w.map .str) ∧ pf 6 = .sl 1 (l.map .str) ∧ pf 7 = .int .i64 i) l.length
    (fun i pf hi h => by
      obtain ⟨p4, p5, p6, p7⟩ := h
      have hw := w64 (i := i) (by omega)
      have hin : l[i] ∈ w := (hmem _).1 (List.getElem_mem hi)
      have hord : ∀ h0 : 0 < i, (Op.bytesLess l[i] (l[i - 1]'(by omega)) || l[i] == (l[i - 1]'(by omega))) = false := by
        intro h0
        obtain ⟨j, rfl⟩ : ∃ j, i = j + 1 := ⟨i - 1, by omega⟩
        exact strict_not_leq hst j hi
      have hs1 : ∀ h0 : 0 < i, IntKind.wrap .i64 ((i : Int) - 1) = ((i - 1 : Nat) : Int) := by
        intro h0; rw [wrap64 (by omega) (by omega)]; omega
      by_cases h0 : 0 < i
      · have ho := hord h0
        have hs2 := hs1 h0
        have hi2 : i - 1 < l.length := by omega
        simp [p4, p5, p6, p7, hi, hw, h0, ho, hs2, hi2]
        generalize hJ : iter _ _ _ = r2
        obtain ⟨pf2, rfl, hq⟩ := iter_count 2 (fun k pf => pf 4 = .str s ∧ pf 5 = .sl 1 (w.map .str) ∧ pf 6 = .sl 1 (l.map .str) ∧ pf 7 = .int .i64 i ∧ pf 9 = .int .i64 k ∧ pf 8 = .bool (((w).take k).any (· == l[i]))) w.length
          (fun k pf hk h => by
            obtain ⟨q0, q1, q2, q3, qc, qf⟩ := h
            have hw2 := w64 (i := k) (by omega)
            have ha := any_take w l[i] k hk
            rw [ha]
            generalize ((w).take k).any (· == l[i]) = b at *
            cases b <;> simp [q0, q1, q2, q3, qc, qf, hk, hw2, hi])
          (fun pf h => by
            obtain ⟨q0, q1, q2, q3, qc, qf⟩ := h
            simp [q0, q1, q2, q3, qc, qf]) w.length 0 n _ r2 (by omega) hJ (by simp [p4, p5, p6, p7]) (by omega)
        obtain ⟨q0, q1, q2, q3, qc, qf⟩ := hq
        rw [any_full hin] at qf
        simp [q0, q1, q2, q3, qc, qf, hw]
      · simp [p4, p5, p6, p7, hi, hw, h0]
        generalize hJ : iter _ _ _ = r2
        obtain ⟨pf2, rfl, hq⟩ := iter_count 2 (fun k pf => pf 4 = .str s ∧ pf 5 = .sl 1 (w.map .str) ∧ pf 6 = .sl 1 (l.map .str) ∧ pf 7 = .int .i64 i ∧ pf 9 = .int .i64 k ∧ pf 8 = .bool (((w).take k).any (· == l[i]))) w.length
          (fun k pf hk h => by
            obtain ⟨q0, q1, q2, q3, qc, qf⟩ := h
            have hw2 := w64 (i := k) (by omega)
            have ha := any_take w l[i] k hk
            rw [ha]
            generalize ((w).take k).any (· == l[i]) = b at *
            cases b <;> simp [q0, q1, q2, q3, qc, qf, hk, hw2, hi])
          (fun pf h => by
            obtain ⟨q0, q1, q2, q3, qc, qf⟩ := h
            simp [q0, q1, q2, q3, qc, qf]) w.length 0 n _ r2 (by omega) hJ (by simp [p4, p5, p6, p7]) (by omega)
        obtain ⟨q0, q1, q2, q3, qc, qf⟩ := hq
        rw [any_full hin] at qf
        simp [q0, q1, q2, q3, qc, qf, hw])
    (fun pf h => by
      obtain ⟨p4, p5, p6, p7⟩ := h
      simp [p4, p5, p6, p7]) l.length 0 n _ r (by omega) hI (by simp) (by omega)
  obtain ⟨p4, p5, p6, p7⟩ := h
  simp [p4, p5, p6, p7]
  generalize hI : iter _ _ _ = r
  obtain ⟨pf', rfl, h⟩ := iter_count 4 (fun i pf => pf 4 = .str s ∧ pf 5 = .sl 1 (w.map .str) ∧ pf 6 = .sl 1 (l.map .str) ∧ pf 10 = .int .i64 i) w.length
    (fun i pf hi h => by
      obtain ⟨p4, p5, p6, p7⟩ := h
      have hw := w64 (i := i) (by omega)
      have hin : w[i] ∈ l := (hmem _).2 (List.getElem_mem hi)
      simp [p4, p5, p6, p7, hi]
      generalize hJ : iter _ _ _ = r2
      obtain ⟨pf2, rfl, hq⟩ := iter_count 6 (fun k pf => pf 4 = .str s ∧ pf 5 = .sl 1 (w.map .str) ∧ pf 6 = .sl 1 (l.map .str) ∧ pf 10 = .int .i64 i ∧ pf 12 = .int .i64 k ∧ pf 11 = .bool (((l).take k).any (· == w[i]))) l.length
        (fun k pf hk h => by
          obtain ⟨q0, q1, q2, q3, qc, qf⟩ := h
          have hw2 := w64 (i := k) (by omega)
          have ha := any_take l w[i] k hk
          rw [ha]
          generalize ((l).take k).any (· == w[i]) = b at *
          cases b <;> simp [q0, q1, q2, q3, qc, qf, hk, hw2, hi])
        (fun pf h => by
          obtain ⟨q0, q1, q2, q3, qc, qf⟩ := h
          simp [q0, q1, q2, q3, qc, qf]) l.length 0 n _ r2 (by omega) hJ (by simp [p4, p5, p6, p7]) (by omega)
      obtain ⟨q0, q1, q2, q3, qc, qf⟩ := hq
      rw [any_full hin] at qf
      simp [q0, q1, q2, q3, qc, qf, hw])
    (fun pf h => by
      obtain ⟨p4, p5, p6, p7⟩ := h
      simp [p4, p5, p6, p7]) w.length 0 n _ r (by omega) hI (by simp [p4, p5, p6]) (by omega)
  obtain ⟨p4, p5, p6, p7⟩ := h
  simp [p4, p5, p6, p7, h4]

end Go.Proofs.YtaignnlnmffiaaaGreatDoor.Ex

/- Steps that do not look ahead: what stands behind a step is not looked at before the step is done. -/
namespace Go.Proofs.YtaignnlnmffiaaaGreatDoor.Ex
open Go

def sq (P : Program) (own : FuncId → Bool) (call : CallT) (n : Nat) (rd : Option Nat) (nt : Nat) (b : Code) (r : Option (PX × Cfg)) : Option (PX × Cfg) := match r with
  | some (.norm, c') => exec P own call n rd nt b c'
  | r => r
def cnd (P : Program) (own : FuncId → Bool) (call : CallT) (n : Nat) (rd : Option Nat) (nt : Nat) (x y : Code) (c : Cfg) (b : Option AV) : Option (PX × Cfg) := match b with
  | some (.bool t) => if t then exec P own call n rd nt x c else exec P own call n rd nt y c
  | _ => none
def blk (id : Nat) (r : Option (PX × Cfg)) : Option (PX × Cfg) := match r with
  | some (.ex i, c') => if i = id then some (.norm, c') else some (.ex i, c')
  | r => r
def rg1 (P : Program) (own : FuncId → Bool) (call : CallT) (ops : Array Oper) (o : Oper) (r : List Oper) (pf : PF) (x : Option (AV × Obs)) : Option (PF × Obs) := match x with
  | some (x, S') => rgn P own call ops r (updO pf o.dst x) S'
  | none => none
def rg0 (P : Program) (own : FuncId → Bool) (call : CallT) (ops : Array Oper) (o : Oper) (r : List Oper) (pf : PF) (S : Obs) (b : Option Bool) : Option (PF × Obs) := match b with
  | some true => rg1 P own call ops o r pf (evOp P own call ops o pf S)
  | some false => rgn P own call ops r (updO pf o.dst .undef) S
  | none => none
def rd1 (P : Program) (call : CallT) (S : Obs) (ops : Array Oper) (o : Oper) (r : List Oper) (pf : PF) (x : Option AV) : Option PF := match x with
  | some x => rgnD P call S ops r (updO pf o.dst x)
  | none => none
def rd0 (P : Program) (call : CallT) (S : Obs) (ops : Array Oper) (o : Oper) (r : List Oper) (pf : PF) (b : Option Bool) : Option PF := match b with
  | some true => rd1 P call S ops o r pf (evOpD P call S o pf)
  | some false => rgnD P call S ops r (updO pf o.dst .undef)
  | none => none
section
variable {P : Program} {own : FuncId → Bool} {call : CallT} {n : Nat} {rd : Option Nat} {nt : Nat} {c : Cfg} {a b : Code} {ops : Array Oper} {o : Oper} {r : List Oper} {pf : PF} {S S' : Obs} {x : AV}
@[simp high] theorem exec_sq : exec P own call n rd nt (.seq a b) c = sq P own call n rd nt b (exec P own call n rd nt a c) := _root_.id rfl
@[simp] theorem sq_norm : sq P own call n rd nt b (some (.norm, c)) = exec P own call n rd nt b c := _root_.id rfl
@[simp] theorem sq_ex {i : Nat} : sq P own call n rd nt b (some (.ex i, c)) = some (.ex i, c) := _root_.id rfl
@[simp] theorem sq_ret : sq P own call n rd nt b (some (.ret, c)) = some (.ret, c) := _root_.id rfl
@[simp high] theorem exec_cnd {k : Operand} : exec P own call n rd nt (.cond k a b) c = cnd P own call n rd nt a b c (opv c.pf k) := _root_.id rfl
@[simp] theorem cnd_true : cnd P own call n rd nt a b c (some (.bool true)) = exec P own call n rd nt a c := _root_.id rfl
@[simp] theorem cnd_false : cnd P own call n rd nt a b c (some (.bool false)) = exec P own call n rd nt b c := _root_.id rfl
@[simp high] theorem exec_blk {id : Nat} {k : Code} : exec P own call n rd nt (.block id k) c = blk id (exec P own call n rd nt k c) := _root_.id rfl
@[simp] theorem blk_norm {id : Nat} : blk id (some (.norm, c)) = some (.norm, c) := _root_.id rfl
@[simp] theorem blk_ret {id : Nat} : blk id (some (.ret, c)) = some (.ret, c) := _root_.id rfl
@[simp] theorem blk_ex {id i : Nat} : blk id (some (.ex i, c)) = if i = id then some (.norm, c) else some (.ex i, c) := _root_.id rfl
@[simp high] theorem rgn_nil' : rgn P own call ops [] pf S = some (pf, S) := _root_.id rfl
@[simp high] theorem rgn_cons' : rgn P own call ops (o :: r) pf S = rg0 P own call ops o r pf S (wantA ops pf o) := _root_.id rfl
@[simp] theorem rg0_true : rg0 P own call ops o r pf S (some true) = rg1 P own call ops o r pf (evOp P own call ops o pf S) := _root_.id rfl
@[simp] theorem rg0_false : rg0 P own call ops o r pf S (some false) = rgn P own call ops r (updO pf o.dst .undef) S := _root_.id rfl
@[simp] theorem rg1_some : rg1 P own call ops o r pf (some (x, S')) = rgn P own call ops r (updO pf o.dst x) S' := _root_.id rfl
@[simp high] theorem rgnD_nil' : rgnD P call S ops [] pf = some pf := _root_.id rfl
@[simp high] theorem rgnD_cons' : rgnD P call S ops (o :: r) pf = rd0 P call S ops o r pf (wantA ops pf o) := _root_.id rfl
@[simp] theorem rd0_true : rd0 P call S ops o r pf (some true) = rd1 P call S ops o r pf (evOpD P call S o pf) := _root_.id rfl
@[simp] theorem rd0_false : rd0 P call S ops o r pf (some false) = rgnD P call S ops r (updO pf o.dst .undef) := _root_.id rfl
@[simp] theorem rd1_some : rd1 P call S ops o r pf (some x) = rgnD P call S ops r (updO pf o.dst x) := _root_.id rfl
end

end Go.Proofs.YtaignnlnmffiaaaGreatDoor.Ex

/- What a filter keeps, and what it leaves out. -/
namespace Go.Proofs.YtaignnlnmffiaaaGreatDoor.Ex
open Go
attribute [-simp] rgn rgnD exec_seq exec_cond exec_block

theorem filter_get (P : Str → Bool) (w : List Str) (i : Nat) (h : i < w.length) (hp : P w[i] = true) :
    ∃ hk : ((w.take i).filter P).length < (w.filter P).length, (w.filter P)[((w.take i).filter P).length] = w[i] := by
  have e : w.filter P = (w.take i).filter P ++ w[i] :: (w.drop (i + 1)).filter P := by
    conv => lhs; rw [← List.take_append_drop i w, List.filter_append, List.drop_eq_getElem_cons h]
    rw [List.filter_cons_of_pos hp]
  refine ⟨by rw [e]; simp, ?_⟩
  simp [e]
theorem filter_take_pos (P : Str → Bool) (w : List Str) (i : Nat) (h : i < w.length) (hp : P w[i] = true) : ((w.take (i + 1)).filter P).length = ((w.take i).filter P).length + 1 := by
  rw [List.take_succ_eq_append_getElem h, List.filter_append, List.filter_cons_of_pos hp]; simp
theorem filter_take_neg (P : Str → Bool) (w : List Str) (i : Nat) (h : i < w.length) (hp : P w[i] = false) : ((w.take (i + 1)).filter P).length = ((w.take i).filter P).length := by
  rw [List.take_succ_eq_append_getElem h, List.filter_append, List.filter_cons_of_neg (by rw [hp]; simp)]; simp
theorem filter_take_le (P : Str → Bool) (w : List Str) (i : Nat) : ((w.take i).filter P).length ≤ w.length := by
  have h1 := List.length_filter_le P (w.take i)
  rw [List.length_take] at h1; omega

set_option maxHeartbeats 8000000 in
theorem law5 [XX] (hX : Full) (n : Nat) (hn : deep n) (p t : Str) : CP (F (n + 1)) 5 [.str p, .str t] (.bool true) := by
  have h12 := a12 hn hX
  refine F_cp (rs := [.bool true]) (S := []) rfl rfl ?_
  rw [F_fn rfl rfl Tryz.func5 rfl]
  by_cases h5 : 300 < p.length
  · have e : decide ((300 : Int) < (p.length : Int)) = true := by simpa using (by omega : (300 : Int) < (p.length : Int))
    simp [runFn, Tryz.f5, h12, e]
  have e5 : decide ((300 : Int) < (p.length : Int)) = false := by simpa using (by omega : ¬ (300 : Int) < (p.length : Int))
  by_cases h6 : 1000 < t.length
  · have e : decide ((1000 : Int) < (t.length : Int)) = true := by simpa using (by omega : (1000 : Int) < (t.length : Int))
    simp [runFn, Tryz.f5, h12, e5, e]
  have e6 : decide ((1000 : Int) < (t.length : Int)) = false := by simpa using (by omega : ¬ (1000 : Int) < (t.length : Int))
  have h1 := a18_2 hn hX [102, 105, 108, 116, 101, 114] p t (by omega) (by omega)
  rw [of_filter p t (by omega)] at h1
  have h2 := a18_2 hn hX [102, 105, 108, 116, 101, 114, 45, 111, 117, 116] p t (by omega) (by omega)
  rw [of_filterOut p t (by omega)] at h2
  have h3 := a19 hn t (by omega)
  have l1 := fil_len (wordsL p) true t
  have l2 := fil_len (wordsL p) false t
  have h4 := a19 hn (toldL (gFil (wordsL p) true) t) (by omega)
  have h7 := a19 hn (toldL (gFil (wordsL p) false) t) (by omega)
  rw [words_fil] at h4 h7
  have hok := wordsL_okW t
  have hone : ∀ x ∈ wordsL t, callP (F n) (.f 18) [.str [102, 105, 108, 116, 101, 114], .sl 1 [.str p, .str x]] = some (.str (if anyL (wordsL p) x = true then x else [])) := by
    intro x hx
    have hxl := wordsL_mem t x hx
    have := a18_2 hn hX [102, 105, 108, 116, 101, 114] p x (by omega) (by omega)
    rw [of_filter_one p (hok x hx) (by omega)] at this
    exact this
  have hj1 : (joinL [32] ((wordsL t).filter fun w => anyL (wordsL p) w == true)).length ≤ t.length := join_sublist_len t List.filter_sublist
  have hj2 : (joinL [32] ((wordsL t).filter fun w => anyL (wordsL p) w == false)).length ≤ t.length := join_sublist_len t List.filter_sublist
  have h8 := a21 hn ((wordsL t).filter fun w => anyL (wordsL p) w == true) (by unfold lim; omega)
  have h9 := a21 hn ((wordsL t).filter fun w => anyL (wordsL p) w == false) (by unfold lim; omega)
  have wj1 : wordsL (joinL [32] ((wordsL t).filter fun w => anyL (wordsL p) w == true)) = (wordsL t).filter fun w => anyL (wordsL p) w == true := words_join _ fun w hw => hok w (List.mem_filter.1 hw).1
  have wj2 : wordsL (joinL [32] ((wordsL t).filter fun w => anyL (wordsL p) w == false)) = (wordsL t).filter fun w => anyL (wordsL p) w == false := words_join _ fun w hw => hok w (List.mem_filter.1 hw).1
  have h10 := a18_2 hn hX [102, 105, 108, 116, 101, 114] p (joinL [32] ((wordsL t).filter fun w => anyL (wordsL p) w == true)) (by omega) (by omega)
  rw [of_filter _ _ (by omega), fil_eq, wj1, List.filter_filter] at h10
  simp only [Bool.and_self] at h10
  have h11 := a18_2 hn hX [102, 105, 108, 116, 101, 114] p (joinL [32] ((wordsL t).filter fun w => anyL (wordsL p) w == false)) (by omega) (by omega)
  rw [of_filter _ _ (by omega), fil_eq, wj2, List.filter_filter] at h11
  have hnone : ((wordsL t).filter fun w => (anyL (wordsL p) w == true) && (anyL (wordsL p) w == false)) = [] := by
    rw [List.filter_eq_nil_iff]
    intro x _
    cases anyL (wordsL p) x <;> simp
  rw [hnone] at h11
  have h13 := a19 hn (joinL [32] ((wordsL t).filter fun w => anyL (wordsL p) w == true)) (by omega)
  rw [wj1] at h13
  have hwl := wordsL_len t
  have h14 := a20 hn ((wordsL t).filter fun w => anyL (wordsL p) w == true) (by have := List.length_filter_le (fun w => anyL (wordsL p) w == true) (wordsL t); omega)
  have hdn : 3000000 ≤ n := hn
  generalize joinL [32] ((wordsL t).filter fun w => anyL (wordsL p) w == true) = ji at *
  generalize joinL [32] ((wordsL t).filter fun w => anyL (wordsL p) w == false) = jo at *
  generalize toldL (gFil (wordsL p) true) t = ti at *
  generalize toldL (gFil (wordsL p) false) t = tq at *
  generalize hP : (fun w => anyL (wordsL p) w == true) = P at *
  generalize hQ : (fun w => anyL (wordsL p) w == false) = Q at *
  have hPQ : ∀ x, Q x = !P x := by intro x; rw [← hP, ← hQ]; cases h : anyL (wordsL p) x <;> simp [h]
  have hone2 : ∀ x ∈ wordsL t, callP (F n) (.f 18) [.str [102, 105, 108, 116, 101, 114], .sl 1 [.str p, .str x]] = some (.str (if P x = true then x else [])) := by
    intro x hx; rw [hone x hx, ← hP]; simp
  generalize wordsL t = w at *
  have hjn : joinL [32] [] = [] := rfl
  rw [hjn] at h11
  clear hone hnone wj1 wj2 hj1 hj2 l1 l2
  have fl1 := List.length_filter_le P w
  have fl2 := List.length_filter_le Q w
  simp [runFn, Tryz.f5, h12, h1, h2, h3, h4, h7, e5, e6]
  generalize hI : iter _ _ _ = r
  obtain ⟨pf', rfl, h⟩ := iter_count 0 (fun i pf => pf 0 = .str p ∧ pf 6 = .sl 1 ((w.filter P).map .str) ∧ pf 7 = .sl 1 ((w.filter Q).map .str) ∧ pf 8 = .sl 1 (w.map .str) ∧ pf 9 = .int .i64 ((w.take i).filter P).length ∧ pf 10 = .int .i64 ((w.take i).filter Q).length ∧ pf 11 = .int .i64 i) w.length
    (fun i pf hi h => by
      obtain ⟨p0, p6, p7, p8, p9, p10, p11⟩ := h
      have hw := w64 (i := i) (by omega)
      have k1 := filter_take_le P w i
      have k2 := filter_take_le Q w i
      have hwa := w64 (i := ((w.take i).filter P).length) (by omega)
      have hwb := w64 (i := ((w.take i).filter Q).length) (by omega)
      have hc := hone2 w[i] (List.getElem_mem hi)
      have hne : w[i] ≠ [] := (okW_iff.1 (hok w[i] (List.getElem_mem hi))).1
      by_cases hp : P w[i] = true
      · obtain ⟨g1, g2⟩ := filter_get P w i hi hp
        have q := hPQ w[i]
        rw [hp] at q
        rw [filter_take_pos P w i hi hp, filter_take_neg Q w i hi q]
        rw [if_pos hp] at hc
        generalize ((w.take i).filter P).length = a at *
        generalize ((w.take i).filter Q).length = b at *
        simp [p0, p6, p7, p8, p9, p10, p11, hi, g1, g2, hc, hw, hwa, hwb]
      · have hp : P w[i] = false := by simpa using hp
        have q := hPQ w[i]
        rw [hp] at q
        obtain ⟨g1, g2⟩ := filter_get Q w i hi q
        rw [filter_take_neg P w i hi hp, filter_take_pos Q w i hi q]
        rw [if_neg (by rw [hp]; simp)] at hc
        have hne' : (([] : Str) == w[i]) = false := by simpa using fun e => hne e
        generalize ((w.take i).filter P).length = a at *
        generalize ((w.take i).filter Q).length = b at *
        by_cases c1 : a < (w.filter P).length
        · by_cases c2 : (w.filter P)[a] = w[i]
          · simp [p0, p6, p7, p8, p9, p10, p11, hi, g1, g2, hc, hw, hwa, hwb, c1, c2, hne, hne']
          · have c3 : ((w.filter P)[a] == w[i]) = false := by simpa using c2
            simp [p0, p6, p7, p8, p9, p10, p11, hi, g1, g2, hc, hw, hwa, hwb, c1, c3, hne, hne']
        · simp [p0, p6, p7, p8, p9, p10, p11, hi, g1, g2, hc, hw, hwa, hwb, c1, hne, hne'])
    (fun pf h => by
      obtain ⟨p0, p6, p7, p8, p9, p10, p11⟩ := h
      simp [p0, p6, p7, p8, p9, p10, p11]) w.length 0 n _ r (by omega) hI (by simp) (by omega)
  obtain ⟨p0, p6, p7, p8, p9, p10, p11⟩ := h
  rw [List.take_length] at p9 p10
  simp [p0, p6, p7, p8, p9, p10, p11, h8, h9, h10, h11, h13, h14]

end Go.Proofs.YtaignnlnmffiaaaGreatDoor.Ex

/- As many words as there are; the first, the last; parts of a list. -/
namespace Go.Proofs.YtaignnlnmffiaaaGreatDoor.Ex
open Go
attribute [-simp] rgn rgnD exec_seq exec_cond exec_block

set_option maxHeartbeats 8000000 in
theorem law7 [XX] (hX : Full) (n : Nat) (hn : deep n) (t : Str) (at' : Int) : CP (F (n + 1)) 7 [.str t, .int .i64 at'] (.bool true) := by
  have h12 := a12 hn hX
  refine F_cp (rs := [.bool true]) (S := []) rfl rfl ?_
  rw [F_fn rfl rfl Tryz.func7 rfl]
  by_cases h5 : 600 < t.length
  · have e : decide ((600 : Int) < (t.length : Int)) = true := by simpa using (by omega : (600 : Int) < (t.length : Int))
    simp [runFn, Tryz.f7, h12, e]
  have e5 : decide ((600 : Int) < (t.length : Int)) = false := by simpa using (by omega : ¬ (600 : Int) < (t.length : Int))
  have hwl := wordsL_len t
  have h19 := a19 hn t (by omega)
  have c1 := a18_1 hn hX [119, 111, 114, 100, 115] t (by omega)
  rw [of_words t (by omega)] at c1
  have c2 := a22 hn (decL (wordsL t).length) (by have := decL_len 8 (wordsL t).length (by simp; omega); unfold big; omega)
  rw [show numP (decL (wordsL t).length) = ((wordsL t).length, true) by simp [numP, num_dec (show (wordsL t).length < 1000000000 by omega)]] at c2
  have hdl : ∀ k, k ≤ 1000 → (decL k).length ≤ 100000 := fun k hk => by have := decL_len 8 k (by simp; omega); omega
  have c3 : ∀ i, i ≤ (wordsL t).length → callP (F n) (.f 23) [.int .i64 ((i : Int) + 1)] = some (.str (decL (i + 1))) := fun i hi => a23 hn (i + 1) (by omega)
  have c4 : ∀ i (hi : i < (wordsL t).length), callP (F n) (.f 18) [.str [119, 111, 114, 100], .sl 1 [.str (decL (i + 1)), .str t]] = some (.str (wordsL t)[i]) := by
    intro i hi
    have h := a18_2 hn hX [119, 111, 114, 100] (decL (i + 1)) t (hdl _ (by omega)) (by omega)
    rw [of_word t (i + 1) (by omega) (by omega) (by omega), spanL_at _ _ hi] at h
    exact h
  have c5 := a18_2 hn hX [119, 111, 114, 100] (decL ((wordsL t).length + 1)) t (hdl _ (by omega)) (by omega)
  rw [of_word t ((wordsL t).length + 1) (by omega) (by omega) (by omega), spanL_past] at c5
  have c6 := a18_1 hn hX [115, 116, 114, 105, 112] t (by omega)
  rw [of_strip t (by omega)] at c6
  have c7 := a21 hn (wordsL t) (by have := join_words_len t; unfold lim; omega)
  have c8 := a18_1 hn hX [102, 105, 114, 115, 116, 119, 111, 114, 100] t (by omega)
  rw [of_firstword t (by omega), spanL_first] at c8
  have c9 := a18_1 hn hX [108, 97, 115, 116, 119, 111, 114, 100] t (by omega)
  rw [of_lastword t (by omega), spanL_last] at c9
  obtain ⟨k, hk, hmm⟩ : ∃ k : Nat, k ≤ (wordsL t).length ∧ (if (0 : Int) < (if ((wordsL t).length : Int) < at' then ((wordsL t).length : Int) else at') then (if ((wordsL t).length : Int) < at' then ((wordsL t).length : Int) else at') else 0) = (k : Int) := by
    refine ⟨(if (0 : Int) < (if ((wordsL t).length : Int) < at' then ((wordsL t).length : Int) else at') then (if ((wordsL t).length : Int) < at' then ((wordsL t).length : Int) else at') else 0).toNat, ?_, ?_⟩ <;> split <;> split <;> omega
  have d1 : callP (F n) (.f 23) [.int .i64 (k : Int)] = some (.str (decL k)) := a23 hn k (by omega)
  have d2 := c3 k hk
  have d3 : callP (F n) (.f 23) [.int .i64 ((wordsL t).length : Int)] = some (.str (decL (wordsL t).length)) := a23 hn _ (by omega)
  have d4 := a18_3 hn hX [119, 111, 114, 100, 108, 105, 115, 116] [49] (decL k) t (by decide) (hdl _ (by omega)) (by omega)
  rw [show ofL [119, 111, 114, 100, 108, 105, 115, 116] [[49], decL k, t] = ofL [119, 111, 114, 100, 108, 105, 115, 116] [decL 1, decL k, t] by rfl, of_wordlist t 1 k (by omega) (by omega) (by omega) (by omega)] at d4
  rw [show spanL (wordsL t) ((1 : Nat) : Int) (k : Int) = joinL [32] ((wordsL t).take k) from spanL_take _ k hk] at d4
  have d5 := a18_3 hn hX [119, 111, 114, 100, 108, 105, 115, 116] (decL (k + 1)) (decL (wordsL t).length) t (hdl _ (by omega)) (hdl _ (by omega)) (by omega)
  rw [of_wordlist t (k + 1) _ (by omega) (by omega) (by omega) (by omega), spanL_drop _ k hk] at d5
  have j1 : (joinL [32] ((wordsL t).take k)).length ≤ t.length := join_sublist_len t (List.take_sublist _ _)
  have j2 : (joinL [32] ((wordsL t).drop k)).length ≤ t.length := join_sublist_len t (List.drop_sublist _ _)
  have d6 := a19 hn (joinL [32] ((wordsL t).take k)) (by omega)
  rw [words_take] at d6
  have d7 := a19 hn (joinL [32] ((wordsL t).drop k)) (by omega)
  rw [words_drop] at d7
  have hcat : (wordsL t).take k ++ (wordsL t).drop k = wordsL t := List.take_append_drop _ _
  have hl1 : ((wordsL t).take k).length = k := by rw [List.length_take]; omega
  have hl2 : ((wordsL t).drop k).length = (wordsL t).length - k := by rw [List.length_drop]
  have d8 := a20 hn (wordsL t) (by omega)
  have w1 := w64 (i := k) (by omega)
  have w2 := w64 (i := (wordsL t).length) (by omega)
  have d9 := c3 (wordsL t).length (Nat.le_refl _)
  have hdn : 3000000 ≤ n := hn
  clear hdl
  generalize hB : joinL [32] ((wordsL t).drop k) = jb at *
  generalize hA : joinL [32] ((wordsL t).take k) = ja at *
  generalize joinL [32] (wordsL t) = jw at *
  generalize hT : (wordsL t).take k = wa at *
  generalize hD : (wordsL t).drop k = wb at *
  generalize wordsL t = w at *
  simp [runFn, Tryz.f7, h12, h19, c1, c2, e5]
  generalize hI : iter _ _ _ = r
  obtain ⟨pf', rfl, h⟩ := iter_count 0 (fun i pf => pf 0 = .str t ∧ pf 1 = .int .i64 at' ∧ pf 6 = .sl 1 (w.map .str) ∧ pf 9 = .int .i64 i) (min w.length 12)
    (fun i pf hi h => by
      obtain ⟨p0, p1, p6, p9⟩ := h
      have hi1 : i < w.length := by omega
      have hi2 : (i : Int) < 12 := by omega
      have hw := w64 (i := i) (by omega)
      have q1 := c3 i (by omega)
      have q2 := c4 i hi1
      simp [p0, p1, p6, p9, hi1, hi2, hw, q1, q2])
    (fun pf h => by
      obtain ⟨p0, p1, p6, p9⟩ := h
      by_cases hlt : w.length ≤ 12
      · have hm : min w.length 12 = w.length := by omega
        rw [hm] at p9 ⊢
        simp [p0, p1, p6, p9]
      · have hm : min w.length 12 = 12 := by omega
        have hlt2 : (12 : Int) < (w.length : Int) := by omega
        rw [hm] at p9 ⊢
        have p9' : pf 9 = .int .i64 12 := p9
        simp [p0, p1, p6, p9', hlt2]) (min w.length 12) 0 n _ r (by omega) hI (by simp) (by omega)
  obtain ⟨p0, p1, p6, p9⟩ := h
  have hk2 : (wa.length + wb.length) * 16 ≤ 140737488355328 := by omega
  have c2' : callP (F n) (.f 22) [.str (decL w.length)] = some (.tup [.int .i64 w.length, .bool true]) := c2
  have hmap : wa.map AV.str ++ wb.map AV.str = w.map AV.str := by rw [← List.map_append, hcat]
  have hb3 : (wa.length + wb.length) * 16 ≤ 140737488355328 := by omega
  have hb4 : wa.length * 16 ≤ 140737488355328 := by omega
  clear hcat
  by_cases hw0 : w = []
  · have hlen : w.length = 0 := by rw [hw0]; rfl
    have hposi : ¬ (0 : Int) < (w.length : Int) := by omega
    have hpos : ¬ 0 < w.length := by omega
    have c8' : callP (F n) (.f 18) [.str [102, 105, 114, 115, 116, 119, 111, 114, 100], .sl 1 [.str t]] = some (.str []) := by
      rw [c8, hw0]; rfl
    rw [dif_pos hw0] at c9
    have hd : decide ((0 : Int) < (w.length : Int)) = false := by simpa using hw0
    simp (config := { maxSteps := 400000 }) [p0, p1, p6, p9, hmm, d1, d2, d3, d4, d5, d6, d7, d8, d9, c5, c6, c7, c8', c9, w1, w2, hposi, hpos, eq_true hw0, hd, hmap, hb3, hb4]
  · have hpos : 0 < w.length := List.length_pos_iff.2 hw0
    rw [dif_neg hw0] at c9
    have c8' : callP (F n) (.f 18) [.str [102, 105, 114, 115, 116, 119, 111, 114, 100], .sl 1 [.str t]] = some (.str (w[0]'hpos)) := by
      rw [c8, List.head?_eq_getElem?, List.getElem?_eq_getElem hpos]; rfl
    have hposi : (0 : Int) < (w.length : Int) := by omega
    have w3 : IntKind.wrap .i64 ((w.length : Int) - 1) = ((w.length - 1 : Nat) : Int) := by rw [wrap64 (by omega) (by omega)]; omega
    have hl3 : w.length - 1 < w.length := by omega
    clear c8
    simp (config := { maxSteps := 400000 }) [p0, p1, p6, p9, hmm, d1, d2, d3, d4, d5, d6, d7, d8, d9, c5, c6, c7, c8', c9, w1, w2, w3, hposi, hpos, hw0, hl3, hmap, hb3, hb4]

end Go.Proofs.YtaignnlnmffiaaaGreatDoor.Ex

/- Prefixes and suffixes; two lists joined. -/
namespace Go.Proofs.YtaignnlnmffiaaaGreatDoor.Ex
open Go
attribute [-simp] rgn rgnD exec_seq exec_cond exec_block

theorem wordsGo_ne : ∀ (r cur : Str), (cur ≠ [] ∨ ∃ c ∈ r, isBl c = false) → wordsGo r cur ≠ []
  | [], cur, h => by
    rcases h with h | ⟨c, h, _⟩
    · simp [wordsGo, h]
    · cases h
  | c :: r, cur, h => by
    simp only [wordsGo]
    cases hb : isBl c with
    | true =>
      simp only [if_true]
      by_cases hc : cur = []
      · rw [if_pos hc]
        refine wordsGo_ne r [] (.inr ?_)
        rcases h with h | ⟨d, hd, hd2⟩
        · exact absurd hc h
        · rcases List.mem_cons.1 hd with rfl | hd
          · rw [hb] at hd2; cases hd2
          · exact ⟨d, hd, hd2⟩
      · rw [if_neg hc]; simp
    | false =>
      simp only [Bool.false_eq_true, if_false]
      exact wordsGo_ne r (cur ++ [c]) (.inl (by simp))

theorem dropWhile_len (s : Str) : (s.dropWhile isBl).length ≤ s.length := (List.dropWhile_sublist _).length_le
theorem trimR_len (s : Str) : (trimR s).length ≤ s.length := by
  have := dropWhile_len s.reverse
  simpa [trimR] using this

/-- One word, and no blank around it: all of it is the word. -/
theorem one_word {a : Str} (h1 : (wordsL a).length = 1) (h2 : trimB a = a) : okW a = true := by
  cases a with
  | nil => simp [wordsL, wordsGo] at h1
  | cons c r =>
    have hc : isBl c = false := by
      cases hb : isBl c with
      | false => rfl
      | true =>
        have e : trimB (c :: r) = trimR (r.dropWhile isBl) := by simp [trimB, List.dropWhile_cons, hb]
        rw [e] at h2
        have l1 := trimR_len (r.dropWhile isBl)
        have l2 := dropWhile_len r
        rw [h2] at l1
        simp at l1; omega
    have e : trimB (c :: r) = trimR (c :: r) := by simp [trimB, List.dropWhile_cons, hc]
    rw [e] at h2
    have hlast : ∀ p d, c :: r = p ++ [d] → isBl d = false := by
      intro p d he
      cases hb : isBl d with
      | false => rfl
      | true =>
        rw [he] at h2
        have e2 : trimR (p ++ [d]) = (p.reverse.dropWhile isBl).reverse := by simp [trimR, List.dropWhile_cons, hb]
        rw [e2] at h2
        have l1 := dropWhile_len p.reverse
        have l2 := congrArg List.length h2
        simp at l1 l2; omega
    refine okW_iff.2 ⟨by simp, ?_⟩
    intro d hd
    cases hb : isBl d with
    | false => rfl
    | true =>
      exfalso
      -- what stands ahead of the first blank, and behind it
      obtain ⟨p, q, hpq⟩ : ∃ p q, c :: r = p ++ q ∧ (∀ x ∈ p, isBl x = false) ∧ (∀ x r', q = x :: r' → isBl x = true) := by
        refine ⟨(c :: r).takeWhile (fun x => !isBl x), (c :: r).dropWhile (fun x => !isBl x), (List.takeWhile_append_dropWhile).symm, ?_, ?_⟩
        · intro x hx; have := List.all_eq_true.1 (List.all_takeWhile (p := fun x => !isBl x) (l := c :: r)) x hx; simpa using this
        · intro x r' hq
          have := List.head_dropWhile_not (fun x => !isBl x) (l := c :: r) (by rw [hq]; simp)
          simp only [hq, List.head_cons] at this
          simpa using this
      obtain ⟨e1, e2, e3⟩ := hpq
      cases q with
      | nil =>
        rw [List.append_nil] at e1
        rw [e1] at hd
        have := e2 d hd
        rw [hb] at this; cases this
      | cons x r' =>
        have hx := e3 x r' rfl
        have hp : p ≠ [] := by
          intro e
          rw [e] at e1
          simp at e1
          rw [e1.1, hx] at hc; cases hc
        have hr : ∃ y ∈ r', isBl y = false := by
          rcases List.eq_nil_or_concat r' with rfl | ⟨m, y, rfl⟩
          · have := hlast p x e1
            rw [hx] at this; cases this
          · refine ⟨y, by simp, hlast (p ++ x :: m) y (by rw [e1]; simp)⟩
        have hw : wordsL (c :: r) = p :: wordsGo r' [] := by
          rw [e1, wordsL, wordsGo_app p e2, List.nil_append]
          simp [wordsGo, hx, hp]
        have := wordsGo_ne r' [] (.inr hr)
        rw [hw] at h1
        simp at h1
        exact this h1

theorem map_get (f : Str → Str) (w : List Str) (i : Nat) (h : i < w.length) : ∃ hk : i < (w.map f).length, (w.map f)[i] = f w[i] := ⟨by simpa using h, by simp⟩

set_option maxHeartbeats 8000000 in
theorem law8 [XX] (hX : Full) (n : Nat) (hn : deep n) (a t : Str) : CP (F (n + 1)) 8 [.str a, .str t] (.bool true) := by
  have h12 := a12 hn hX
  refine F_cp (rs := [.bool true]) (S := []) rfl rfl ?_
  rw [F_fn rfl rfl Tryz.func8 rfl]
  by_cases h5 : 100 < a.length
  · have e : decide ((100 : Int) < (a.length : Int)) = true := by simpa using (by omega : (100 : Int) < (a.length : Int))
    simp [runFn, Tryz.f8, h12, e]
  have e5 : decide ((100 : Int) < (a.length : Int)) = false := by simpa using (by omega : ¬ (100 : Int) < (a.length : Int))
  by_cases h6 : 400 < t.length
  · have e : decide ((400 : Int) < (t.length : Int)) = true := by simpa using (by omega : (400 : Int) < (t.length : Int))
    simp [runFn, Tryz.f8, h12, e5, e]
  have e6 : decide ((400 : Int) < (t.length : Int)) = false := by simpa using (by omega : ¬ (400 : Int) < (t.length : Int))
  have ha := a19 hn a (by omega)
  by_cases h7 : (wordsL a).length = 1
  rotate_left
  · have e7 : (((wordsL a).length : Int) != 1) = true := by simpa using (by omega : ¬ ((wordsL a).length : Int) = 1)
    simp [runFn, Tryz.f8, h12, e5, e6, ha, e7]
  have e7 : (((wordsL a).length : Int) != 1) = false := by simpa using (by omega : ((wordsL a).length : Int) = 1)
  have hb := a24 hn a (by unfold big; omega)
  by_cases h8 : trimB a = a
  rotate_left
  · have e8 : (trimB a != a) = true := by simpa using h8
    simp only [bne] at e8
    simp [runFn, Tryz.f8, h12, e5, e6, ha, e7, hb, e8]
  have hok := one_word h7 h8
  have hane : a ≠ [] := (okW_iff.1 hok).1
  rw [h8] at hb
  have hwl := wordsL_len t
  have ht := a19 hn t (by omega)
  have hmulle : (a.length + 1) * (wordsL t).length ≤ 101 * 401 := Nat.mul_le_mul (by omega) (by omega)
  have m1 : IntKind.wrap .i64 ((a.length : Int) + 1) = ((a.length + 1 : Nat) : Int) := by rw [wrap64 (by omega) (by omega)]; omega
  have m2 : IntKind.wrap .i64 (((a.length + 1 : Nat) : Int) * ((wordsL t).length : Int)) = (((a.length + 1) * (wordsL t).length : Nat) : Int) := by
    rw [← Int.natCast_mul, wrap64 (by omega) (by omega)]
  have m3 : IntKind.wrap .i64 ((((a.length + 1) * (wordsL t).length : Nat) : Int) + (t.length : Int)) = (((a.length + 1) * (wordsL t).length + t.length : Nat) : Int) := by
    rw [wrap64 (by omega) (by omega)]; omega
  by_cases h9 : 4000 < (a.length + 1) * (wordsL t).length + t.length
  · have e9 : decide ((4000 : Int) < (((a.length + 1) * (wordsL t).length + t.length : Nat) : Int)) = true := by
      have : (4000 : Int) < (((a.length + 1) * (wordsL t).length + t.length : Nat) : Int) := by omega
      exact decide_eq_true this
    generalize (((a.length + 1) * (wordsL t).length + t.length : Nat) : Int) = R at *
    generalize (((a.length + 1) * (wordsL t).length : Nat) : Int) = Q at *
    generalize ((a.length + 1 : Nat) : Int) = A1 at *
    simp [runFn, Tryz.f8, h12, e5, e6, ha, e7, hb, ht, m1, m2, m3, e9]
  have e9 : decide ((4000 : Int) < (((a.length + 1) * (wordsL t).length + t.length : Nat) : Int)) = false := by
    have : ¬ (4000 : Int) < (((a.length + 1) * (wordsL t).length + t.length : Nat) : Int) := by omega
    exact decide_eq_false this
  have okw := wordsL_okW t
  have c1 := a18_2 hn hX [97, 100, 100, 112, 114, 101, 102, 105, 120] a t (by omega) (by omega)
  rw [of_addprefix a t (by omega)] at c1
  have c2 := a18_2 hn hX [97, 100, 100, 115, 117, 102, 102, 105, 120] a t (by omega) (by omega)
  rw [of_addsuffix a t (by omega)] at c2
  have c3 := a18_2 hn hX [106, 111, 105, 110] t t (by omega) (by omega)
  rw [of_join t t (by omega), zip_self] at c3
  have hsum := wordsL_sum t
  have pre_len : ∀ f : Str → Str, (∀ w, (f w).length ≤ w.length + a.length) → (joinL [32] ((wordsL t).map f)).length ≤ 100000 := by
    intro f hf
    have h1 := join_length_le ((wordsL t).map f)
    have h2 : ∀ l : List Str, sumLen (l.map f) ≤ sumLen l + a.length * l.length := by
      intro l
      induction l with
      | nil => simp [sumLen]
      | cons x r ih =>
        have := hf x
        simp only [List.map_cons, sumLen, List.length_cons, Nat.mul_add]
        omega
    have h3 := h2 (wordsL t)
    have h4 : a.length * (wordsL t).length ≤ 100 * 401 := Nat.mul_le_mul (by omega) (by omega)
    rw [List.length_map] at h1
    omega
  have l1 := pre_len (a ++ ·) (fun w => by simp; omega)
  have l2 := pre_len (· ++ a) (fun w => by simp)
  have l3 : (joinL [32] ((wordsL t).map fun w => w ++ w)).length ≤ 100000 := by
    have h1 := join_length_le (zipAdd (wordsL t) (wordsL t))
    have h2 := zip_sum (wordsL t) (wordsL t)
    rw [zip_self] at h1 h2
    omega
  have d1 := a19 hn _ (Nat.le_trans l1 (by omega))
  rw [words_join _ (fun w hw => by obtain ⟨v, hv, rfl⟩ := List.mem_map.1 hw; exact okW_app hok (okw v hv))] at d1
  have d2 := a19 hn _ (Nat.le_trans l2 (by omega))
  rw [words_join _ (fun w hw => by obtain ⟨v, hv, rfl⟩ := List.mem_map.1 hw; exact okW_app (okw v hv) hok)] at d2
  have d3 := a19 hn _ (Nat.le_trans l3 (by omega))
  rw [words_join _ (fun w hw => by obtain ⟨v, hv, rfl⟩ := List.mem_map.1 hw; exact okW_app (okw v hv) (okw v hv))] at d3
  have c4 := a18_3 hn hX [115, 117, 98, 115, 116] a a t (by omega) (by omega) (by omega)
  have hself := rep_self a hane t.length t (Nat.le_refl _)
  rw [of_subst a a t hane (by rw [hself]; omega), hself] at c4
  have c5 := a18_1 hn hX [115, 116, 114, 105, 112] t (by omega)
  rw [of_strip t (by omega)] at c5
  have c6 := a25 hn (wordsL t) (by omega)
  have g1 := map_get (a ++ ·) (wordsL t)
  have g2 := map_get (· ++ a) (wordsL t)
  have g3 := map_get (fun w => w ++ w) (wordsL t)
  have z1 : ((wordsL t).map (a ++ ·)).length = (wordsL t).length := by simp
  have z2 : ((wordsL t).map (· ++ a)).length = (wordsL t).length := by simp
  have z3 : ((wordsL t).map fun w => w ++ w).length = (wordsL t).length := by simp
  have hmem := wordsL_mem t
  have hdn : 3000000 ≤ n := hn
  clear pre_len l1 l2 l3 hself hmulle hsum
  generalize joinL [32] (wordsL t) = jt at *
  generalize joinL [32] ((wordsL t).map (a ++ ·)) = jx at *
  generalize joinL [32] ((wordsL t).map (· ++ a)) = jy at *
  generalize joinL [32] ((wordsL t).map fun w => w ++ w) = jz at *
  generalize (wordsL t).map (a ++ ·) = X at *
  generalize (wordsL t).map (· ++ a) = Y at *
  generalize ((wordsL t).map fun w => w ++ w) = Z at *
  generalize (((a.length + 1) * (wordsL t).length + t.length : Nat) : Int) = R at *
  generalize (((a.length + 1) * (wordsL t).length : Nat) : Int) = Q at *
  generalize ((a.length + 1 : Nat) : Int) = A1 at *
  generalize wordsL t = w at *
  generalize wordsL a = wa at *
  simp [runFn, Tryz.f8, h12, e5, e6, ha, e7, hb, ht, m1, m2, m3, e9, c1, c2, c3, d1, d2, d3, z1, z2, z3]
  generalize hI : iter _ _ _ = r
  obtain ⟨pf', rfl, h⟩ := iter_count 0 (fun i pf => pf 0 = .str a ∧ pf 1 = .str t ∧ pf 6 = .sl 1 (w.map .str) ∧ pf 7 = .sl 1 (X.map .str) ∧ pf 8 = .sl 1 (Y.map .str) ∧ pf 9 = .sl 1 (Z.map .str) ∧ pf 10 = .int .i64 i) w.length
    (fun i pf hi h => by
      obtain ⟨p0, p1, p6, p7, p8, p9, p10⟩ := h
      have hw := w64 (i := i) (by omega)
      obtain ⟨q1, x1⟩ := g1 i hi
      obtain ⟨q2, x2⟩ := g2 i hi
      obtain ⟨q3, x3⟩ := g3 i hi
      have hl := hmem w[i] (List.getElem_mem hi)
      have b1 : a.length + w[i].length ≤ 9223372036854775807 := by omega
      have b2 : w[i].length + a.length ≤ 9223372036854775807 := by omega
      have b3 : w[i].length + w[i].length ≤ 9223372036854775807 := by omega
      simp [p0, p1, p6, p7, p8, p9, p10, hi, hw, q1, q2, q3, x1, x2, x3, b1, b2, b3])
    (fun pf h => by
      obtain ⟨p0, p1, p6, p7, p8, p9, p10⟩ := h
      simp [p0, p1, p6, p7, p8, p9, p10]) w.length 0 n _ r (by omega) hI (by simp) (by omega)
  obtain ⟨p0, p1, p6, p7, p8, p9, p10⟩ := h
  simp [p0, p1, p6, p7, p8, p9, p10, c4, c5, c6]

end Go.Proofs.YtaignnlnmffiaaaGreatDoor.Ex

/- What is put in the place of a part. -/
namespace Go.Proofs.YtaignnlnmffiaaaGreatDoor.Ex
open Go
attribute [-simp] rgn rgnD exec_seq exec_cond exec_block

theorem take_pre (a t : Str) : (t.take a.length == a) = isPre a t := by
  cases h : isPre a t with
  | true => simpa using ((isPre_iff a t).1 h).1
  | false =>
    cases h2 : (t.take a.length == a) with
    | false => rfl
    | true =>
      have e : t.take a.length = a := by simpa using h2
      have : isPre a t = true := (isPre_iff a t).2 ⟨e, by have := congrArg List.length e; simp at this; omega⟩
      rw [h] at this; cases this

theorem rep_int (a b t : Str) (ha : a ≠ []) : (t.length : Int) + (cntS a t : Int) * ((b.length : Int) - (a.length : Int)) = ((repL a b t).length : Int) := by
  have h := rep_len a b ha t.length t (Nat.le_refl _)
  have h2 : ((repL a b t).length : Int) + (cntS a t : Int) * (a.length : Int) = (t.length : Int) + (cntS a t : Int) * (b.length : Int) := by exact_mod_cast h
  rw [Int.mul_sub]
  generalize (cntS a t : Int) * (a.length : Int) = u at *
  generalize (cntS a t : Int) * (b.length : Int) = v at *
  omega

set_option maxHeartbeats 8000000 in
theorem law9 [XX] (hX : Full) (n : Nat) (hn : deep n) (a b t : Str) : CP (F (n + 1)) 9 [.str a, .str b, .str t] (.bool true) := by
  have h12 := a12 hn hX
  refine F_cp (rs := [.bool true]) (S := []) rfl rfl ?_
  rw [F_fn rfl rfl Tryz.func9 rfl]
  by_cases h5 : 50 < a.length
  · have e : decide ((50 : Int) < (a.length : Int)) = true := by simpa using (by omega : (50 : Int) < (a.length : Int))
    simp [runFn, Tryz.f9, h12, e]
  have e5 : decide ((50 : Int) < (a.length : Int)) = false := by simpa using (by omega : ¬ (50 : Int) < (a.length : Int))
  by_cases h6 : 50 < b.length
  · have e : decide ((50 : Int) < (b.length : Int)) = true := by simpa using (by omega : (50 : Int) < (b.length : Int))
    simp [runFn, Tryz.f9, h12, e5, e]
  have e6 : decide ((50 : Int) < (b.length : Int)) = false := by simpa using (by omega : ¬ (50 : Int) < (b.length : Int))
  by_cases h7 : 300 < t.length
  · have e : decide ((300 : Int) < (t.length : Int)) = true := by simpa using (by omega : (300 : Int) < (t.length : Int))
    simp [runFn, Tryz.f9, h12, e5, e6, e]
  have e7 : decide ((300 : Int) < (t.length : Int)) = false := by simpa using (by omega : ¬ (300 : Int) < (t.length : Int))
  have c1 := a18_3 hn hX [115, 117, 98, 115, 116] a b t (by omega) (by omega) (by omega)
  by_cases ha : a = []
  · subst ha
    rw [of_subst_nil b t (by omega)] at c1
    simp only [List.length_nil] at e5
    simp [runFn, Tryz.f9, h12, e6, e7, c1]
  have ha' : (a == []) = false := by simpa using ha
  have c2 := a18_2 hn hX [102, 105, 110, 100, 115, 116, 114, 105, 110, 103] a t (by omega) (by omega)
  rw [of_findstring a t (by omega)] at c2
  cases hs : hasSub a t with
  | false =>
    have hr := rep_none a b ha t hs
    rw [of_subst a b t ha (by rw [hr]; omega), hr] at c1
    rw [hs, if_neg (by simp)] at c2
    simp [runFn, Tryz.f9, h12, e5, e6, e7, c1, c2, ha']
  | true =>
    rw [hs, if_pos rfl] at c2
    have hri := rep_int a b t ha
    have hcp := cnt_hasSub a ha t hs
    have hcl := cnt_le a ha t.length t (Nat.le_refl _)
    have hdn : 3000000 ≤ n := hn
    have hap : 0 < a.length := List.length_pos_iff.2 ha
    simp [runFn, Tryz.f9, h12, e5, e6, e7, c1, c2, ha']
    generalize hI : iter _ _ _ = r
    have hsv : (4000 < (repL a b t).length ∧ ofL [115, 117, 98, 115, 116] [a, b, t] = []) ∨ (¬ 4000 < (repL a b t).length ∧ ofL [115, 117, 98, 115, 116] [a, b, t] = repL a b t) := by
      by_cases hL : 4000 < (repL a b t).length
      · exact .inl ⟨hL, of_subst_long a b t ha hL⟩
      · exact .inr ⟨hL, of_subst a b t ha (by omega)⟩
    generalize ofL [115, 117, 98, 115, 116] [a, b, t] = s at *
    obtain ⟨x, pf', rfl, hx, p0, p1, p2, p8, p9⟩ := iter_gen (fun x : Nat × Nat => t.length - x.2) (fun x pf => pf 0 = .str a ∧ pf 1 = .str b ∧ pf 2 = .str t ∧ pf 8 = .str s ∧ pf 9 = .int .i64 x.1 ∧ pf 10 = .int .i64 x.2 ∧ x.2 ≤ t.length ∧ x.1 + cntS a (t.drop x.2) = cntS a t)
      (fun x pf => x = .ex 0 ∧ pf 0 = .str a ∧ pf 1 = .str b ∧ pf 2 = .str t ∧ pf 8 = .str s ∧ pf 9 = .int .i64 (cntS a t))
      (fun x pf h => by
        obtain ⟨m, i⟩ := x
        obtain ⟨p0, p1, p2, p8, p9, p10, hi, hc⟩ := h
        simp only at p9 p10 hi hc
        by_cases hle : i + a.length ≤ t.length
        · left
          obtain ⟨q, hq⟩ : ∃ q : Int, (i : Int) + (a.length : Int) = q := ⟨_, rfl⟩
          have wq : IntKind.wrap .i64 q = q := wrap64 (by omega) (by omega)
          have hqn : q.toNat = i + a.length := by omega
          have hq1 : q ≤ (t.length : Int) := by omega
          have hq0 : (0 : Int) ≤ q := by omega
          have hqi : (i : Int) ≤ q := by omega
          have hne : t.drop i ≠ [] := by
            intro e
            have := congrArg List.length e
            simp at this; omega
          obtain ⟨c, r', hcr⟩ := List.exists_cons_of_ne_nil hne
          cases hp : isPre a (t.drop i) with
          | true =>
            have hcnt := cntS_pre a ha _ hp
            rw [List.drop_drop] at hcnt
            have wm := w64 (i := m) (by omega)
            have htp := take_pre a (t.drop i)
            rw [hp] at htp
            have hmeas : t.length - (i + a.length) < t.length - i := by omega
            have hinv : m + 1 + cntS a (t.drop (i + a.length)) = cntS a t := by omega
            refine ⟨(m + 1, i + a.length), ?_⟩
            simp [p0, p1, p2, p8, p9, p10, hq, wq, hqn, hq1, hq0, hqi, htp, wm, hmeas, hinv, hle]
          | false =>
            rw [hcr] at hp
            have hcnt := cntS_skip a ha c r' hp
            rw [← hcr] at hcnt
            have hr' : r' = t.drop (i + 1) := by
              have := congrArg (List.drop 1) hcr
              rw [List.drop_drop] at this
              simpa using this.symm
            rw [hr'] at hcnt
            rw [← hcr] at hp
            have wi := w64 (i := i) (by omega)
            have htp := take_pre a (t.drop i)
            rw [hp] at htp
            have hmeas : t.length - (i + 1) < t.length - i := by omega
            have hinv : m + cntS a (t.drop (i + 1)) = cntS a t := by omega
            have hle1 : i + 1 ≤ t.length := by omega
            refine ⟨(m, i + 1), ?_⟩
            simp [p0, p1, p2, p8, p9, p10, hq, wq, hqn, hq1, hq0, hqi, htp, wi, hmeas, hinv, hle1]
        · right
          obtain ⟨q, hq⟩ : ∃ q : Int, (i : Int) + (a.length : Int) = q := ⟨_, rfl⟩
          have wq : IntKind.wrap .i64 q = q := wrap64 (by omega) (by omega)
          have hq1 : ¬ q ≤ (t.length : Int) := by omega
          have hz := cnt_long a ha (t.drop i) (by rw [List.length_drop]; omega)
          rw [hz, Nat.add_zero] at hc
          refine ⟨.ex 0, ?_⟩
          simp [p0, p1, p2, p8, p9, p10, hq, wq, hq1, hc]) n (0, 0) _ r hI (by simp) (by simp; omega)
    subst hx
    obtain ⟨D, hD⟩ : ∃ D : Int, (b.length : Int) - (a.length : Int) = D := ⟨_, rfl⟩
    have wD : IntKind.wrap .i64 D = D := wrap64 (by omega) (by omega)
    obtain ⟨E, hE⟩ : ∃ E : Int, (cntS a t : Int) * D = E := ⟨_, rfl⟩
    rw [hD, hE] at hri
    have hrl := rep_len a b ha t.length t (Nat.le_refl _)
    have hm1 : cntS a t * b.length ≤ 300 * 50 := Nat.mul_le_mul (by omega) (by omega)
    have hm2 : cntS a t * a.length ≤ 300 * 50 := Nat.mul_le_mul (by omega) (by omega)
    have wE : IntKind.wrap .i64 E = E := wrap64 (by omega) (by omega)
    have wL : IntKind.wrap .i64 ((repL a b t).length : Int) = ((repL a b t).length : Int) := wrap64 (by omega) (by omega)
    have hcp' : (0 : Int) < (cntS a t : Int) := by omega
    clear hrl hm1 hm2
    generalize cntS a t = m at *
    rcases hsv with ⟨hL, rfl⟩ | ⟨hL, rfl⟩
    · have d1 : decide ((4000 : Int) < ((repL a b t).length : Int)) = true := by simpa using (by omega : (4000 : Int) < ((repL a b t).length : Int))
      have d2 : ((0 : Int) == ((repL a b t).length : Int)) = false := by simpa using (by omega : ¬ (0 : Int) = ((repL a b t).length : Int))
      generalize ((repL a b t).length : Int) = L at *
      simp [p0, p1, p2, p8, p9, hcp, hD, wD, hE, wE, hri, wL, d1, d2]
    · have d1 : decide ((4000 : Int) < ((repL a b t).length : Int)) = false := by simpa using (by omega : ¬ (4000 : Int) < ((repL a b t).length : Int))
      generalize repL a b t = s at *
      simp [p0, p1, p2, p8, p9, hcp, hD, wD, hE, wE, hri, wL, d1]

end Go.Proofs.YtaignnlnmffiaaaGreatDoor.Ex

/- What errs. -/
namespace Go.Proofs.YtaignnlnmffiaaaGreatDoor.Ex
open Go
attribute [-simp] rgn rgnD exec_seq exec_cond exec_block

theorem tolds50 (g : Str → Str × Bool) (s : Str) (hs : s.length ≤ 50) (h : ∀ w, w.length ≤ 50 → (g w).1.length ≤ w.length + 52) : (toldL g s).length ≤ 4000 := by
  have h1 := told_len g s 52 (fun w hw => h w (by have := wordsL_mem s w hw; omega))
  have h2 := wordsL_len s
  have h3 : 52 * (wordsL s).length ≤ 52 * 51 := Nat.mul_le_mul (by omega) (by omega)
  omega
theorem one_small (name s : Str) (hs : s.length ≤ 50) : (oneL name s).length ≤ 4000 := by
  unfold oneL
  split
  · have := join_words_len s; omega
  split
  · have := sort_len s; omega
  split
  · have h1 := wordsL_len s
    have := decL_len 8 (wordsL s).length (by simp; omega); omega
  split
  · have := spanL_words_len s 1 1; omega
  split
  · have := spanL_words_len s (wordsL s).length (wordsL s).length; omega
  · exact tolds50 _ s hs fun w hw => by have := partL_len name w; show (partL name w).length ≤ _; omega
theorem two_small (name s : Str) (hs : s.length ≤ 50) : (twoL name s s).1.length ≤ 4000 := by
  unfold twoL
  split
  · split <;> simp <;> omega
  split
  · have := spanL_words_len s (numberL s 1).1 (numberL s 1).1; simp only; omega
  split
  · exact tolds50 _ s hs fun w hw => by simp [gSuf]; omega
  split
  · exact tolds50 _ s hs fun w hw => by simp [gPre]; omega
  split
  · have h1 := zip_sum (wordsL s) (wordsL s)
    have h2 := wordsL_sum s
    have h4 := join_length_le (zipAdd (wordsL s) (wordsL s))
    simp only; omega
  · have := fil_len (wordsL s) (name == [102, 105, 108, 116, 101, 114]) s; simp only; omega
theorem three_small (name s : Str) (hs : s.length ≤ 50) : (threeL name s s s).1.length ≤ 4000 := by
  unfold threeL
  split
  · split
    · simp only; omega
    · rename_i h
      simp only
      rw [rep_self s h s.length s (Nat.le_refl _)]; omega
  split
  · exact tolds50 _ s hs fun w hw => by have := substL_len2 s s w; show (substL s s w).length ≤ _; omega
  · have := spanL_words_len s (numberL s 1).1 (numberL s 0).1; simp only; omega

theorem finL_ok {r : Str} (h : r.length ≤ 4000) : finL r true = (r, 0) := by
  have : ¬ 4000 < r.length := by omega
  simp [finL, this]

theorem errs_call (name s : Str) (hs : s.length ≤ 50) (m : Nat) (hm : m = manyL name) (h0 : manyL name ≠ 0) :
    ((name ≠ [119, 111, 114, 100] ∧ name ≠ [119, 111, 114, 100, 108, 105, 115, 116]) → (callL name (List.replicate m s)).2 = 0) ∧
    ((name = [119, 111, 114, 100] ∨ name = [119, 111, 114, 100, 108, 105, 115, 116]) → (numP (trimB s)).2 = false → (callL name (List.replicate m s)).2 = 1) := by
  have h3 := many_le name
  have hfin := callL_fin (name := name) (args := List.replicate m s) h0 (by simpa using hm)
  rw [hfin]
  have hm' : m = 1 ∨ m = 2 ∨ m = 3 := by omega
  rcases hm' with rfl | rfl | rfl
  · have e : ansL name (List.replicate 1 s) = (oneL name s, true) := rfl
    rw [e]
    have hl := one_small name s hs
    refine ⟨fun _ => by rw [finL_ok hl], fun h => ?_⟩
    rcases h with rfl | rfl
    · exact absurd hm (by decide)
    · exact absurd hm (by decide)
  · have e : ansL name (List.replicate 2 s) = twoL name s s := rfl
    rw [e]
    have hl := two_small name s hs
    refine ⟨fun h => ?_, fun h hn => ?_⟩
    · have ht : (twoL name s s).2 = true := by
        unfold twoL
        rw [if_neg h.1]
        repeat' split
        all_goals rfl
      rw [ht, finL_ok hl]
    · rcases h with rfl | rfl
      · have ht : (twoL [119, 111, 114, 100] s s).2 = false := by simp [twoL, numberL, hn]
        simp [finL, ht]
      · exact absurd hm (by decide)
  · have e : ansL name (List.replicate 3 s) = threeL name s s s := rfl
    rw [e]
    have hl := three_small name s hs
    have hnames : name = [115, 117, 98, 115, 116] ∨ name = [112, 97, 116, 115, 117, 98, 115, 116] ∨ name = [119, 111, 114, 100, 108, 105, 115, 116] := by
      unfold manyL at hm
      split at hm
      · omega
      split at hm
      · omega
      split at hm
      · rename_i h; simpa [threes] using h
      · omega
    refine ⟨fun h => ?_, fun h hn => ?_⟩
    · have ht : (threeL name s s s).2 = true := by
        rcases hnames with rfl | rfl | rfl
        · simp only [threeL, if_true]; split <;> rfl
        · simp [threeL]
        · exact absurd rfl h.2
      rw [ht, finL_ok hl]
    · rcases h with rfl | rfl
      · exact absurd hm (by decide)
      · have ht : (threeL [119, 111, 114, 100, 108, 105, 115, 116] s s s).2 = false := by simp [threeL, numberL, hn]
        simp [finL, ht]

set_option maxHeartbeats 8000000 in
theorem law10 [XX] (hX : Full) (n : Nat) (hn : deep n) (name : Str) (many : Int) (s : Str) : CP (F (n + 1)) 10 [.str name, .int .i64 many, .str s] (.bool true) := by
  have h12 := a12 hn hX
  refine F_cp (rs := [.bool true]) (S := []) rfl rfl ?_
  rw [F_fn rfl rfl Tryz.func10 rfl]
  by_cases h5 : 50 < name.length
  · have e : decide ((50 : Int) < (name.length : Int)) = true := by simpa using (by omega : (50 : Int) < (name.length : Int))
    simp [runFn, Tryz.f10, h12, e]
  have e5 : decide ((50 : Int) < (name.length : Int)) = false := by simpa using (by omega : ¬ (50 : Int) < (name.length : Int))
  by_cases h6 : many < 0
  · simp [runFn, Tryz.f10, h12, e5, h6]
  by_cases h7 : 6 < many
  · simp [runFn, Tryz.f10, h12, e5, h6, h7]
  by_cases h8 : 50 < s.length
  · have e : decide ((50 : Int) < (s.length : Int)) = true := by simpa using (by omega : (50 : Int) < (s.length : Int))
    simp [runFn, Tryz.f10, h12, e5, h6, h7, e]
  have e8 : decide ((50 : Int) < (s.length : Int)) = false := by simpa using (by omega : ¬ (50 : Int) < (s.length : Int))
  obtain ⟨m, hm⟩ : ∃ m : Nat, (m : Int) = many := ⟨many.toNat, by omega⟩
  have hm6 : m ≤ 6 := by omega
  have c1 := a16 hn name
  have c2 := a14 hn hX name (List.replicate m s) (fun a ha => by rw [List.eq_of_mem_replicate ha]; omega)
  have c3 := a24 hn s (by unfold big; omega)
  have c4 := a22 hn (trimB s) (by have := trimR_len (s.dropWhile isBl); have := dropWhile_len s; unfold trimB; unfold big; omega)
  have hdn : 3000000 ≤ n := hn
  have hec := errs_call name s (by omega) m
  have hcz : manyL name = 0 → callL name (List.replicate m s) = ([], 4) := fun h => by simp [callL, h]
  have hcn : manyL name ≠ 0 → m ≠ manyL name → callL name (List.replicate m s) = ([], 1) := fun h h2 => by simp [callL, h, h2]
  simp [runFn, Tryz.f10, h12, e5, h6, h7, e8]
  generalize hI : iter _ _ _ = r
  obtain ⟨pf', rfl, h⟩ := iter_count 0 (fun i pf => pf 0 = .str name ∧ pf 1 = .int .i64 many ∧ pf 2 = .str s ∧ pf 8 = .sl 1 ((List.replicate i s).map .str) ∧ pf 9 = .int .i64 i) m
    (fun i pf hi h => by
      obtain ⟨p0, p1, p2, p8, p9⟩ := h
      have hw := w64 (i := i) (by omega)
      have hlt : (i : Int) < many := by omega
      have hb : (i + 1) * 16 ≤ 140737488355328 := by omega
      have hrep : List.replicate i (AV.str s) ++ [AV.str s] = List.replicate (i + 1) (AV.str s) := List.replicate_succ'.symm
      simp [p0, p1, p2, p8, p9, hlt, hw, hb, hrep])
    (fun pf h => by
      obtain ⟨p0, p1, p2, p8, p9⟩ := h
      have hlt : ¬ (m : Int) < many := by omega
      simp [p0, p1, p2, p8, p9, hlt]) m 0 n _ r (by omega) hI (by simp) (by omega)
  obtain ⟨p0, p1, p2, p8, p9⟩ := h
  rw [List.map_replicate] at c2 p8
  by_cases h0 : manyL name = 0
  · have e := hcz h0
    rw [e] at c2
    rw [h0] at c1
    simp [p0, p1, p2, p8, p9, c1, c2, c3, c4]
  have z0 : ((manyL name : Int) == 0) = false := by simpa using h0
  by_cases h1 : m = manyL name
  rotate_left
  · have e := hcn h0 h1
    rw [e] at c2
    have z1 : (many != (manyL name : Int)) = true := by simpa using (by omega : ¬ many = (manyL name : Int))
    simp [p0, p1, p2, p8, p9, c1, c2, c3, c4, z0, z1]
  have z1 : (many != (manyL name : Int)) = false := by simpa using (by omega : many = (manyL name : Int))
  obtain ⟨k1, k2⟩ := hec h1 h0
  generalize callL name (List.replicate m s) = ce at *
  obtain ⟨x, e⟩ := ce
  simp only at k1 k2 c2
  generalize manyL name = k at *
  by_cases n1 : name = [119, 111, 114, 100]
  · subst n1
    have k2' := k2 (.inl rfl)
    cases hnum : (numP (trimB s)).2 with
    | true =>
      rw [hnum] at c4
      simp [p0, p1, p2, p8, p9, c1, c2, c3, c4, z0, z1]
    | false =>
      have e1 := k2' hnum
      rw [hnum] at c4
      simp [p0, p1, p2, p8, p9, c1, c2, c3, c4, z0, z1, e1]
  by_cases n2 : name = [119, 111, 114, 100, 108, 105, 115, 116]
  · subst n2
    have k2' := k2 (.inr rfl)
    cases hnum : (numP (trimB s)).2 with
    | true =>
      rw [hnum] at c4
      simp [p0, p1, p2, p8, p9, c1, c2, c3, c4, z0, z1]
    | false =>
      have e1 := k2' hnum
      rw [hnum] at c4
      simp [p0, p1, p2, p8, p9, c1, c2, c3, c4, z0, z1, e1]
  have e1 := k1 ⟨n1, n2⟩
  have n1' : (name == [119, 111, 114, 100]) = false := by simpa using n1
  have n2' : (name == [119, 111, 114, 100, 108, 105, 115, 116]) = false := by simpa using n2
  simp [p0, p1, p2, p8, p9, c1, c2, c3, c4, z0, z1, n1', n2', e1]

end Go.Proofs.YtaignnlnmffiaaaGreatDoor.Ex

/- What a pattern turns each word to. -/
namespace Go.Proofs.YtaignnlnmffiaaaGreatDoor.Ex
open Go
attribute [-simp] rgn rgnD exec_seq exec_cond exec_block

set_option maxHeartbeats 8000000 in
theorem law11 [XX] (hX : Full) (n : Nat) (hn : deep n) (p q t : Str) (hs : t.length ≤ 2000000) : CP (F (n + 1)) 11 [.str p, .str q, .str t] (.bool true) := by
  have h12 := a12 hn hX
  have h19 := a19 hn t hs
  refine F_cp (rs := [.bool true]) (S := []) rfl rfl ?_
  rw [F_fn rfl rfl Tryz.func11 rfl]
  by_cases h5 : 60 < p.length
  · have e : decide ((60 : Int) < (p.length : Int)) = true := by simpa using (by omega : (60 : Int) < (p.length : Int))
    simp [runFn, Tryz.f11, h12, h19, e]
  have e5 : decide ((60 : Int) < (p.length : Int)) = false := by simpa using (by omega : ¬ (60 : Int) < (p.length : Int))
  by_cases h6 : 60 < q.length
  · have e : decide ((60 : Int) < (q.length : Int)) = true := by simpa using (by omega : (60 : Int) < (q.length : Int))
    simp [runFn, Tryz.f11, h12, h19, e5, e]
  have e6 : decide ((60 : Int) < (q.length : Int)) = false := by simpa using (by omega : ¬ (60 : Int) < (q.length : Int))
  by_cases h7 : 400 < t.length
  · have e : decide ((400 : Int) < (t.length : Int)) = true := by simpa using (by omega : (400 : Int) < (t.length : Int))
    simp [runFn, Tryz.f11, h12, h19, e5, e6, e]
  have e7 : decide ((400 : Int) < (t.length : Int)) = false := by simpa using (by omega : ¬ (400 : Int) < (t.length : Int))
  by_cases h8 : 40 < (wordsL t).length
  · have e : decide ((40 : Int) < ((wordsL t).length : Int)) = true := by simpa using (by omega : (40 : Int) < ((wordsL t).length : Int))
    simp [runFn, Tryz.f11, h12, h19, e5, e6, e7, e]
  have e8 : decide ((40 : Int) < ((wordsL t).length : Int)) = false := by simpa using (by omega : ¬ (40 : Int) < ((wordsL t).length : Int))
  have okw := wordsL_okW t
  have hmem := wordsL_mem t
  have hone : ∀ w ∈ wordsL t, callP (F n) (.f 18) [.str [112, 97, 116, 115, 117, 98, 115, 116], .sl 1 [.str p, .str q, .str w]] = some (.str (substL p q w)) := by
    intro w hw
    have hl := hmem w hw
    have h := a18_3 hn hX [112, 97, 116, 115, 117, 98, 115, 116] p q w (by omega) (by omega) (by omega)
    rw [of_patsubst_one p q (okw w hw) (by omega)] at h
    exact h
  have hmul : q.length * (wordsL t).length ≤ 60 * 40 := Nat.mul_le_mul (by omega) (by omega)
  have call := a18_3 hn hX [112, 97, 116, 115, 117, 98, 115, 116] p q t (by omega) (by omega) (by omega)
  rw [of_patsubst p q t (by omega)] at call
  have hsum := wordsL_sum t
  have hml : ((wordsL t).map (substL p q)).length = (wordsL t).length := by simp
  have hsm : sumLen ((wordsL t).map (substL p q)) ≤ sumLen (wordsL t) + q.length * (wordsL t).length := by
    have : ∀ l : List Str, sumLen (l.map (substL p q)) ≤ sumLen l + q.length * l.length := by
      intro l
      induction l with
      | nil => simp [sumLen]
      | cons x r ih =>
        have := substL_len2 p q x
        simp only [List.map_cons, sumLen, List.length_cons, Nat.mul_add]
        omega
    exact this _
  have hjl : ∀ i, (joinL [32] (((wordsL t).map (substL p q)).take i)).length ≤ 5000 := by
    intro i
    have h1 := join_length_le (((wordsL t).map (substL p q)).take i)
    have h2 := sumLen_take ((wordsL t).map (substL p q)) i
    have h3 : (((wordsL t).map (substL p q)).take i).length ≤ ((wordsL t).map (substL p q)).length := by rw [List.length_take]; omega
    omega
  have g := map_get (substL p q) (wordsL t)
  have hjt := joinL_take ((wordsL t).map (substL p q))
  have hdn : 3000000 ≤ n := hn
  have hfull : joinL [32] (((wordsL t).map (substL p q)).take (wordsL t).length) = joinL [32] ((wordsL t).map (substL p q)) := by rw [← hml, List.take_length]
  generalize (wordsL t).map (substL p q) = m at *
  generalize wordsL t = w at *
  simp [runFn, Tryz.f11, h12, h19, e5, e6, e7, e8]
  generalize hI : iter _ _ _ = r
  obtain ⟨pf', rfl, h⟩ := iter_count 0 (fun i pf => pf 0 = .str p ∧ pf 1 = .str q ∧ pf 2 = .str t ∧ pf 8 = .sl 1 (w.map .str) ∧ pf 9 = .str (joinL [32] (m.take i)) ∧ pf 10 = .int .i64 i) w.length
    (fun i pf hi h => by
      obtain ⟨p0, p1, p2, p8, p9, p10⟩ := h
      have hw := w64 (i := i) (by omega)
      obtain ⟨hk, hg⟩ := g i hi
      have hc := hone w[i] (List.getElem_mem hi)
      have hj := hjt i hk
      rw [hg] at hj
      have l2 := hjl (i + 1)
      have l1 := hjl i
      rw [hj] at l2 ⊢
      generalize substL p q w[i] = y at *
      by_cases hi0 : i = 0
      · subst hi0
        simp only [↓reduceIte, List.nil_append] at l2
        have p9' : pf 9 = .str [] := p9
        have e1 : y.length ≤ 9223372036854775807 := by omega
        have e2 : IntKind.wrap .i64 1 = 1 := wrap64 (by omega) (by omega)
        simp [p0, p1, p2, p8, p9', p10, hi, hw, hc, e1, e2]
      · generalize joinL [32] (m.take i) = x at *
        rw [if_neg hi0] at l2 ⊢
        simp only [List.length_append, List.length_cons, List.length_nil] at l2
        have hi1 : 0 < i := by omega
        have e1 : x.length + 1 ≤ 9223372036854775807 := by omega
        have e2 : x.length + 1 + y.length ≤ 9223372036854775807 := by omega
        have e3 : x.length + (1 + y.length) ≤ 9223372036854775807 := by omega
        have e4 : x.length + (y.length + 1) ≤ 9223372036854775807 := by omega
        simp [p0, p1, p2, p8, p9, p10, hi, hw, hc, hi1, e1, e2, e3, e4])
    (fun pf h => by
      obtain ⟨p0, p1, p2, p8, p9, p10⟩ := h
      simp [p0, p1, p2, p8, p9, p10]) w.length 0 n _ r (by omega) hI (by simp [joinL]) (by omega)
  obtain ⟨p0, p1, p2, p8, p9, p10⟩ := h
  rw [hfull] at p9
  simp [p0, p1, p2, p8, p9, p10, call]

end Go.Proofs.YtaignnlnmffiaaaGreatDoor.Ex

/- The document's own words: cut, trimmed. -/
namespace Go.Proofs.YtaignnlnmffiaaaGreatDoor.Ex
open Go
attribute [-simp] rgn rgnD exec_seq exec_cond exec_block

theorem byte_eq (c : UInt8) (k : Nat) (hk : k < 256) : ((c.toNat : Int) == (k : Int)) = (c == UInt8.ofNat k) := by
  have e : (UInt8.ofNat k).toNat = k := by simp [UInt8.toNat_ofNat']; omega
  by_cases h : c = UInt8.ofNat k
  · subst h; rw [e]; simp
  · have h1 : (c == UInt8.ofNat k) = false := by simpa using h
    have h2 : ¬ (c.toNat : Int) = (k : Int) := by
      intro h2
      apply h
      apply UInt8.toNat_inj.1
      rw [e]; omega
    rw [h1]; simpa using h2

theorem cp91 [XX] (n : Nat) (c : UInt8) : CP (F (n + 1)) 91 [.int .u8 c.toNat] (.bool (isBl c)) := by
  refine F_cp (rs := [.bool (isBl c)]) (S := []) rfl rfl ?_
  rw [F_fn rfl rfl Tryz.func91 rfl]
  have h1 := byte_eq c 32 (by decide)
  have h2 := byte_eq c 9 (by decide)
  rw [show ((32 : Nat) : Int) = 32 from rfl, show UInt8.ofNat 32 = 32 from rfl] at h1
  rw [show ((9 : Nat) : Int) = 9 from rfl, show UInt8.ofNat 9 = 9 from rfl] at h2
  unfold isBl
  rw [← h1, ← h2]
  cases g1 : ((c.toNat : Int) == 32) <;> cases g2 : ((c.toNat : Int) == 9) <;> simp [runFn, Tryz.f91, g1, g2]

def wI (s : Str) (x : Nat × List Str × Str) (pf : PF) : Prop :=
  pf 0 = .str s ∧ pf 3 = .sl 1 (x.2.1.map .str) ∧ pf 4 = .str x.2.2 ∧ pf 5 = .int .i64 x.1 ∧ x.1 ≤ s.length ∧ x.2.1.length ≤ x.1 ∧ x.2.2.length ≤ x.1 ∧ x.2.1 ++ wordsGo (s.drop x.1) x.2.2 = wordsL s

set_option maxHeartbeats 4000000 in
theorem cp53 [XX] (n : Nat) (s : Str) (hs : s.length ≤ 2000000) (hn : s.length + 1 < n) : CP (F (n + 1)) 53 [.str s] (.sl 1 ((wordsL s).map .str)) := by
  refine F_cp (rs := [.sl 1 ((wordsL s).map .str)]) (S := []) rfl (by simp [noBoxL, noBox]) ?_
  rw [F_fn rfl rfl Tryz.func53 rfl]
  simp [runFn, Tryz.f53]
  generalize hI : iter _ _ _ = r
  obtain ⟨x, pf', rfl, hx, out, cur, p3, p4, hl, hfin⟩ := iter_gen (fun x : Nat × List Str × Str => s.length - x.1) (wI s)
    (fun x pf => x = .ex 0 ∧ ∃ (out : List Str) (cur : Str), pf 3 = .sl 1 (out.map .str) ∧ pf 4 = .str cur ∧ out.length ≤ s.length ∧ out ++ wordsGo [] cur = wordsL s)
    (fun x pf h => by
      obtain ⟨i, out, cur⟩ := x
      obtain ⟨p0, p3, p4, p5, hi, ho, hc, hw⟩ := h
      simp only at p3 p4 p5 hi ho hc hw
      by_cases hlt : i < s.length
      · left
        have hd : s.drop i = s[i] :: s.drop (i + 1) := List.drop_eq_getElem_cons hlt
        rw [hd] at hw
        have hg : s[i]? = some s[i] := List.getElem?_eq_getElem hlt
        generalize hcc : s[i] = c at *
        have h91 : callP (F n) (.f 91) [.int .u8 c.toNat] = some (.bool (isBl c)) := by
          obtain ⟨m, rfl⟩ : ∃ m, n = m + 1 := ⟨n - 1, by omega⟩
          exact cp91 m c
        have hmeas : s.length - (i + 1) < s.length - i := by omega
        have hb : (out.length + 1) * 16 ≤ 140737488355328 := by omega
        have hwi := w64 (i := i) (by omega)
        have hi1 : i + 1 ≤ s.length := hlt
        cases hbl : isBl c with
        | true =>
          rw [hbl] at h91
          simp only [wordsGo, hbl, if_true] at hw
          by_cases he : cur = []
          · subst he
            rw [if_pos rfl] at hw
            have ho1 : out.length ≤ i + 1 := by omega
            refine ⟨(i + 1, out, []), ?_⟩
            simp [p0, p3, p4, p5, hlt, hg, hcc, h91, hwi, hmeas, wI, hi1, ho1, hw]
          · rw [if_neg he] at hw
            have he' : (cur == []) = false := by simpa using he
            have ho1 : out.length + 1 ≤ i + 1 := by omega
            have hw2 : (out ++ [cur]) ++ wordsGo (s.drop (i + 1)) [] = wordsL s := by simpa using hw
            refine ⟨(i + 1, out ++ [cur], []), ?_⟩
            simp [p0, p3, p4, p5, hlt, hg, hcc, h91, hwi, hmeas, wI, hi1, ho1, he', hb]
            simpa using hw2
        | false =>
          rw [hbl] at h91
          simp only [wordsGo, hbl, if_false, Bool.false_eq_true] at hw
          obtain ⟨q, hq⟩ : ∃ q : Int, (i : Int) + 1 = q := ⟨_, rfl⟩
          have wq : IntKind.wrap .i64 q = q := wrap64 (by omega) (by omega)
          have hqn : q.toNat = i + 1 := by omega
          have hq1 : q ≤ (s.length : Int) := by omega
          have hq0 : (0 : Int) ≤ q := by omega
          have hqi : (i : Int) ≤ q := by omega
          have ht : (s.drop i).take 1 = [c] := by rw [hd]; rfl
          have hcl : cur.length + 1 ≤ 9223372036854775807 := by omega
          have hmin : cur.length + min 1 (s.length - i) ≤ 9223372036854775807 := by omega
          have hc1 : cur.length ≤ i := hc
          have ho1 : out.length ≤ i + 1 := by omega
          refine ⟨(i + 1, out, cur ++ [c]), ?_⟩
          simp [p0, p3, p4, p5, hlt, hg, hcc, h91, hq, wq, hqn, hq1, hq0, hqi, hmeas, wI, hi1, ho1, hc1, ht, hcl, hmin, hw]
      · right
        have hz : s.drop i = [] := List.drop_of_length_le (by omega)
        rw [hz] at hw
        have hnl : s.length ≤ i := by omega
        refine ⟨.ex 0, ?_⟩
        simp [p0, p3, p4, p5, hlt, hnl]
        exact ⟨out, rfl, by omega, hw⟩) n (0, [], []) _ r hI (by simp [wI, wordsL]) (by simp; omega)
  subst hx
  simp only [wordsGo] at hfin
  have hb : (out.length + 1) * 16 ≤ 140737488355328 := by omega
  by_cases he : cur = []
  · subst he
    rw [if_pos rfl, List.append_nil] at hfin
    simp [p3, p4, hfin]
  · rw [if_neg he] at hfin
    have he' : (cur == []) = false := by simpa using he
    simp [p3, p4, he', hb, ← hfin]

end Go.Proofs.YtaignnlnmffiaaaGreatDoor.Ex

/- The document's own words: trimmed; numbers. -/
namespace Go.Proofs.YtaignnlnmffiaaaGreatDoor.Ex
open Go
attribute [-simp] rgn rgnD exec_seq exec_cond exec_block

theorem trimR_snoc (m : Str) (c : UInt8) : trimR (m ++ [c]) = if isBl c then trimR m else m ++ [c] := by
  simp only [trimR, List.reverse_append, List.reverse_cons, List.reverse_nil, List.nil_append, List.singleton_append, List.dropWhile_cons]
  split <;> simp

set_option maxHeartbeats 4000000 in
theorem cp96 [XX] (n : Nat) (s : Str) (hs : s.length ≤ 2000000) (hn : s.length + 1 < n) : CP (F (n + 1)) 96 [.str s] (.str (trimB s)) := by
  refine F_cp (rs := [.str (trimB s)]) (S := []) rfl rfl ?_
  rw [F_fn rfl rfl Tryz.func96 rfl]
  simp [runFn, Tryz.f96]
  have h91 : ∀ c : UInt8, callP (F n) (.f 91) [.int .u8 c.toNat] = some (.bool (isBl c)) := by
    intro c
    obtain ⟨m, rfl⟩ : ∃ m, n = m + 1 := ⟨n - 1, by omega⟩
    exact cp91 m c
  generalize hI : iter _ _ _ = r
  obtain ⟨x, pf', rfl, hx, p0⟩ := iter_gen (fun t : Str => t.length) (fun t pf => pf 0 = .str t ∧ t.dropWhile isBl = s.dropWhile isBl ∧ t.length ≤ s.length)
    (fun x pf => x = .ex 0 ∧ pf 0 = .str (s.dropWhile isBl))
    (fun t pf h => by
      obtain ⟨p0, hd, hl⟩ := h
      cases t with
      | nil =>
        right
        refine ⟨.ex 0, ?_⟩
        simp [p0]
        exact hd.symm
      | cons c r =>
        have hc := h91 c
        have hl1 : (1 : Int) ≤ (r.length : Int) + 1 := by omega
        have hlr : r.length ≤ s.length := by simp at hl; omega
        cases hb : isBl c with
        | true =>
          left
          rw [hb] at hc
          have hd2 : r.dropWhile isBl = s.dropWhile isBl := by rw [← hd]; simp [List.dropWhile_cons, hb]
          refine ⟨r, ?_⟩
          simp [p0, hc, hl1, hlr, hd2]
        | false =>
          right
          rw [hb] at hc
          have hd2 : c :: r = s.dropWhile isBl := by rw [← hd]; simp [List.dropWhile_cons, hb]
          refine ⟨.ex 0, ?_⟩
          rw [← hd2]
          simp [p0, hc, hl1, hlr]) n s _ r hI ⟨by simp, rfl, Nat.le_refl _⟩ (by omega)
  subst hx
  simp [p0]
  have hdl := dropWhile_len s
  have htb : trimB s = trimR (s.dropWhile isBl) := rfl
  rw [htb]
  generalize s.dropWhile isBl = s1 at *
  generalize hI : iter _ _ _ = r
  obtain ⟨x, pf', rfl, hx, p0⟩ := iter_gen (fun t : Str => t.length) (fun t pf => pf 0 = .str t ∧ trimR t = trimR s1 ∧ t.length ≤ s1.length)
    (fun x pf => x = .ex 2 ∧ pf 0 = .str (trimR s1))
    (fun t pf h => by
      obtain ⟨p0, hd, hl⟩ := h
      rcases List.eq_nil_or_concat t with rfl | ⟨m, c, rfl⟩
      · right
        refine ⟨.ex 2, ?_⟩
        simp [p0]
        exact hd.symm
      · rw [List.concat_eq_append] at *
        have hc := h91 c
        rw [trimR_snoc] at hd
        have hne : ((m ++ [c]) == []) = false := by simp
        have hlen : (m ++ [c]).length = m.length + 1 := by simp
        have hg : (m ++ [c])[m.length]? = some c := by simp
        have htk : (m ++ [c]).take m.length = m := by simp
        generalize m ++ [c] = t at *
        obtain ⟨q, hq⟩ : ∃ q : Int, (t.length : Int) - 1 = q := ⟨_, rfl⟩
        have wq : IntKind.wrap .i64 q = q := wrap64 (by omega) (by omega)
        have hqn : q.toNat = m.length := by omega
        have hq0 : (0 : Int) ≤ q := by omega
        have hq1 : q ≤ (t.length : Int) := by omega
        have hml : m.length ≤ s1.length := by omega
        have hmt : m.length < t.length := by omega
        have hg' : t[m.length]'hmt = c := (List.getElem?_eq_some_iff.1 hg).2
        cases hb : isBl c with
        | true =>
          left
          rw [hb] at hc
          rw [hb, if_pos rfl] at hd
          refine ⟨m, ?_⟩
          simp [p0, hne, hq, wq, hqn, hq0, hq1, hg, hg', hmt, hc, htk, hd, hml, hmt]
        | false =>
          right
          rw [hb] at hc
          rw [hb, if_neg (by simp)] at hd
          refine ⟨.ex 2, ?_⟩
          rw [← hd]
          simp [p0, hne, hq, wq, hqn, hq0, hq1, hg, hg', hmt, hc]) n s1 _ r hI ⟨by simp [p0], rfl, Nat.le_refl _⟩ (by omega)
  subst hx
  simp [p0]

theorem byte_le (c : UInt8) (k : Nat) (hk : k < 256) : decide ((k : Int) ≤ (c.toNat : Int)) = decide (UInt8.ofNat k ≤ c) := by
  have e : (UInt8.ofNat k).toNat = k := by simp [UInt8.toNat_ofNat']; omega
  have : (k : Int) ≤ (c.toNat : Int) ↔ UInt8.ofNat k ≤ c := by rw [UInt8.le_iff_toNat_le, e]; omega
  simp only [this]
theorem byte_ge (c : UInt8) (k : Nat) (hk : k < 256) : decide ((c.toNat : Int) ≤ (k : Int)) = decide (c ≤ UInt8.ofNat k) := by
  have e : (UInt8.ofNat k).toNat = k := by simp [UInt8.toNat_ofNat']; omega
  have : (c.toNat : Int) ≤ (k : Int) ↔ c ≤ UInt8.ofNat k := by rw [UInt8.le_iff_toNat_le, e]; omega
  simp only [this]

theorem cp137 [XX] (n : Nat) (c : UInt8) : CP (F (n + 1)) 137 [.int .u8 c.toNat] (.bool (isDig c)) := by
  refine F_cp (rs := [.bool (isDig c)]) (S := []) rfl rfl ?_
  rw [F_fn rfl rfl Tryz.func137 rfl]
  have h1 := byte_le c 48 (by decide)
  have h2 := byte_ge c 57 (by decide)
  rw [show ((48 : Nat) : Int) = 48 from rfl, show UInt8.ofNat 48 = 48 from rfl] at h1
  rw [show ((57 : Nat) : Int) = 57 from rfl, show UInt8.ofNat 57 = 57 from rfl] at h2
  unfold isDig
  rw [← h1, ← h2]
  by_cases g1 : (48 : Int) ≤ (c.toNat : Int) <;> by_cases g2 : (c.toNat : Int) ≤ 57 <;> simp [runFn, Tryz.f137, g1, g2]

end Go.Proofs.YtaignnlnmffiaaaGreatDoor.Ex

/- The document's own numbers. -/
namespace Go.Proofs.YtaignnlnmffiaaaGreatDoor.Ex
open Go
attribute [-simp] rgn rgnD exec_seq exec_cond exec_block

theorem numP_false {s : Str} (h : ¬ (s.length ≤ 9 ∧ canon s = true)) : numP s = (0, false) := by
  simp [numP, num_canon, h]
theorem numP_true {s : Str} (h1 : s.length ≤ 9) (h2 : canon s = true) : numP s = (valGo 0 s, true) := by
  simp [numP, num_canon, h1, h2]

theorem all_take_succ (s : Str) (i : Nat) (h : i < s.length) : (s.take (i + 1)).all isDig = ((s.take i).all isDig && isDig s[i]) := by
  rw [List.take_succ_eq_append_getElem h]; simp only [List.all_append, List.all_cons, List.all_nil, Bool.and_true]
theorem val_take_succ (s : Str) (i : Nat) (h : i < s.length) : valGo 0 (s.take (i + 1)) = 10 * valGo 0 (s.take i) + (s[i].toNat - 48) := by
  rw [List.take_succ_eq_append_getElem h, valGo_app]

set_option maxHeartbeats 4000000 in
theorem cp95 [XX] (n : Nat) (s : Str) (hn : 20 < n) : CP (F (n + 1)) 95 [.str s] (.tup [.int .i64 (numP s).1, .bool (numP s).2]) := by
  refine F_cp (rs := [.int .i64 (numP s).1, .bool (numP s).2]) (S := []) rfl rfl ?_
  rw [F_fn rfl rfl Tryz.func95 rfl]
  by_cases h0 : s = []
  · subst h0
    rw [numP_false (by simp [canon])]
    simp [runFn, Tryz.f95]
  have hpos : 0 < s.length := List.length_pos_iff.2 h0
  have d1 : decide ((s.length : Int) < 1) = false := by simp; omega
  have d1' : ¬ (s.length : Int) < 1 := by omega
  by_cases h9 : 9 < s.length
  · rw [numP_false (by omega)]
    have d2 : decide ((9 : Int) < (s.length : Int)) = true := by simpa using (by omega : (9 : Int) < (s.length : Int))
    simp [runFn, Tryz.f95, d1', h0, d2]
  have d2 : decide ((9 : Int) < (s.length : Int)) = false := by simpa using (by omega : ¬ (9 : Int) < (s.length : Int))
  obtain ⟨c0, s', hs⟩ := List.exists_cons_of_ne_nil h0
  have hg0 : s[0]'hpos = c0 := by simp [hs]
  have hb0 := byte_eq c0 48 (by decide)
  rw [show ((48 : Nat) : Int) = 48 from rfl, show UInt8.ofNat 48 = 48 from rfl] at hb0
  by_cases hz : 1 < s.length ∧ c0 = 48
  · obtain ⟨hz1, hz2⟩ := hz
    rw [numP_false (by
      rintro ⟨_, hc⟩
      rw [hs, hz2] at hc
      have hl : s'.length ≠ 0 := by rw [hs] at hz1; simp at hz1; omega
      simp [canon, hl] at hc)]
    have d3 : decide ((1 : Int) < (s.length : Int)) = true := by simpa using (by omega : (1 : Int) < (s.length : Int))
    have hb1 : ((c0.toNat : Int) == 48) = true := by rw [hb0]; simp [hz2]
    simp [runFn, Tryz.f95, d1', h0, d2, d3, hpos, hg0, hb1]
  have hcan : canon s = s.all isDig := by
    cases hd : s.all isDig with
    | false => simp only [canon, hd, Bool.and_false, Bool.false_and]
    | true =>
      have : (s.length == 1 || s.head? != some 48) = true := by
        by_cases h1 : 1 < s.length
        · have : c0 ≠ 48 := fun e => hz ⟨h1, e⟩
          simp [hs, this]
        · have : s.length = 1 := by omega
          simp [this]
      simp only [canon, hd, this, Bool.and_true]
      simpa using h0
  have hend : numP s = if s.all isDig = true then (valGo 0 s, true) else (0, false) := by
    split
    · rename_i h; exact numP_true (by omega) (by rw [hcan]; exact h)
    · rename_i h; exact numP_false (by rw [hcan]; exact fun e => h e.2)
  have h137 : ∀ c : UInt8, callP (F n) (.f 137) [.int .u8 c.toNat] = some (.bool (isDig c)) := by
    intro c
    obtain ⟨m, rfl⟩ : ∃ m, n = m + 1 := ⟨n - 1, by omega⟩
    exact cp137 m c
  have hd3 : decide ((1 : Int) < (s.length : Int)) = false ∨ ((1 : Int) < (s.length : Int) ∧ ((c0.toNat : Int) == 48) = false) := by
    by_cases h1 : 1 < s.length
    · right
      refine ⟨by omega, ?_⟩
      rw [hb0]; simpa using fun e => hz ⟨h1, e⟩
    · left; simpa using (by omega : ¬ (1 : Int) < (s.length : Int))
  rcases hd3 with d3 | ⟨d3, hb1⟩
  · simp [runFn, Tryz.f95, d1', h0, d2, d3]
    generalize hI : iter _ _ _ = r
    obtain ⟨x, pf', rfl, hx⟩ := iter_gen (fun i : Nat => s.length - i) (fun i pf => pf 0 = .str s ∧ pf 4 = .int .i64 (valGo 0 (s.take i)) ∧ pf 5 = .int .i64 i ∧ i ≤ s.length ∧ (s.take i).all isDig = true)
      (fun x pf => (x = .ret ∧ s.all isDig = false ∧ pf 2 = .int .i64 0 ∧ pf 3 = .bool false) ∨ (x = .ex 0 ∧ s.all isDig = true ∧ pf 4 = .int .i64 (valGo 0 s)))
      (fun i pf h => by
        obtain ⟨p0, p4, p5, hi, ha⟩ := h
        by_cases hlt : i < s.length
        · have h1 := all_take_succ s i hlt
          have h2 := val_take_succ s i hlt
          have hdc := h137 s[i]
          have hv := valGo_lt (s.take i) 0 ha
          have hpw : 10 ^ (s.take i).length ≤ 10 ^ 9 := Nat.pow_le_pow_right (by decide) (by rw [List.length_take]; omega)
          have hv9 : valGo 0 (s.take i) < 1000000000 := by
            have : (10 : Nat) ^ 9 = 1000000000 := by decide
            omega
          cases hdg : isDig s[i] with
          | false =>
            right
            have hall : s.all isDig = false := by
              cases hb : s.all isDig with
              | false => rfl
              | true =>
                have := List.all_eq_true.1 hb s[i] (List.getElem_mem hlt)
                rw [hdg] at this; cases this
            rw [hdg] at hdc
            refine ⟨.ret, ?_⟩
            simp [p0, p4, p5, hlt, hdc, hall]
          | true =>
            left
            rw [hdg] at hdc
            rw [ha, hdg] at h1
            obtain ⟨b1, b2⟩ := isDig_toNat hdg
            obtain ⟨V, hV⟩ : ∃ V, valGo 0 (s.take i) = V := ⟨_, rfl⟩
            rw [hV] at p4 hv9 h2
            have hwi := w64 (i := i) (by omega)
            have m1 : IntKind.wrap .i64 (10 * (V : Int)) = 10 * (V : Int) := wrap64 (by omega) (by omega)
            obtain ⟨A, hA⟩ : ∃ A : Int, 10 * (V : Int) = A := ⟨_, rfl⟩
            obtain ⟨B, hB⟩ : ∃ B : Int, (s[i].toNat : Int) - 48 = B := ⟨_, rfl⟩
            rw [hA] at m1
            have m2 : IntKind.wrap .u8 B = B := by simp [IntKind.wrap, IntKind.bits, IntKind.signed]; omega
            have m3 : IntKind.wrap .i64 B = B := wrap64 (by omega) (by omega)
            have m4 : IntKind.wrap .i64 (A + B) = ((valGo 0 (s.take (i + 1)) : Nat) : Int) := by rw [wrap64 (by omega) (by omega), h2]; omega
            have hmeas : s.length - (i + 1) < s.length - i := by omega
            have hi1 : i + 1 ≤ s.length := hlt
            refine ⟨i + 1, ?_⟩
            simp only [Bool.and_true] at h1
            generalize valGo 0 (s.take (i + 1)) = V2 at *
            generalize (s.take (i + 1)).all isDig = b2 at *
            simp [p0, p4, p5, hlt, hdc, hwi, hA, hB, m1, m2, m3, m4, hmeas, hi1, h1]
        · right
          have hie : i = s.length := by omega
          subst hie
          rw [List.take_length] at p4 ha
          refine ⟨.ex 0, ?_⟩
          simp [p0, p4, p5, ha]) n 0 _ r hI ⟨by simp, rfl, by simp, by omega, by simp⟩ (by omega)
    rw [hend]
    rcases hx with ⟨rfl, ha, p2, p3⟩ | ⟨rfl, ha, p4⟩
    · simp [p2, p3, ha]
    · simp [p4, ha]
  · have d3' : decide ((1 : Int) < (s.length : Int)) = true := by simpa using d3
    simp [runFn, Tryz.f95, d1', h0, d2, d3', hpos, hg0, hb1]
    generalize hI : iter _ _ _ = r
    obtain ⟨x, pf', rfl, hx⟩ := iter_gen (fun i : Nat => s.length - i) (fun i pf => pf 0 = .str s ∧ pf 4 = .int .i64 (valGo 0 (s.take i)) ∧ pf 5 = .int .i64 i ∧ i ≤ s.length ∧ (s.take i).all isDig = true)
      (fun x pf => (x = .ret ∧ s.all isDig = false ∧ pf 2 = .int .i64 0 ∧ pf 3 = .bool false) ∨ (x = .ex 0 ∧ s.all isDig = true ∧ pf 4 = .int .i64 (valGo 0 s)))
      (fun i pf h => by
        obtain ⟨p0, p4, p5, hi, ha⟩ := h
        by_cases hlt : i < s.length
        · have h1 := all_take_succ s i hlt
          have h2 := val_take_succ s i hlt
          have hdc := h137 s[i]
          have hv := valGo_lt (s.take i) 0 ha
          have hpw : 10 ^ (s.take i).length ≤ 10 ^ 9 := Nat.pow_le_pow_right (by decide) (by rw [List.length_take]; omega)
          have hv9 : valGo 0 (s.take i) < 1000000000 := by
            have : (10 : Nat) ^ 9 = 1000000000 := by decide
            omega
          cases hdg : isDig s[i] with
          | false =>
            right
            have hall : s.all isDig = false := by
              cases hb : s.all isDig with
              | false => rfl
              | true =>
                have := List.all_eq_true.1 hb s[i] (List.getElem_mem hlt)
                rw [hdg] at this; cases this
            rw [hdg] at hdc
            refine ⟨.ret, ?_⟩
            simp [p0, p4, p5, hlt, hdc, hall]
          | true =>
            left
            rw [hdg] at hdc
            rw [ha, hdg] at h1
            obtain ⟨b1, b2⟩ := isDig_toNat hdg
            obtain ⟨V, hV⟩ : ∃ V, valGo 0 (s.take i) = V := ⟨_, rfl⟩
            rw [hV] at p4 hv9 h2
            have hwi := w64 (i := i) (by omega)
            have m1 : IntKind.wrap .i64 (10 * (V : Int)) = 10 * (V : Int) := wrap64 (by omega) (by omega)
            obtain ⟨A, hA⟩ : ∃ A : Int, 10 * (V : Int) = A := ⟨_, rfl⟩
            obtain ⟨B, hB⟩ : ∃ B : Int, (s[i].toNat : Int) - 48 = B := ⟨_, rfl⟩
            rw [hA] at m1
            have m2 : IntKind.wrap .u8 B = B := by simp [IntKind.wrap, IntKind.bits, IntKind.signed]; omega
            have m3 : IntKind.wrap .i64 B = B := wrap64 (by omega) (by omega)
            have m4 : IntKind.wrap .i64 (A + B) = ((valGo 0 (s.take (i + 1)) : Nat) : Int) := by rw [wrap64 (by omega) (by omega), h2]; omega
            have hmeas : s.length - (i + 1) < s.length - i := by omega
            have hi1 : i + 1 ≤ s.length := hlt
            refine ⟨i + 1, ?_⟩
            simp only [Bool.and_true] at h1
            generalize valGo 0 (s.take (i + 1)) = V2 at *
            generalize (s.take (i + 1)).all isDig = b2 at *
            simp [p0, p4, p5, hlt, hdc, hwi, hA, hB, m1, m2, m3, m4, hmeas, hi1, h1]
        · right
          have hie : i = s.length := by omega
          subst hie
          rw [List.take_length] at p4 ha
          refine ⟨.ex 0, ?_⟩
          simp [p0, p4, p5, ha]) n 0 _ r hI ⟨by simp, rfl, by simp, by omega, by simp⟩ (by omega)
    rw [hend]
    rcases hx with ⟨rfl, ha, p2, p3⟩ | ⟨rfl, ha, p4⟩
    · simp [p2, p3, ha]
    · simp [p4, ha]

theorem cp58 [XX] (n : Nat) (s : Str) (least : Int) (hs : s.length ≤ 2000000) (hn : s.length + 30 < n) : CP (F (n + 1)) 58 [.str s, .int .i64 least] (.tup [.int .i64 (numberL s least).1, .bool (numberL s least).2]) := by
  refine F_cp (rs := [.int .i64 (numberL s least).1, .bool (numberL s least).2]) (S := []) rfl rfl ?_
  rw [F_fn rfl rfl Tryz.func58 rfl]
  obtain ⟨m, rfl⟩ : ∃ m, n = m + 1 := ⟨n - 1, by omega⟩
  have h1 := cp96 m s hs (by omega)
  have h2 := cp95 m (trimB s) (by omega)
  simp only [CP] at h1 h2
  unfold numberL
  generalize numP (trimB s) = p at *
  obtain ⟨k, b⟩ := p
  generalize trimB s = t at *
  simp only at h2 ⊢
  generalize m + 1 = n at *
  cases b with
  | false => simp [runFn, Tryz.f58, h1, h2]
  | true =>
    by_cases hk : least ≤ (k : Int)
    · simp [runFn, Tryz.f58, h1, h2, hk]
    · simp [runFn, Tryz.f58, h1, h2, hk]

set_option maxHeartbeats 1000000 in
theorem cp60 [XX] (n k : Nat) (hk : k < 1000000000) (hn : k + 1 < n) : CP (F (n + 1)) 60 [.int .i64 k] (.str (decL k)) := by
  refine F_cp (rs := [.str (decL k)]) (S := []) rfl rfl ?_
  rw [F_fn rfl rfl Tryz.func60 rfl]
  simp [runFn, Tryz.f60]
  generalize hI : iter _ _ _ = r
  obtain ⟨x, pf', rfl, h⟩ := iter_gen (fun x : Nat × Str => if x.1 = 0 ∧ x.2 ≠ [] then 0 else x.1 + 1) (fun x pf => pf 0 = .int .i64 x.1 ∧ pf 3 = .str x.2 ∧ decI k x ∧ x.1 ≤ k)
    (fun x pf => x = .ex 0 ∧ pf 3 = .str (decL k))
    (fun x pf h => by
      obtain ⟨m, s⟩ := x
      obtain ⟨h0, h3, hd, hmk⟩ := h
      simp only at h0 h3 hmk
      have hsl := decI_len hd hk
      have hd10 : m % 10 < 10 := Nat.mod_lt _ (by decide)
      have e1 := tmod10 m
      have e2 := tdiv10 m
      have e3 := w64 (i := m % 10) (by omega)
      have e4 : IntKind.wrap .i64 ((m / 10 : Nat) : Int) = ((m / 10 : Nat) : Int) := wrap64 (by omega) (by omega)
      have e5 := dig_slice' (m % 10) hd10
      have e6 : ((m % 10 + 1 : Nat) : Int) ≤ 10 := by omega
      have e7 : ((m % 10 : Nat) : Int) ≤ ((m % 10 + 1 : Nat) : Int) := by omega
      have e8 : (0 : Int) ≤ ((m % 10 + 1 : Nat) : Int) := by omega
      have e9 : (0 : Int) ≤ ((m % 10 : Nat) : Int) := by omega
      have e10 : min 1 (10 - m % 10) + s.length ≤ 9223372036854775807 := by omega
      have e13 : 1 + s.length ≤ 9223372036854775807 := by omega
      have e12 : min 1 (10 - m % 10) ≤ 9223372036854775807 := by omega
      generalize hq : ((m % 10 + 1 : Nat) : Int) = q at *
      generalize hp : ((m % 10 : Nat) : Int) = p at *
      generalize hv : ((m / 10 : Nat) : Int) = v at *
      have hqn : q.toNat = m % 10 + 1 := by omega
      have hpn : p.toNat = m % 10 := by omega
      have e11 : p ≤ (m : Int) % 10 + 1 := by omega
      have hlt : (if m / 10 = 0 ∧ digB (m % 10) :: s ≠ [] then 0 else m / 10 + 1) < (if m = 0 ∧ s ≠ [] then 0 else m + 1) ∨ (m = 0 ∧ s ≠ []) := by
        by_cases h1 : m = 0 ∧ s ≠ []
        · exact .inr h1
        · left
          rw [if_neg h1]
          split
          · omega
          · rename_i h2
            have : m / 10 ≠ 0 := fun e => h2 ⟨e, by simp⟩
            omega
      by_cases hgo : m = 0 ∧ s ≠ []
      · right
        obtain ⟨hm, hs⟩ := hgo
        have hs' : decide ((0 : Int) < (m : Int)) = false := by simp; omega
        have hs2 : (s == []) = false := by simpa using hs
        have hfin : s = decL k := by
          rcases hd with ⟨g1, _⟩ | ⟨_, _, g3⟩ | ⟨_, g2, _⟩
          · exact absurd g1 hs
          · exact g3
          · exact absurd hm g2
        refine ⟨.ex 0, ?_⟩
        simp [h0, h3, hs', hs2, hm, hs, ← hfin]
      · left
        have hmeas := hlt.resolve_right hgo
        have hst := decI_step hd (by by_cases e : m = 0; exact .inr (Classical.byContradiction fun e2 => hgo ⟨e, e2⟩); exact .inl e)
        refine ⟨(m / 10, digB (m % 10) :: s), ?_⟩
        have hle : m / 10 ≤ k := by omega
        by_cases hm : m = 0
        · have hs : s = [] := Classical.byContradiction fun e2 => hgo ⟨hm, e2⟩
          have hs' : ¬ 0 < m := by omega
          subst hs
          simp only [List.cons_ne_nil, ne_eq, not_false_eq_true, and_true] at hmeas
          simp [h0, h3, hs', e1, e2, e3, e4, e5, e6, e7, e8, e9, e11, e12, hqn, hpn, hst, hle, hmeas, hv]
          split <;> omega
        · have hs' : 0 < m := by omega
          simp [h0, h3, hs', e1, e2, e3, e4, e5, e6, e7, e8, e9, e11, e12, e13, hqn, hpn, e10, e5, hst, hle, hmeas, hv, hm]
          split <;> omega) n (k, []) _ r hI ⟨by simp, by simp, .inl ⟨rfl, rfl⟩, Nat.le_refl _⟩ (by simp; omega)
  obtain ⟨rfl, h3⟩ := h
  simp [h3]

def someG (a b : Nat) : Nat → List Str → List Str
  | _, [] => []
  | i, x :: r => if a ≤ i + 1 ∧ i + 1 ≤ b then x :: someG a b (i + 1) r else someG a b (i + 1) r
theorem someG_app (a b : Nat) : ∀ (l : List Str) (i : Nat) (x : Str), someG a b i (l ++ [x]) = someG a b i l ++ (if a ≤ i + l.length + 1 ∧ i + l.length + 1 ≤ b then [x] else [])
  | [], i, x => by simp [someG]
  | y :: l, i, x => by
    have ih := someG_app a b l (i + 1) x
    rw [show i + 1 + l.length + 1 = i + (y :: l).length + 1 by simp; omega] at ih
    rw [List.cons_append, someG, someG, ih]
    split <;> simp
theorem someG_behind (a b : Nat) : ∀ (l : List Str) (i : Nat), a ≤ i + 1 → someG a b i l = l.take (b - i)
  | [], i, _ => by simp [someG]
  | x :: r, i, h => by
    have ih := someG_behind a b r (i + 1) (by omega)
    rw [someG, ih]
    by_cases hb : i + 1 ≤ b
    · rw [if_pos ⟨h, hb⟩, show b - i = (b - (i + 1)) + 1 by omega, List.take_succ_cons]
    · rw [if_neg (by omega), show b - i = 0 by omega, show b - (i + 1) = 0 by omega]; simp
theorem someG_eq (a b : Nat) : ∀ (l : List Str) (i : Nat), i + 1 ≤ a → someG a b i l = (l.drop (a - 1 - i)).take (b - (a - 1))
  | [], i, _ => by simp [someG]
  | x :: r, i, h => by
    by_cases he : i + 1 = a
    · rw [someG_behind a b _ _ (by omega), show a - 1 - i = 0 by omega, show b - (a - 1) = b - i by omega]; rfl
    · have ih := someG_eq a b r (i + 1) (by omega)
      rw [someG, if_neg (by omega), ih, show a - 1 - i = (a - 1 - (i + 1)) + 1 by omega, List.drop_succ_cons]
theorem some_span (w : List Str) (a b : Nat) (ha : 1 ≤ a ∨ w = []) : joinL [32] (someG a b 0 w) = spanL w a b := by
  by_cases hw : w = []
  · subst hw; simp [someG, spanL, joinL]
  have ha : 1 ≤ a := ha.resolve_right hw
  rw [someG_eq a b w 0 (by omega), Nat.sub_zero]
  have e1 : ((a : Int) - 1).toNat = a - 1 := by omega
  simp only [spanL, e1]
  by_cases hb : w.length < b
  · have hb' : (w.length : Int) < (b : Int) := by omega
    simp only [hb', if_true]
    by_cases hc : w.length < a
    · rw [if_pos (by omega), List.drop_of_length_le (by omega)]; simp [joinL]
    · rw [if_neg (by omega), List.take_of_length_le (by simp; omega), List.take_of_length_le (by simp)]
  · have hb' : ¬ (w.length : Int) < (b : Int) := by omega
    simp only [hb', if_false]
    by_cases hc : b < a
    · rw [if_pos (by omega), show b - (a - 1) = 0 by omega]; simp [joinL]
    · rw [if_neg (by omega)]
      have e2 : (b : Int).toNat = b := by omega
      rw [e2]
theorem someG_len (a b : Nat) : ∀ (l : List Str) (i : Nat), (someG a b i l).length ≤ l.length
  | [], i => by simp [someG]
  | x :: r, i => by
    have ih := someG_len a b r (i + 1)
    rw [someG]; split <;> simp <;> omega

set_option maxHeartbeats 4000000 in
theorem cp59 [XX] (n : Nat) (a b : Nat) (t : Str) (ht : t.length ≤ 2000000) (hn : t.length + 30 < n) : CP (F (n + 1)) 59 [.int .i64 a, .int .i64 b, .str t] (.sl 1 ((someG a b 0 (wordsL t)).map .str)) := by
  refine F_cp (rs := [.sl 1 ((someG a b 0 (wordsL t)).map .str)]) (S := []) rfl (by simp [noBoxL, noBox]) ?_
  rw [F_fn rfl rfl Tryz.func59 rfl]
  have h53 : callP (F n) (.f 53) [.str t] = some (.sl 1 ((wordsL t).map .str)) := by
    obtain ⟨m, rfl⟩ : ∃ m, n = m + 1 := ⟨n - 1, by omega⟩
    exact cp53 m t ht (by omega)
  have hwl := wordsL_len t
  generalize wordsL t = w at *
  simp [runFn, Tryz.f59, h53]
  generalize hI : iter _ _ _ = r
  obtain ⟨pf', rfl, h⟩ := iter_count 0 (fun i pf => pf 0 = .int .i64 a ∧ pf 1 = .int .i64 b ∧ pf 7 = .sl 1 (w.map .str) ∧ pf 8 = .sl 1 ((someG a b 0 (w.take i)).map .str) ∧ pf 9 = .int .i64 i) w.length
    (fun i pf hi h => by
      obtain ⟨p0, p1, p7, p8, p9⟩ := h
      have hw := w64 (i := i) (by omega)
      have hst := someG_app a b (w.take i) 0 w[i]
      rw [← List.take_succ_eq_append_getElem hi] at hst
      have hlt : 0 + (w.take i).length + 1 = i + 1 := by rw [List.length_take]; omega
      rw [hlt] at hst
      rw [hst]
      have hgl := someG_len a b (w.take i) 0
      rw [List.length_take] at hgl
      generalize someG a b 0 (w.take i) = o at *
      have hb : (o.length + 1) * 16 ≤ 140737488355328 := by omega
      by_cases h1 : a ≤ i + 1
      · have h1' : (a : Int) ≤ (i : Int) + 1 := by omega
        by_cases h2 : i + 1 ≤ b
        · have h2' : (i : Int) + 1 ≤ (b : Int) := by omega
          simp [p0, p1, p7, p8, p9, hi, hw, h1', h2', h1, h2, hb]
        · have h2' : ¬ (i : Int) + 1 ≤ (b : Int) := by omega
          simp [p0, p1, p7, p8, p9, hi, hw, h1', h2', h1, h2, hb]
      · have h1' : ¬ (a : Int) ≤ (i : Int) + 1 := by omega
        simp [p0, p1, p7, p8, p9, hi, hw, h1', h1, hb])
    (fun pf h => by
      obtain ⟨p0, p1, p7, p8, p9⟩ := h
      simp [p0, p1, p7, p8, p9]) w.length 0 n _ r (by omega) hI (by simp [someG]) (by omega)
  obtain ⟨p0, p1, p7, p8, p9⟩ := h
  rw [List.take_length] at p8
  simp [p8]

end Go.Proofs.YtaignnlnmffiaaaGreatDoor.Ex
