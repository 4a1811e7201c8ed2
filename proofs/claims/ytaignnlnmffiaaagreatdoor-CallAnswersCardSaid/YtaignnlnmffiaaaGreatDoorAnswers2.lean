/- Part 2 of the proof: what is walked and what is not, the pure interpreter over the code and its soundness, plain laws. -/
import Derived.Test.YtaignnlnmffiaaaGreatDoorAnswers1
import Derived.Lib.SlTrimSet
import Derived.Lib.Strings
import Derived.Lib.IndexMore
import Derived.Lib.LastIndexByte
import Derived.Lib.Replace
import Derived.Lib.ItoaNum
import Derived.Lib.Join
import Derived.Lib.IndexAny
import Derived.Lib.ParseIntB
import Derived.Lib.SlicesCompact
import Derived.Test.YtaignnlnmffiaaaGreatDoorProg
import Derived.KernelRfl
set_option linter.unusedSimpArgs false
set_option linter.unusedVariables false
set_option linter.unusedSectionVars false

/- Code: what the pure interpreter answers is what the machine comes to. -/
namespace Go.Proofs.YtaignnlnmffiaaaGreatDoor.Ex
open Go Go.RowKit

/-- The round that is under way, if any. -/
def RdR (bl : BL) : Option Nat → Option Nat → Prop
  | none, none => True
  | some l, some i => (mains bl)[i]? = some l
  | _, _ => False

section
variable {LOK : LoopA → Prop} {P : Program} {C : Gee} {own : FuncId → Bool} {call : CallT} {R : Reads} {w w' : World} {a : Act} {pf : PF} {bl : BL} {S S' : Obs} {D : List Nat} {B : Base}
  {nt : Nat} {E E' : Env}

theorem Rel.push (hrel : Rel LOK B nt E pf S D a w R bl) (ob : Obj) {x : Ob} (hob : ObR LOK R (mains (bl ++ [(w.heap.size, [])])) (w.alloc ob) (w.heap.size, []) x) :
    Rel LOK B nt E pf (S ++ [x]) D a (w.alloc ob) R (bl ++ [(w.heap.size, [])]) := by
  have := hrel.put_plain (hrel.stp.push hrel.sr.lt ob) (fun _ _ h => h) (fun i b hb => by
    rw [mains_append, List.getElem?_append_left (List.getElem?_eq_some_iff.1 hb).1]; exact hb) (hrel.sr.push hrel.stab ob hob) .undef (o := none) (by simp) (fun s g hsg b hb => ?_)
  · exact this
  · obtain ⟨sz, xs, _, h5⟩ := hrel.own s g hsg
    have hlt := (h5.lt hb).2
    refine ⟨?_, fun q u hq => .inl hq, fun hf => ?_⟩
    · show (w.heap.push ob)[b]? = _
      rw [Array.getElem?_push, if_neg (by omega)]
    · rw [fp_append] at hf
      rcases List.mem_append.1 hf with hf | hf
      · exact (hrel.mine s g hsg b hb).2 hf
      · simp [fp] at hf; omega

theorem noR_loop (hs : Stab R w) {b : Nat} {r : Loop} (h : w.heap[b]? = some (.loop r)) : ∀ a u, R a u → a.block ≠ b := by
  intro a u hr e
  have := (hs a u hr).1
  simp [World.cell?, e, h] at this

theorem noR_dfr (hs : Stab R w) {b : Nat} {r : Option (List Deferred)} (h : w.heap[b]? = some (.deferred r)) : ∀ a u, R a u → a.block ≠ b := by
  intro a u hr e
  have := (hs a u hr).1
  simp [World.cell?, e, h] at this

/-- An object changes, and nothing else. -/
theorem Rel.obj (hrel : Rel LOK B nt E pf S D a w R bl) {i : Nat} {p : Nat × List Nat} (hp : bl[i]? = some p) {o : Obj} (hno : ∀ a u, R a u → a.block ≠ p.1) {x : Ob}
    (hob : ObR LOK R (mains bl) (w.putObj p.1 o) (p.1, []) x) : Rel LOK B nt E pf (S.set i x) D a (w.putObj p.1 o) R (bl.set i (p.1, [])) := by
  have hw : ∀ k, k ≠ p.1 → (w.putObj p.1 o).heap[k]? = w.heap[k]? := fun k hk => World.putObj_heap_other hk
  have := hrel.put_plain (hrel.stp.upd (w' := w.putObj p.1 o) hp (q := []) (by simp) World.putObj_size rfl rfl rfl hw (.inl hno)) (fun _ _ h => h) (fun j b hb => by rw [mains_set hp]; exact hb)
    (hrel.sr.upd (w' := w.putObj p.1 o) hp (q := []) (by simp) (by simp) (by simp) (Nat.le_of_eq World.putObj_size.symm) hw hob) .undef (o := none) (by simp) (fun s g hsg b hb => ?_)
  · exact this
  · have hm := (hrel.mine s g hsg b hb).2
    refine ⟨hw b fun e => hm (by rw [e]; exact (fp_at hp).1), fun q u hq => .inl hq, fun hf => ?_⟩
    rcases fp_set hp hf with h | h
    · exact hm h
    · cases h

theorem fn_sound {M : List Nat} {v : Value} {f : FuncId} {fs cs : List AV} (h : VR R M v (.fn f fs cs)) : ∃ first caps : Array Value, v = .func (.func f) first caps ∧ VRs R M first.toList fs ∧ VRs R M caps.toList cs := by
  cases h with
  | fn _ first caps _ _ h1 h2 v1 v2 =>
    refine ⟨first, caps, rfl, ⟨by simpa using h1, fun i k1 k2 => ?_⟩, ⟨by simpa using h2, fun i k1 k2 => ?_⟩⟩
    · simpa using v1 i (by simpa using k1) k2
    · simpa using v2 i (by simpa using k1) k2

theorem run_invoke {f : FuncId} {caps args : Array Value} (hc : callable P f = true) : (invoke (.fn (.func f) caps) args).run P w = .ok (.enter f (args ++ caps)) w := by
  unfold callable at hc
  split at hc
  case h_2 => cases hc
  rename_i fn hfn
  simp only [Bool.and_eq_true, bne_iff_ne] at hc
  obtain ⟨cb, hbody⟩ := Option.isSome_iff_exists.1 hc.2
  simp [invoke, callFunc, program, Sem.run, hfn, hc.1, hbody]

theorem range_inner (hcall : ∀ c, COK (lokB own) P C own c (call c)) (hcb : ∀ f avs S r, call (.f f) avs S = some r → callable P f = true) (hGB : Gd C B.R B.bl B.w)
    {ro : Option Nat} {m : Nat} {pf : PF} {S1 S2 : Obs} {D1 : List Nat} {ids : List Nat} {a1 : Act} {w1 : World} {bl1 : BL} {id l : Nat} {f : FuncId} {fs cs : List AV} {rs : List AV} {z : PX} {c' : Cfg} {first caps : Array Value}
    (hrel : Rel (lokB own) B nt E pf S1 D1 a1 w1 R bl1) (hid : (mains bl1)[id]? = some l) (h1 : VRs R (mains bl1) first.toList fs) (h2 : VRs R (mains bl1) caps.toList cs)
    (hc : call (.f f) (fs ++ [.yld id] ++ cs) S1 = some (rs, S2)) (hl : leaveS ids pf D1 id S2 = some (z, c')) :
    CallsIn (fen ro) (m - 1) P f (first ++ #[.func (.yield l) #[] #[]] ++ caps) w1
      (rangePost (fen ro) m P l (fun e a' w' => e = z.exit ∧ ∃ E' R' bl', Outs.has ⟨some E, ids.map fun i => (i, E), [E]⟩ z E' ∧ Rel (lokB own) B nt E' c'.pf c'.S c'.D a' w' R' bl') a1) := by
  have hvy : VRs R (mains bl1) [Value.func (.yield l) #[] #[]] [AV.yld id] := ⟨rfl, fun i k1 k2 => by
    have : i = 0 := by simpa using k1
    subst this; exact .yld id l hid⟩
  have hk := hcall (.f f) R bl1 w1 S1 (first.toList ++ [Value.func (.yield l) #[] #[]] ++ caps.toList) _ rs S2 (hGB.rel hrel) hrel.stab hrel.sr ((h1.append hvy).append h2) hc
  have hargs : (first.toList ++ [Value.func (.yield l) #[] #[]] ++ caps.toList).toArray = first ++ #[.func (.yield l) #[] #[]] ++ caps := by apply Array.toList_inj.1; simp
  rw [hargs] at hk
  have hk2 : Calls P f (first ++ #[.func (.yield l) #[] #[]] ++ caps) w1 _ := hk
  refine CallsIn.mono (F := fen ro) ((callsIn_wide (n := m - 1)).2 hk2) fun e w' hp => ?_
  obtain ⟨vs, R', bl', rfl, hvs, hst, hsr', _⟩ := hp
  have hrel2 : Rel (lokB own) B nt E pf S2 D1 a1 w' R' bl' :=
    hrel.put_plain (hrel.stp.trans hst) hst.sub hst.main hsr' .undef (o := none) (by simp) (fun s g hsg b hb => hrel.kept_stp hst hsg hb)
  unfold leaveS at hl
  split at hl
  case h_2 => cases hl
  rename_i r hS2
  obtain ⟨p, hp, hpl⟩ := mains_inv (hst.main id l hid)
  subst hpl
  obtain ⟨g1, g2, rec, g3, g4, g5, g6⟩ := hrel2.sr.obj id p _ hp hS2
  have hnb : rec.state ≠ .busy ∧ (jumpAV ids r.pending).map (fun x => (x, (⟨pf, S2.set id .gone, D1⟩ : Cfg))) = some (z, c') := by
    rw [g4]
    split at hl
    · cases hl
    · rename_i hne; exact ⟨hne, hl⟩
  obtain ⟨hnb, hl⟩ := hnb
  simp only [Option.map_eq_some_iff] at hl
  obtain ⟨z', hz, he⟩ := hl
  injection he with e1 e2
  subst e1 e2
  have hrel3 := hrel2.obj hp (o := .loop { rec with state := .exhausted }) (noR_loop hrel2.stab g3) (x := .gone) trivial
  refine ⟨_, _, run_endLoop g3 hnb, ?_⟩
  rw [g5] at hrel3 ⊢
  unfold jumpAV at hz
  split at hz
  · rename_i hpd
    rw [hpd] at hrel3 ⊢
    injection hz with hz; subst hz
    exact ⟨rfl, E, R', _, rfl, hrel3⟩
  · rename_i hpd
    rw [hpd] at hrel3 ⊢
    injection hz with hz; subst hz
    exact wpIn_ret ⟨rfl, E, R', _, by simp [Outs.has], hrel3⟩
  · rename_i i hpd
    rw [hpd] at hrel3 ⊢
    split at hz
    case isFalse => cases hz
    rename_i hi
    injection hz with hz; subst hz
    exact wpIn_exit ⟨rfl, E, R', _, by simp only [Outs.has, List.mem_map]; exact ⟨i, by simpa using hi, rfl⟩, hrel3⟩
  · cases hz

theorem range_sound (hcall : ∀ c, COK (lokB own) P C own c (call c)) (hcb : ∀ f avs S r, call (.f f) avs S = some r → callable P f = true) (hGB : Gd C B.R B.bl B.w)
    {ro rd : Option Nat} (hrd : RdR B.bl ro rd) {m n : Nat} {g : Operand} {ps : Array Tmp} {asg body : Code} {c c' : Cfg} {z : PX} {O : Outs}
    (h : exec P own call n rd nt (.rangeFunc g ps asg body) c = some (z, c')) (hc : chk own nt (.rangeFunc g ps asg body) E = some O) (hrel : Rel (lokB own) B nt E c.pf c.S c.D a w R bl) :
    (Code.rangeFunc g ps asg body).wpIn (fen ro) m P (fun e a' w' => e = z.exit ∧ ∃ E' R' bl', O.has z E' ∧ Rel (lokB own) B nt E' c'.pf c'.S c'.D a' w' R' bl') a w := by
  simp only [exec] at h
  split at h
  case h_2 => cases h
  rename_i f fs cs hg
  split at h
  case h_2 => cases h
  rename_i S1 hS1
  split at h
  case h_2 => cases h
  rename_i rs S2 hcl
  simp only [chk] at hc
  split at hc
  case isFalse => cases hc
  rename_i hck
  injection hc with hc; subst hc
  simp only [Bool.and_eq_true] at hck
  obtain ⟨first, caps, hev, hfs, hcs⟩ := fn_sound (opv_sound hrel.fr hg)
  have hcal := hcb f _ _ _ hcl
  have hlok : lokB own ⟨.ready, none, c.pf, nt, ps.toList, asg, body⟩ := ⟨hck.1.1, hck.1.2, hck.2⟩
  have hres : ∀ (l : Nat) (w1 : World), (resolve a.eval (rangeCall g l) 0).run P w1 = .ok { target := .fn (.func f) caps, args := first ++ #[.func (.yield l) #[] #[]] } w1 := by
    intro l w1
    have hcv : a.eval (.const (.func (.yield l) #[] #[])) = .func (.yield l) #[] #[] := rfl
    simp [resolve, rangeCall, hev, Deferred.ofValue, hcv]
  refine wpIn_rangeFunc fun fn _ => ?_
  match ro, rd, hrd with
  | none, none, _ =>
    simp only [enterS, Option.some.injEq] at hS1
    subst hS1
    have hrel1 := hrel.push (.deferred (some [])) (x := .dfr) ⟨rfl, alloc_new w _⟩
    have hrel2 := hrel1.push (.loop { state := .ready, pending := none, fn := fn, tmps := a.tmps, params := ps, assign := asg, body := body, defers := w.heap.size })
      (x := .loop ⟨.ready, none, c.pf, nt, ps.toList, asg, body⟩) ⟨rfl, hlok, _, alloc_new _ _, rfl, rfl, rfl, rfl, rfl, hrel.size, fun t => (hrel1.fr t).monoM (fun _ _ h => h) (fun i b hb => by
        rw [mains_append, List.getElem?_append_left (List.getElem?_eq_some_iff.1 hb).1]; exact hb)⟩
    have hM : ∀ (i b : Nat), (mains bl)[i]? = some b → (mains (bl ++ [(w.heap.size, [])] ++ [((w.alloc (.deferred (some []))).heap.size, [])]))[i]? = some b := fun i b hb => by
      rw [mains_append, List.getElem?_append_left (by rw [mains_append]; simp; have := (List.getElem?_eq_some_iff.1 hb).1; omega), mains_append, List.getElem?_append_left (List.getElem?_eq_some_iff.1 hb).1]
      exact hb
    have hsz : (w.alloc (.deferred (some []))).heap.size = w.heap.size + 1 := Array.size_push ..
    have hlen : c.S.length = (mains bl).length := by rw [← hrel.sr.len]; simp [mains]
    let mk : List Deferred := [{ target := .collected w.heap.size, args := #[] }]
    have hrel3 : Rel (lokB own) B nt E c.pf (c.S ++ [.dfr] ++ [.loop ⟨.ready, none, c.pf, nt, ps.toList, asg, body⟩]) (enterD none c.S c.D) { a with defers := mk ++ a.defers }
        ((w.alloc (.deferred (some []))).alloc (.loop { state := .ready, pending := none, fn := fn, tmps := a.tmps, params := ps, assign := asg, body := body, defers := w.heap.size })) R (bl ++ [(w.heap.size, [])] ++ [((w.alloc (.deferred (some []))).heap.size, [])]) := by
      refine ⟨hrel2.size, ?_, hrel2.fr, hrel2.sr, hrel2.stp, hrel2.own, hrel2.mine, hrel2.dist⟩
      obtain ⟨bs, d1, d2, d3⟩ := hrel.defers
      refine ⟨w.heap.size :: bs, by simp [mk, d1], by simp [enterD, d2], fun k b i hk hi => ?_⟩
      cases k with
      | zero =>
        simp [enterD] at hk hi
        subst hk hi
        rw [mains_append, mains_append, List.getElem?_append_left (by simp [mains]; rw [hlen]; simp [mains]), List.getElem?_append_right (by rw [hlen]; exact Nat.le_refl _), hlen]
        simp [mains]
      | succ k =>
        simp [enterD] at hk hi
        exact hM i b (d3 k b i hk hi)
    have hidx : (c.S ++ [Ob.dfr] ++ [Ob.loop ⟨.ready, none, c.pf, nt, ps.toList, asg, body⟩]).length - 1 = c.S.length + 1 := by simp
    rw [hidx] at hcl h
    refine ⟨_, mk, _, _, _, f, _, _, run_enterLoop_outer fn a.tmps ps asg body, hres _ _, fun _ _ => trivial, run_invoke hcal, fun hd => by simp [fen, Fence.wide] at hd, ?_⟩
    refine range_inner hcall hcb hGB hrel3 ?_ ?_ ?_ hcl h
    · rw [mains_append, List.getElem?_append_right (by rw [mains_append]; simp [mains]; have := hlen; simp [mains] at this; omega)]
      have : (mains (bl ++ [(w.heap.size, [])])).length = c.S.length + 1 := by rw [mains_append]; simp [mains]; have := hlen; simp [mains] at this; omega
      rw [this]
      simp [mains, hsz]
    · exact hfs.monoM (fun _ _ h => h) hM
    · exact hcs.monoM (fun _ _ h => h) hM
  | some l0, some i, hrd =>
    simp only [enterS] at hS1
    split at hS1
    case h_2 => cases hS1
    rename_i r0 hr0
    injection hS1 with hS1; subst hS1
    obtain ⟨p, hp, hpl⟩ := mains_inv (hrel.stp.main i l0 hrd)
    subst hpl
    obtain ⟨_, _, rec0, hrec0, _⟩ := hrel.sr.obj i p _ hp hr0
    have hM : ∀ (i b : Nat), (mains bl)[i]? = some b → (mains (bl ++ [(w.heap.size, [])]))[i]? = some b := fun i b hb => by
      rw [mains_append, List.getElem?_append_left (List.getElem?_eq_some_iff.1 hb).1]; exact hb
    have hrel2 := hrel.push (.loop { state := .ready, pending := none, fn := fn, tmps := a.tmps, params := ps, assign := asg, body := body, defers := rec0.defers })
      (x := .loop ⟨.ready, none, c.pf, nt, ps.toList, asg, body⟩) ⟨rfl, hlok, _, alloc_new _ _, rfl, rfl, rfl, rfl, rfl, hrel.size, fun t => (hrel.fr t).monoM (fun _ _ h => h) hM⟩
    have hlen : c.S.length = (mains bl).length := by rw [← hrel.sr.len]; simp [mains]
    have hidx : (c.S ++ [Ob.loop ⟨.ready, none, c.pf, nt, ps.toList, asg, body⟩]).length - 1 = c.S.length := by simp
    rw [hidx] at hcl h
    have hrun : (Instr.enterLoop fn a.tmps ps asg body (some p.1)).run P w = .ok (w.heap.size, [])
        (w.alloc (.loop { state := .ready, pending := none, fn := fn, tmps := a.tmps, params := ps, assign := asg, body := body, defers := rec0.defers })) := by
      unfold Instr.enterLoop
      simp only [Sem.run_bind, run_getLoop hrec0, run_newObj_alloc, Result.andThen, Sem.run_pure]
    refine ⟨_, _, _, _, _, f, _, _, hrun, hres _ _, fun _ _ => trivial, run_invoke hcal, fun hd => by simp [fen, Fence.wide] at hd, ?_⟩
    refine range_inner hcall hcb hGB (a1 := { a with defers := [] ++ a.defers }) hrel2 ?_ ?_ ?_ hcl h
    · rw [mains_append, List.getElem?_append_right (by rw [hlen]; exact Nat.le_refl _), hlen]
      simp [mains]
    · exact hfs.monoM (fun _ _ h => h) hM
    · exact hcs.monoM (fun _ _ h => h) hM

/-- Behind a fold of joins, each that went in is at least as strong. -/
theorem fold_join {l : List (Nat × Env)} : ∀ {x : Option Env} {E1 : Env}, (∀ (c : Cfg) (a : Act) (w : World) (R : Reads) (bl : BL), Rel LOK B nt E1 c.pf c.S c.D a w R bl → ∃ E', x = some E' ∧ Rel LOK B nt E' c.pf c.S c.D a w R bl) →
    ∀ (c : Cfg) (a : Act) (w : World) (R : Reads) (bl : BL), Rel LOK B nt E1 c.pf c.S c.D a w R bl → ∃ E', l.foldl (fun j p => joinO j (some p.2)) x = some E' ∧ Rel LOK B nt E' c.pf c.S c.D a w R bl := by
  induction l with
  | nil => intro x E1 h c a w R bl hr; exact h c a w R bl hr
  | cons p r ih =>
    intro x E1 h c a w R bl hr
    refine ih (x := joinO x (some p.2)) (fun c a w R bl hr => ?_) c a w R bl hr
    obtain ⟨E', hx, hr'⟩ := h c a w R bl hr
    obtain ⟨E2, h2, h3⟩ := joinO_left (y := some p.2) hx
    exact ⟨E2, h2, hr'.le h3⟩

theorem fold_mem {l : List (Nat × Env)} {id : Nat} {E1 : Env} (hm : (id, E1) ∈ l) : ∀ (x : Option Env) (c : Cfg) (a : Act) (w : World) (R : Reads) (bl : BL), Rel LOK B nt E1 c.pf c.S c.D a w R bl →
    ∃ E', l.foldl (fun j p => joinO j (some p.2)) x = some E' ∧ Rel LOK B nt E' c.pf c.S c.D a w R bl := by
  induction l with
  | nil => cases hm
  | cons p r ih =>
    intro x c a w R bl hr
    simp only [List.foldl_cons]
    rcases List.mem_cons.1 hm with rfl | hm
    · refine fold_join (x := joinO x (some E1)) (E1 := E1) (fun c a w R bl hr => ?_) c a w R bl hr
      obtain ⟨E2, h2, h3⟩ := joinO_right (x := x) (y := some E1) rfl
      exact ⟨E2, h2, hr.le h3⟩
    · exact ih hm _ c a w R bl hr

theorem repl_getD (n i : Nat) : (Array.replicate n false).getD i false = false := by
  rw [Array.getD_eq_getD_getElem?, Array.getElem?_replicate]
  split <;> rfl

theorem exec_sound (hcall : ∀ c, COK (lokB own) P C own c (call c)) (hcb : ∀ f avs S r, call (.f f) avs S = some r → callable P f = true) (hGB : Gd C B.R B.bl B.w)
    (hmix : P.follows .mixedOrders = true) {ro rd : Option Nat} (hrd : RdR B.bl ro rd) (m n : Nat) : ∀ (c : Code) {pf pf' : Cfg} {x : PX} {E : Env} {O : Outs} {a : Act} {w : World} {R : Reads} {bl : BL},
      exec P own call n rd nt c pf = some (x, pf') → chk own nt c E = some O → Rel (lokB own) B nt E pf.pf pf.S pf.D a w R bl →
      c.wpIn (fen ro) m P (fun e a' w' => e = x.exit ∧ ∃ E' R' bl', O.has x E' ∧ Rel (lokB own) B nt E' pf'.pf pf'.S pf'.D a' w' R' bl') a w := by
  intro c
  induction c with
  | skip =>
    intro pf pf' x E O a w R bl h hc hrel
    simp only [exec] at h; injection h with h; injection h with h1 h2; subst h1 h2
    simp only [chk] at hc; injection hc with hc; subst hc
    exact wpIn_skip ⟨rfl, E, R, bl, rfl, hrel⟩
  | region id ops draw =>
    intro pf pf' x E O a w R bl h hc hrel
    simp only [chk] at hc
    split at hc
    case isFalse => cases hc
    rename_i hd
    cases draw with
    | true =>
      simp only [exec, if_true, Option.map_eq_some_iff] at h
      obtain ⟨q, hr, h⟩ := h
      injection h with h1 h2; subst h1 h2
      simp only [if_true] at hc
      split at hc
      case isFalse => cases hc
      rename_i hok
      injection hc with hc; subst hc
      refine wpIn_region_any hmix ?_
      have hst : St R w R { w with drawn := w.drawn + 1 } none :=
        ⟨fun _ _ h => h, fun _ _ h => .inl h, hrel.stab, rfl, rfl, rfl, Nat.le_refl _, fun _ _ _ => rfl⟩
      have hrel2 : Rel (lokB own) B nt (E.filter fun p => !ops.toList.any fun o => o.dst == some p.1) (pfL ops (Array.replicate ops.size false) pf.pf q) pf.S pf.D a { w with drawn := w.drawn + 1 } R bl := by
        have heq : pfL ops (Array.replicate ops.size false) pf.pf q = pf.pf := by
          funext t
          unfold pfL
          rw [if_neg]
          rintro ⟨i, hi, _⟩
          rw [repl_getD] at hi; cases hi
        rw [heq]
        have := (hrel.put_plain (hrel.stp.st hst (by simp)) hst.sub (fun _ _ h => h) (hrel.sr.st hst (by simp)) .undef (o := none) (by simp) (fun s g hsg b hb => hrel.kept_st hst hsg hb (by simp))).weaken (E' := E.filter fun p => !ops.toList.any fun o => o.dst == some p.1) fun s g hs => (List.mem_filter.1 hs).1
        exact this
      refine draw_sound hcall hcb hGB hok hr hd ?_ (fun a' w' R' hrel' => ⟨rfl, _, R', bl, rfl, hrel'⟩) ops.size _ a _ R (by simp) ?_ ?_ hrel2
      · intro j oj d g hoj hdj hm
        have h1 := (List.mem_filter.1 hm).2
        simp only [Bool.not_eq_true', List.any_eq_false, beq_iff_eq] at h1
        exact h1 oj (by
          obtain ⟨h2, h3⟩ := Array.getElem?_eq_some_iff.1 hoj
          rw [← h3]; simp) hdj
      · intro k o hk hl
        rw [repl_getD] at hl; cases hl
      · refine Nat.le_trans (List.countP_le_length) (by simp)
    | false =>
      simp only [exec, Bool.false_eq_true, if_false, Option.map_eq_some_iff] at h
      obtain ⟨q, hr, h⟩ := h
      obtain ⟨q1, q2⟩ := q
      injection h with h1 h2; subst h1 h2
      simp only [Bool.false_eq_true, if_false, Option.map_eq_some_iff] at hc
      obtain ⟨E', hE', rfl⟩ := hc
      refine wpIn_region_list ?_
      exact rgn_sound hcall hcb hGB ops.toList hr hE' hd hrel fun a' w' R' bl' hrel' => ⟨rfl, E', R', bl', rfl, hrel'⟩
  | seq x y ihx ihy =>
    intro pf pf' z E O a w R bl h hc hrel
    simp only [chk] at hc
    split at hc
    case h_1 => cases hc
    rename_i O1 hO1
    simp only [exec] at h
    split at h
    · rename_i q hq
      have hx := ihx hq hO1 hrel
      refine wpIn_seq (wpIn_mono hx fun e a' w' hp => ?_)
      obtain ⟨rfl, E1, R1, bl1, hh, hrel1⟩ := hp
      simp only [Outs.has] at hh
      rw [hh] at hc
      simp only at hc
      split at hc
      case h_1 => cases hc
      rename_i O2 hO2
      injection hc with hc; subst hc
      show y.wpIn (fen ro) m P _ a' w'
      refine wpIn_mono (ihy h hO2 hrel1) fun e a2 w2 hp2 => ?_
      obtain ⟨rfl, E2, R2, bl1, hh2, hrel2⟩ := hp2
      refine ⟨rfl, E2, R2, bl1, ?_, hrel2⟩
      cases z with
      | norm => exact hh2
      | ex id => exact List.mem_append_right _ hh2
      | ret => exact List.mem_append_right _ hh2
    · rename_i hne
      have hx := ihx h hO1 hrel
      refine wpIn_seq (wpIn_mono hx fun e a' w' hp => ?_)
      obtain ⟨rfl, E1, R1, bl1, hh, hrel1⟩ := hp
      have hO : O.has z E1 := by
        split at hc
        · injection hc with hc; subst hc; exact hh
        · split at hc
          · cases hc
          · injection hc with hc; subst hc
            cases z with
            | norm => exact absurd h (hne _)
            | ex id => exact List.mem_append_left _ hh
            | ret => exact List.mem_append_left _ hh
      cases z with
      | norm => exact absurd h (hne _)
      | ex id => exact ⟨rfl, E1, R1, bl1, hO, hrel1⟩
      | ret => exact ⟨rfl, E1, R1, bl1, hO, hrel1⟩
  | cond c x y ihx ihy =>
    intro pf pf' z E O a w R bl h hc hrel
    simp only [chk] at hc
    split at hc
    case h_2 => cases hc
    rename_i O1 O2 hO1 hO2
    injection hc with hc; subst hc
    simp only [exec] at h
    split at h
    · rename_i t ht
      have hev := (opv_sound hrel.fr ht).bool_inv
      cases t with
      | true =>
        refine wpIn_cond_true hev (wpIn_mono (ihx (by simpa using h) hO1 hrel) fun e a' w' hp => ?_)
        obtain ⟨rfl, E1, R1, bl1, hh, hrel1⟩ := hp
        cases z with
        | norm =>
          obtain ⟨E2, h2, h3⟩ := joinO_left (y := O2.norm) hh
          exact ⟨rfl, E2, R1, bl1, h2, hrel1.le h3⟩
        | ex id => exact ⟨rfl, E1, R1, bl1, List.mem_append_left _ hh, hrel1⟩
        | ret => exact ⟨rfl, E1, R1, bl1, List.mem_append_left _ hh, hrel1⟩
      | false =>
        refine wpIn_cond_false hev (wpIn_mono (ihy (by simpa using h) hO2 hrel) fun e a' w' hp => ?_)
        obtain ⟨rfl, E1, R1, bl1, hh, hrel1⟩ := hp
        cases z with
        | norm =>
          obtain ⟨E2, h2, h3⟩ := joinO_right (x := O1.norm) hh
          exact ⟨rfl, E2, R1, bl1, h2, hrel1.le h3⟩
        | ex id => exact ⟨rfl, E1, R1, bl1, List.mem_append_right _ hh, hrel1⟩
        | ret => exact ⟨rfl, E1, R1, bl1, List.mem_append_right _ hh, hrel1⟩
    · cases h
  | block id c ih =>
    intro pf pf' z E O a w R bl h hc hrel
    simp only [chk] at hc
    split at hc
    case h_1 => cases hc
    rename_i O1 hO1
    injection hc with hc; subst hc
    simp only [exec] at h
    split at h
    · rename_i i q hq
      refine wpIn_block (wpIn_mono (ih hq hO1 hrel) fun e a' w' hp => ?_)
      obtain ⟨rfl, E1, R1, bl1, hh, hrel1⟩ := hp
      by_cases hid : i = id
      · subst hid
        simp only [if_true] at h
        injection h with h; injection h with h1 h2; subst h1 h2
        obtain ⟨E2, h2, h3⟩ := fold_mem (l := O1.ex.filter fun p => p.1 == i) (id := i) (E1 := E1) (List.mem_filter.2 ⟨hh, by simp⟩) O1.norm _ _ _ _ _ hrel1
        simp only [PX.exit, Exit.inBlock, if_true]
        exact ⟨trivial, E2, R1, bl1, h2, h3⟩
      · simp only [hid, if_false] at h
        injection h with h; injection h with h1 h2; subst h1 h2
        simp only [PX.exit, Exit.inBlock, hid, if_false]
        exact ⟨trivial, E1, R1, bl1, List.mem_filter.2 ⟨hh, by simpa using hid⟩, hrel1⟩
    · rename_i hne
      refine wpIn_block (wpIn_mono (ih h hO1 hrel) fun e a' w' hp => ?_)
      obtain ⟨rfl, E1, R1, bl1, hh, hrel1⟩ := hp
      cases z with
      | norm =>
        obtain ⟨E2, h2, h3⟩ := fold_join (l := O1.ex.filter fun p => p.1 == id) (x := O1.norm) (E1 := E1) (fun pf a w R bl hr => ⟨E1, hh, hr⟩) _ _ _ _ _ hrel1
        exact ⟨rfl, E2, R1, bl1, h2, h3⟩
      | ex i => exact absurd h (hne i _)
      | ret => exact ⟨rfl, E1, R1, bl1, hh, hrel1⟩
  | loop c ih =>
    intro pf pf' z E O a w R bl h hc hrel
    simp only [chk] at hc
    split at hc
    case h_1 => cases hc
    rename_i O1 hO1
    have hle : (leE (fixE (chk own nt c) 4 E) E = true ∧ ∀ N, O1.norm = some N → leE (fixE (chk own nt c) 4 E) N = true) ∧ some (⟨none, O1.ex, O1.rets⟩ : Outs) = some O := by
      cases hN : O1.norm with
      | none =>
        rw [hN] at hc
        simp only [Bool.and_true] at hc
        split at hc
        · rename_i h1; exact ⟨⟨h1, by simp⟩, hc⟩
        · cases hc
      | some N =>
        rw [hN] at hc
        simp only [Bool.and_eq_true] at hc
        split at hc
        · rename_i h1; exact ⟨⟨h1.1, fun N' e => by injection e with e; rw [← e]; exact h1.2⟩, hc⟩
        · cases hc
    obtain ⟨hle, hc⟩ := hle
    injection hc with hc; subst hc
    simp only [exec] at h
    obtain ⟨hle1, hle2⟩ := hle
    generalize hH : fixE (chk own nt c) 4 E = H at hO1 hle1 hle2
    have hrel' := hrel.le hle1
    -- the rounds
    have key : ∀ (k : Nat) (pf : Cfg) (a : Act) (w : World) (R : Reads) (bl : BL), iter (exec P own call n rd nt c) k pf = some (z, pf') → Rel (lokB own) B nt H pf.pf pf.S pf.D a w R bl →
        Code.roundsIn (fen ro) m P c (fun e a' w' => e = z.exit ∧ ∃ E' R' bl', Outs.has ⟨none, O1.ex, O1.rets⟩ z E' ∧ Rel (lokB own) B nt E' pf'.pf pf'.S pf'.D a' w' R' bl') k a w := by
      intro k
      induction k with
      | zero => intro pf a w R bl hit; simp [iter] at hit
      | succ k ihk =>
        intro pf a w R bl hit hr
        rw [roundsIn_succ]
        simp only [iter] at hit
        split at hit
        · rename_i q hq
          refine wpIn_mono (ih hq hO1 hr) fun e a' w' hp => ?_
          obtain ⟨rfl, E1, R1, bl1, hh, hrel1⟩ := hp
          simp only [Outs.has] at hh
          exact ihk q a' w' R1 bl1 hit (hrel1.le (hle2 _ hh))
        · rename_i hne
          refine wpIn_mono (ih hit hO1 hr) fun e a' w' hp => ?_
          obtain ⟨rfl, E1, R1, bl1, hh, hrel1⟩ := hp
          cases z with
          | norm => exact absurd hit (hne _)
          | ex i => exact ⟨rfl, E1, R1, bl1, hh, hrel1⟩
          | ret => exact ⟨rfl, E1, R1, bl1, hh, hrel1⟩
    refine wpIn_loop_rounds n ?_
    exact key n pf a w R bl h hrel'
  | exit id =>
    intro pf pf' z E O a w R bl h hc hrel
    simp only [exec] at h; injection h with h; injection h with h1 h2; subst h1 h2
    simp only [chk] at hc; injection hc with hc; subst hc
    exact wpIn_exit ⟨rfl, E, R, bl, by simp [Outs.has], hrel⟩
  | ret =>
    intro pf pf' z E O a w R bl h hc hrel
    simp only [exec] at h; injection h with h; injection h with h1 h2; subst h1 h2
    simp only [chk] at hc; injection hc with hc; subst hc
    exact wpIn_ret ⟨rfl, E, R, bl, by simp [Outs.has], hrel⟩
  | rangeFunc f ps x y _ _ => intro pf pf' z E O a w R bl h hc hrel; exact range_sound hcall hcb hGB hrd h hc hrel
  | scope c _ => intro pf pf' z E O a w R bl h; simp [exec] at h
  | label l => intro pf pf' z E O a w R bl h; simp [exec] at h
  | goto l => intro pf pf' z E O a w R bl h; simp [exec] at h
  | refuse s => intro pf pf' z E O a w R bl h; simp [exec] at h

end
end Go.Proofs.YtaignnlnmffiaaaGreatDoor.Ex

/- Functions, and a loop's rounds: what the pure interpreter answers is what the machine's call comes to. -/
namespace Go.Proofs.YtaignnlnmffiaaaGreatDoor.Ex
open Go Go.RowKit

def initPF (avs : List AV) : PF := fun t => (avs[t]?).getD .undef

def resAV (pf : PF) : List ResultVar → Option (List AV)
  | [] => some []
  | .tmp t :: r => (resAV pf r).map (pf t :: ·)
  | _ => none

abbrev Exts := FuncId → Option (List AV → Option (List AV))

def closeD : List Nat → Obs → Option Obs
  | [], S => some S
  | i :: D, S => (match S[i]? with | some .dfr => closeD D (S.set i .gone) | _ => none)

def finFn (rs : List ResultVar) (c : Cfg) : Option (List AV × Obs) :=
  match resAV c.pf rs, closeD c.D c.S with
  | some r, some S' => some (r, S')
  | _, _ => none

def runFn (P : Program) (own : FuncId → Bool) (call : CallT) (n : Nat) (fn : Func) (c : Code) (avs : List AV) (S : Obs) : Option (List AV × Obs) :=
  if avs.length ≤ fn.ntmps then
    match exec P own call n none fn.ntmps c ⟨initPF avs, S, []⟩ with
    | some (.norm, c') => finFn fn.results.toList c'
    | some (.ret, c') => finFn fn.results.toList c'
    | _ => none
  else none

def parPF : List Nat → List AV → PF → PF
  | p :: ps, v :: vs, pf => parPF ps vs (upd pf p v)
  | _, _, pf => pf

def PX.jump : PX → Option Code
  | .norm => none
  | .ret => some .ret
  | .ex i => some (.exit i)

/-- The round begins. -/
def busyS (id : Nat) (S : Obs) : Option Obs :=
  match S[id]? with
  | some (.loop r) => (match r.state with | .ready => some (S.set id (.loop { r with state := .busy })) | _ => none)
  | _ => none

/-- It ends. -/
def doneS (id : Nat) (j : Option Code) (S : Obs) : Option (List AV × Obs) :=
  match S[id]? with
  | some (.loop r) => some ([.bool j.isNone], S.set id (.loop { r with state := if j.isNone then .ready else .done, pending := j }))
  | _ => none

def runY (P : Program) (own : FuncId → Bool) (call : CallT) (n : Nat) (id : Nat) (avs : List AV) (S : Obs) : Option (List AV × Obs) :=
  match S[id]? with
  | some (.loop r) =>
    if avs.length = r.params.length then
      match exec P own call n (some id) r.nt r.assign ⟨parPF r.params avs r.pf, S, []⟩ with
      | some (.norm, c1) =>
        (match busyS id c1.S with
        | some S1 =>
          (match exec P own call n (some id) r.nt r.body ⟨c1.pf, S1, c1.D⟩ with
          | some (x, c2) => doneS id x.jump c2.S
          | none => none)
        | none => none)
      | _ => none
    else none
  | _ => none

def fnS (P : Program) (own : FuncId → Bool) (ext : Exts) (L : List FuncId) : Nat → CallT
  | 0 => fun _ _ _ => none
  | n + 1 => fun k avs S =>
    match k with
    | .f f =>
      (match ext f with
      | some g => if noBoxL avs then (match g avs with | some rs => if noBoxL rs then some (rs, S) else none | none => none) else none
      | none =>
        if L.contains f then
          match P.funcs[f]? with
          | some fn => (match fn.body with | some c => runFn P own (fnS P own ext L n) n fn c avs S | none => none)
          | none => none
        else none)
    | .y id => runY P own (fnS P own ext L n) n id avs S

def resOwn (own : Bool) (rs : List ResultVar) (O : Outs) : Bool :=
  !own || match rs with
    | [.tmp s] => (O.norm.toList ++ O.rets).all fun E => E.any fun p => p.1 == s
    | _ => false

def chkFn (P : Program) (own : FuncId → Bool) (f : FuncId) : Bool :=
  callable P f &&
  match P.funcs[f]? with
  | some fn =>
    (match fn.body with
    | some c => (match chk own fn.ntmps c [] with | some O => resOwn (own f) fn.results.toList O | none => false)
    | none => false)
  | none => false

/-- What is known of a function that is not walked here: it touches no object. -/
def FnOK (P : Program) (C : Gee) (own : FuncId → Bool) (f : FuncId) (g : List AV → Option (List AV)) : Prop :=
  ∀ (R : Reads) (w : World) (args : List Value) (avs rs : List AV), C.P R w → C.base ≤ w.heap.size → Stab R w → VRs R [] args avs → g avs = some rs →
    Calls P f args.toArray w fun e w' => ∃ vs R', e = .returned (retv vs) ∧ VRs R' [] vs rs ∧ St R w R' w' none ∧
      (own f = true → ∃ v sz xs, vs = [v] ∧ rs = [.sl sz xs] ∧ OwnV R' w.heap.size w' v sz)

section
variable {LOK : LoopA → Prop} {P : Program} {C : Gee} {own : FuncId → Bool} {ext : Exts} {L : List FuncId} {call : CallT} {R : Reads} {w w' : World} {a : Act} {pf : PF} {bl : BL} {S S' : Obs} {D : List Nat} {B : Base}
  {nt : Nat} {E E' : Env}

theorem fnS_callable (hext : ∀ f g, ext f = some g → callable P f = true ∧ FnOK P C own f g) (hL : L.all (chkFn P own) = true) :
    ∀ n f avs S r, fnS P own ext L n (.f f) avs S = some r → callable P f = true := by
  intro n f avs S r h
  cases n with
  | zero => cases h
  | succ n =>
    simp only [fnS] at h
    split at h
    · rename_i g hg; exact (hext f g hg).1
    · split at h
      · rename_i hl
        have := List.all_eq_true.1 hL f (by simpa using hl)
        unfold chkFn at this
        simp only [Bool.and_eq_true] at this
        exact this.1
      · cases h

theorem resAV_tmps {pf : PF} : ∀ {rs : List ResultVar} {xs : List AV}, resAV pf rs = some xs → ∃ ts : List Nat, rs = ts.map .tmp ∧ xs = ts.map pf
  | [], xs, h => by simp [resAV] at h; subst h; exact ⟨[], rfl, rfl⟩
  | r :: rs, xs, h => by
    cases r with
    | tmp t =>
      simp only [resAV, Option.map_eq_some_iff] at h
      obtain ⟨ys, hy, rfl⟩ := h
      obtain ⟨ts, h1, h2⟩ := resAV_tmps hy
      exact ⟨t :: ts, by simp [h1], by simp [h2]⟩
    | cell a t => cases h

theorem results_tmps (P : Program) (fn : Func) (ts : List Nat) (h : fn.results = (ts.map ResultVar.tmp).toArray) (tmps : Array Value) (w : World) :
    (results fn tmps).run P w = .ok (retv (ts.map fun t => tmps.getD t Go.undef)) w := by
  have key : ∀ (ts : List Nat) (w : World), ((ts.map ResultVar.tmp).mapM (m := Sem) (fun
      | .tmp t => pure (tmps.getD t Go.undef)
      | .cell a t => do loadVar t (← asAddr (tmps.getD a Go.undef)))).run P w = .ok (ts.map fun t => tmps.getD t Go.undef) w := by
    intro ts
    induction ts with
    | nil => intro w; rfl
    | cons t r ih =>
      intro w
      simp only [List.map_cons, List.mapM_cons, Sem.run_bind, Sem.run_pure, Result.andThen_ok, ih]
  unfold results
  rw [h]
  rw [Sem.run_bind, List.mapM_toArray, Sem.run_map]
  erw [key ts w]
  simp only [Result.andThen_ok, Sem.run_pure]
  congr 1
  match ts with
  | [] => rfl
  | [t] => rfl
  | t :: u :: r => simp [retv]

theorem leaves_sound {fn : Func} {Rp : Ending → World → Prop} : ∀ (D : List Nat) {S S' : Obs} {a : Act} {w : World} {bl : BL}, Rel LOK B nt E pf S D a w R bl → closeD D S = some S' →
    (∀ a' w' bl', a'.tmps = a.tmps → Rel LOK B nt E pf S' [] a' w' R bl' → ∃ v, (results fn a.tmps).run P w' = .ok v w' ∧ Rp (.returned v) w') →
    LeavesInM Fence.wide 0 P fn a.tmps Rp a.defers .returning w
  | [], S, S', a, w, bl, hrel, hc, hn => by
    simp only [closeD] at hc
    injection hc with hc; subst hc
    obtain ⟨bs, d1, d2, d3⟩ := hrel.defers
    have hb : bs = [] := List.length_eq_zero_iff.1 d2
    subst hb
    have hd : a.defers = [] := by simpa using d1
    rw [hd]
    exact hn a w bl rfl hrel
  | i :: D, S, S', a, w, bl, hrel, hc, hn => by
    simp only [closeD] at hc
    split at hc
    case h_2 => cases hc
    rename_i hi
    obtain ⟨bs, d1, d2, d3⟩ := hrel.defers
    cases bs with
    | nil => simp at d2
    | cons b bs =>
      obtain ⟨p, hp, hpb⟩ := mains_inv (d3 0 b i rfl rfl)
      subst hpb
      have ho := hrel.sr.obj i p _ hp hi
      have hrel2 := hrel.obj hp (o := .deferred none) (noR_dfr hrel.stab ho.2) (x := .gone) trivial
      have hrel3 : Rel LOK B nt E pf (S.set i .gone) D { a with defers := bs.map fun b => ({ target := .collected b, args := #[] } : Deferred) } (w.putObj p.1 (.deferred none)) R (bl.set i (p.1, [])) := by
        refine ⟨hrel2.size, ⟨bs, rfl, by simpa using d2, fun k b' i' hk hi' => ?_⟩, hrel2.fr, hrel2.sr, hrel2.stp, hrel2.own, hrel2.mine, hrel2.dist⟩
        rw [mains_set hp]
        exact d3 (k + 1) b' i' (by simpa using hk) (by simpa using hi')
      have := leaves_sound D hrel3 hc (fun a' w' bl' ha hr => hn a' w' bl' ha hr)
      rw [d1]
      exact ⟨by simp, .inl ⟨p.1, _, rfl, run_takeDeferred ho.2, this⟩⟩

theorem initPF_sound {args : List Value} {avs : List AV} {M : List Nat} (h : VRs R M args avs) (nt : Nat) : FrR R M (args.toArray ++ Array.replicate (nt - args.toArray.size) Go.undef) (initPF avs) := by
  intro t
  have hl2 := h.1
  unfold initPF
  rw [Array.getD_eq_getD_getElem?]
  by_cases ht : t < args.length
  · have ht2 : t < avs.length := by omega
    rw [Array.getElem?_append_left (by simpa using ht)]
    simp only [List.getElem?_toArray, List.getElem?_eq_getElem ht, List.getElem?_eq_getElem ht2, Option.getD_some]
    exact h.2 t ht ht2
  · rw [List.getElem?_eq_none (l := avs) (by omega)]
    rw [Array.getElem?_append_right (by simpa using ht), Array.getElem?_replicate]
    split <;> exact .undef

theorem fold_sound {M : List Nat} : ∀ (ps : List Nat) {args : List Value} {avs : List AV} {tmps : Array Value} {pf : PF}, ps.length = args.length → VRs R M args avs → (ps.all fun p => p < tmps.size) = true → FrR R M tmps pf →
    FrR R M ((ps.zip args).foldl (fun tmps p => tmps.setIfInBounds p.1 p.2) tmps) (parPF ps avs pf) ∧ ((ps.zip args).foldl (fun tmps p => tmps.setIfInBounds p.1 p.2) tmps).size = tmps.size
  | [], args, avs, tmps, pf, hl, hv, hp, hf => by
    cases avs <;> exact ⟨hf, rfl⟩
  | p :: ps, [], avs, tmps, pf, hl, hv, hp, hf => by cases hl
  | p :: ps, v :: vs, avs, tmps, pf, hl, hv, hp, hf => by
    cases avs with
    | nil => have := hv.1; cases this
    | cons x xs =>
      simp only [List.all_cons, Bool.and_eq_true, decide_eq_true_eq] at hp
      have hv0 : VR R M v x := hv.2 0 (by simp) (by simp)
      have hvr : VRs R M vs xs := ⟨by simpa using hv.1, fun i h1 h2 => by
        have := hv.2 (i + 1) (by simpa using h1) (by simpa using h2)
        simpa using this⟩
      have hf' : FrR R M (tmps.setIfInBounds p v) (upd pf p x) := by
        intro t
        simp only [Array.getD_eq_getD_getElem?, Array.getElem?_setIfInBounds, upd]
        by_cases ht : t = p
        · subst ht; simp [hp.1, hv0]
        · have := hf t
          simp only [Array.getD_eq_getD_getElem?] at this
          simpa [ht, Ne.symm ht] using this
      obtain ⟨h1, h2⟩ := fold_sound ps (args := vs) (avs := xs) (tmps := tmps.setIfInBounds p v) (pf := upd pf p x) (by simpa using hl) hvr (by simpa using hp.2) hf'
      simp only [List.zip_cons_cons, List.foldl_cons, parPF]
      exact ⟨h1, by rw [h2]; simp⟩

theorem runFn_sound (hcall : ∀ c, COK (lokB own) P C own c (call c)) (hcb : ∀ f avs S r, call (.f f) avs S = some r → callable P f = true) (hmix : P.follows .mixedOrders = true)
    {n : Nat} {f : FuncId} {fn : Func} {c : Code} (hfn : P.funcs[f]? = some fn) (hbody : fn.body = some c) (hch : chkFn P own f = true) :
    COK (lokB own) P C own (.f f) (runFn P own call n fn c) := by
  intro R bl w S args avs rs S' hG hs hsr hargs h
  unfold chkFn at hch
  simp only [Bool.and_eq_true, hfn, hbody] at hch
  obtain ⟨_, hch⟩ := hch
  split at hch
  case h_2 => cases hch
  rename_i O hO
  unfold runFn at h
  split at h
  case isFalse => cases h
  rename_i hlen
  have fin : ∀ x c', exec P own call n none fn.ntmps c ⟨initPF avs, S, []⟩ = some (x, c') → (x = .norm ∨ x = .ret) → finFn fn.results.toList c' = some (rs, S') →
      CallC P (mains bl) (.f f) args.toArray w fun e w' => ∃ vs R' bl', e = .returned (retv vs) ∧ VRs R' (mains bl') vs rs ∧ Stp R bl w R' bl' w' ∧ SR (lokB own) R' bl' w' S' ∧
        (ownC own (.f f) = true → ∃ v sz xs, vs = [v] ∧ rs = [.sl sz xs] ∧ OwnV R' 0 w' v sz ∧ ∀ b, blockOf v = some b → (w.heap.size ≤ b ∨ b ∈ fp bl) ∧ b ∉ fp bl') := by
    intro x c' hx hxx hres
    unfold finFn at hres
    split at hres
    case h_2 => cases hres
    rename_i rs' S'' hres1 hclose
    injection hres with hres; injection hres with e1 e2
    have e1 := e1.symm
    have e2 := e2.symm
    subst e1 e2
    show Calls P f args.toArray w _
    refine (callsIn_wide (n := 0)).1 (callsIn_of_wp_marks hfn hbody trivial ?_)
    have hrel : Rel (lokB own) ⟨R, bl, w⟩ fn.ntmps [] (initPF avs) S [] { tmps := args.toArray ++ Array.replicate (fn.ntmps - args.toArray.size) Go.undef, defers := [] } w R bl := by
      refine ⟨?_, ⟨[], rfl, rfl, by simp⟩, initPF_sound hargs _, hsr, Stp.refl hs, by simp, by simp, by simp⟩
      have := hargs.1; simp; omega
    have hex := exec_sound (ro := none) (rd := none) hcall hcb (B := ⟨R, bl, w⟩) hG hmix trivial 0 n c hx hO hrel
    refine wpIn_mono (F := Fence.wide) hex fun e a' w' hp => ?_
    obtain ⟨rfl, E', R', bl', hh, hr⟩ := hp
    obtain ⟨ts, h1, h2⟩ := resAV_tmps hres1
    have hpost := leaves_sound (fn := fn) (P := P) (Rp := fun e w' => ∃ vs R' bl', e = .returned (retv vs) ∧ VRs R' (mains bl') vs rs ∧ Stp R bl w R' bl' w' ∧ SR (lokB own) R' bl' w' S' ∧
        (ownC own (.f f) = true → ∃ v sz xs, vs = [v] ∧ rs = [.sl sz xs] ∧ OwnV R' 0 w' v sz ∧ ∀ b, blockOf v = some b → (w.heap.size ≤ b ∨ b ∈ fp bl) ∧ b ∉ fp bl')) c'.D hr hclose (by
      intro a2 w2 bl2 ha hr2
      refine ⟨_, results_tmps P fn ts (by apply Array.toList_inj.1; simpa using h1) a'.tmps w2, _, R', bl2, rfl, ?_, hr2.stp, hr2.sr, fun ho => ?_⟩
      · rw [h2]
        refine ⟨by simp, fun i hi1 hi2 => ?_⟩
        simp only [List.getElem_map]
        have h8 := hr2.fr (ts[i]'(by simpa using hi1))
        rw [ha] at h8
        exact h8
      · unfold resOwn at hch
        have ho' : own f = true := ho
        simp only [ho', Bool.not_true, Bool.false_or] at hch
        split at hch
        · rename_i s hrs
          rw [hrs] at h1
          cases ts with
          | nil => cases h1
          | cons t r =>
            cases r with
            | cons t2 r2 => simp at h1
            | nil =>
              simp at h1
              subst h1
              have hE : E' ∈ O.norm.toList ++ O.rets := by
                rcases hxx with rfl | rfl
                · simp only [Outs.has] at hh; simp [hh]
                · exact List.mem_append_right _ hh
              have := List.all_eq_true.1 hch E' hE
              simp only [List.any_eq_true, beq_iff_eq] at this
              obtain ⟨⟨s', g⟩, hm, hs'⟩ := this
              simp only at hs'
              subst hs'
              obtain ⟨sz, xs, h4, h5⟩ := hr2.own _ g hm
              have h6 := hr2.mine _ g hm
              rw [ha] at h5 h6
              exact ⟨_, sz, xs, rfl, by rw [h2]; simp [h4], h5, h6⟩
        · cases hch)
    rcases hxx with rfl | rfl <;> exact hpost
  split at h
  · rename_i c' hx; exact fin _ _ hx (.inl rfl) h
  · rename_i c' hx; exact fin _ _ hx (.inr rfl) h
  · cases h

theorem runY_sound (hcall : ∀ c, COK (lokB own) P C own c (call c)) (hcb : ∀ f avs S r, call (.f f) avs S = some r → callable P f = true) (hmix : P.follows .mixedOrders = true)
    {n id : Nat} : COK (lokB own) P C own (.y id) (runY P own call n id) := by
  intro R bl w S args avs rs S' hG hs hsr hargs h
  unfold runY at h
  split at h
  case h_2 => cases h
  rename_i r hr
  split at h
  case isFalse => cases h
  rename_i hlen
  split at h
  case h_2 => cases h
  rename_i c1 hc1
  split at h
  case h_2 => cases h
  rename_i S1 hS1
  split at h
  case h_2 => cases h
  rename_i x c2 hc2
  have hidlt : id < bl.length := by
    have := (List.getElem?_eq_some_iff.1 hr).1
    rw [hsr.len]; exact this
  obtain ⟨p, hp⟩ : ∃ p, bl[id]? = some p := ⟨_, List.getElem?_eq_getElem hidlt⟩
  obtain ⟨g1, g2, rec, g3, g4, g5, g6, g7, g8, g9, g10⟩ := hsr.obj id p _ hp hr
  obtain ⟨k1, k2, k3⟩ := g2
  obtain ⟨O1, hO1⟩ := Option.isSome_iff_exists.1 k2
  obtain ⟨O2, hO2⟩ := Option.isSome_iff_exists.1 k3
  have hsz : args.toArray.size = rec.params.size := by
    have h1 := hargs.1
    have h2 : rec.params.size = r.params.length := by rw [← g6]; simp
    simp; omega
  have hfold : (rec.params.zip args.toArray).foldl (fun tmps (t, a) => tmps.setIfInBounds t a) rec.tmps = (r.params.zip args).foldl (fun tmps p => tmps.setIfInBounds p.1 p.2) rec.tmps := by
    rw [← g6, ← Array.foldl_toList]
    simp
  obtain ⟨f1, f2⟩ := fold_sound r.params (by have := hargs.1; omega) hargs (by rw [g9]; exact k1) g10
  refine ⟨p.1, rec.fn, (r.params.zip args).foldl (fun tmps p => tmps.setIfInBounds p.1 p.2) rec.tmps, r.assign, r.body, mains_at hp, ?_, ?_⟩
  · rw [run_yield g3 hsz, hfold, g7, g8]
  · have hrel : Rel (lokB own) ⟨R, bl, w⟩ r.nt [] (parPF r.params avs r.pf) S [] { tmps := (r.params.zip args).foldl (fun tmps p => tmps.setIfInBounds p.1 p.2) rec.tmps, defers := [] } w R bl :=
      ⟨by rw [f2]; exact g9, ⟨[], rfl, rfl, by simp⟩, f1, hsr, Stp.refl hs, by simp, by simp, by simp⟩
    have hex := exec_sound (ro := some p.1) (rd := some id) hcall hcb (B := ⟨R, bl, w⟩) hG hmix (mains_at hp) 0 n r.assign hc1 hO1 hrel
    refine roundIn_of_wpIn (F := Fence.wide) (n := 0) trivial (wpIn_mono (F := fen (some p.1)) hex fun e a1 w1 hp1 => ?_)
    obtain ⟨rfl, E1, R1, bl1, hh1, hrel1⟩ := hp1
    unfold busyS at hS1
    split at hS1
    case h_2 => cases hS1
    rename_i r1 hr1
    split at hS1
    case h_2 => cases hS1
    rename_i hrdy
    injection hS1 with hS1; subst hS1
    obtain ⟨p1, hp1, hpl⟩ := mains_inv (hrel1.stp.main id p.1 (mains_at hp))
    obtain ⟨m1, m2, rec1, m3, m4, m5, m6, m7, m8, m9, m10⟩ := hrel1.sr.obj id p1 _ hp1 hr1
    rw [← hpl]
    have hbusy := run_beginRound (P := P) m3 (by rw [m4]; exact hrdy)
    refine ⟨_, hbusy, ?_⟩
    have hlt1 : p1.1 < w1.heap.size := (Array.getElem?_eq_some_iff.1 m3).1
    have hrel2 := hrel1.obj hp1 (o := .loop { rec1 with state := .busy }) (noR_loop hrel1.stab m3) (x := .loop { r1 with state := .busy })
      ⟨rfl, m2, _, World.putObj_heap_same hlt1, rfl, m5, m6, m7, m8, m9, m10⟩
    have hrel3 := hrel2.weaken (E' := []) (by simp)
    have hex2 := exec_sound (ro := some p.1) (rd := some id) hcall hcb (B := ⟨R, bl, w⟩) hG hmix (mains_at hp) 0 n r.body hc2 hO2 hrel3
    rw [hpl] at hex2 ⊢
    refine wpIn_mono (F := fen (some p.1)) hex2 fun e a2 w2 hp2 => ?_
    obtain ⟨rfl, E2, R2, bl2, hh2, hrel4⟩ := hp2
    unfold doneS at h
    split at h
    case h_2 => cases h
    rename_i r2 hr2
    injection h with h; injection h with e1 e2; subst e1 e2
    obtain ⟨p2, hp2, hpl2⟩ := mains_inv (hrel4.stp.main id p.1 (mains_at hp))
    obtain ⟨q1, q2, rec2, q3, q4, q5, q6, q7, q8, q9, q10⟩ := hrel4.sr.obj id p2 _ hp2 hr2
    have hlt2 : p2.1 < w2.heap.size := (Array.getElem?_eq_some_iff.1 q3).1
    have hrel5 := hrel4.obj hp2 (o := .loop { rec2 with state := if x.jump.isNone then .ready else .done, pending := x.jump }) (noR_loop hrel4.stab q3)
      (x := .loop { r2 with state := if x.jump.isNone then .ready else .done, pending := x.jump }) ⟨rfl, q2, _, World.putObj_heap_same hlt2, rfl, rfl, q6, q7, q8, q9, q10⟩
    have hfin : ∃ v w', (Instr.endRound p.1 x.jump).run P w2 = .ok v w' ∧ ∃ vs R' bl', Ending.returned v = .returned (retv vs) ∧ VRs R' (mains bl') vs [.bool x.jump.isNone] ∧ Stp R bl w R' bl' w' ∧
        SR (lokB own) R' bl' w' (c2.S.set id (.loop { r2 with state := if x.jump.isNone then .ready else .done, pending := x.jump })) ∧
        (ownC own (.y id) = true → ∃ v sz xs, vs = [v] ∧ [AV.bool x.jump.isNone] = [AV.sl sz xs] ∧ OwnV R' 0 w' v sz ∧ ∀ b, blockOf v = some b → (w.heap.size ≤ b ∨ b ∈ fp bl) ∧ b ∉ fp bl') := by
      have hend := run_endRound (P := P) x.jump q3
      rw [hpl2] at hend hrel5
      refine ⟨_, _, hend, [.bool x.jump.isNone], R2, _, rfl, ⟨rfl, fun i h1 h2 => ?_⟩, hrel5.stp, hrel5.sr, fun ho => by cases ho⟩
      have : i = 0 := by simpa using h1
      subst this
      exact .bool _
    cases x with
    | norm => exact hfin
    | ret => exact hfin
    | ex i => exact hfin

theorem fnS_sound (hmix : P.follows .mixedOrders = true) (hext : ∀ f g, ext f = some g → callable P f = true ∧ FnOK P C own f g)
    (hL : L.all (chkFn P own) = true) : ∀ n c, COK (lokB own) P C own c (fnS P own ext L n c) := by
  intro n
  induction n with
  | zero => intro c R bl w S args avs rs S' _ _ _ _ h; cases h
  | succ n ih =>
    intro c
    cases c with
    | y id => exact runY_sound ih (fnS_callable hext hL n) hmix
    | f f =>
      intro R bl w S args avs rs S' hG hs hsr hargs h
      simp only [fnS] at h
      split at h
      · rename_i g hg
        split at h
        case isFalse => cases h
        rename_i hnb
        split at h
        case h_2 => cases h
        rename_i rs' hrs
        split at h
        case isFalse => cases h
        rename_i hnr
        injection h with h; injection h with e1 e2
        have e1 := e1.symm
        subst e1 e2
        refine Calls.mono ((hext f g hg).2 R w args avs rs hG.p hG.size hs (hargs.noBox hnb) hrs) fun e w' hp => ?_
        obtain ⟨vs, R', rfl, hvs, hst, hO⟩ := hp
        refine ⟨vs, R', bl, rfl, hvs.noBox hnr, hst.stp hs, hsr.st hst (by simp), fun ho => ?_⟩
        obtain ⟨v, sz, xs, h1, h2, h3⟩ := hO ho
        refine ⟨v, sz, xs, h1, h2, h3.mono_base (Nat.zero_le _), fun b hb => ⟨.inl (h3.lt hb).1, fun hf => ?_⟩⟩
        have := (h3.lt hb).1
        have := hsr.lt b hf
        omega
      · split at h
        case isFalse => cases h
        rename_i hl
        split at h
        case h_2 => cases h
        rename_i fn hfn
        split at h
        case h_2 => cases h
        rename_i c hc
        exact runFn_sound ih (fnS_callable hext hL n) hmix hfn hc (List.all_eq_true.1 hL f (by simpa using hl)) R bl w S args avs rs S' hG hs hsr hargs h

end
end Go.Proofs.YtaignnlnmffiaaaGreatDoor.Ex

/- What the library's functions answer, in plain Lean; the table of what is not walked. -/
namespace Go.Proofs.YtaignnlnmffiaaaGreatDoor.Ex
open Go

abbrev Str := List UInt8

def isBl (c : UInt8) : Bool := c == 32 || c == 9

/-- The words of a text. -/
def wordsGo : Str → Str → List Str
  | [], cur => if cur = [] then [] else [cur]
  | c :: r, cur => if isBl c then (if cur = [] then wordsGo r [] else cur :: wordsGo r []) else wordsGo r (cur ++ [c])
def wordsL (s : Str) : List Str := wordsGo s []

def joinL (sep : Str) : List Str → Str
  | [] => []
  | [x] => x
  | x :: r => x ++ sep ++ joinL sep r

def strsOf : List AV → Option (List Str)
  | [] => some []
  | .str s :: r => (strsOf r).map (s :: ·)
  | _ => none

def trimR (s : Str) : Str := (s.reverse.dropWhile isBl).reverse
def trimB (s : Str) : Str := trimR (s.dropWhile isBl)

def idxBl : Str → Option Nat
  | [] => none
  | c :: r => if isBl c then some 0 else (idxBl r).map (· + 1)

def digB (n : Nat) : UInt8 := UInt8.ofNat (48 + n)
def decGo : Nat → Nat → Str → Str
  | 0, _, acc => acc
  | f + 1, n, acc => if n < 10 then digB n :: acc else decGo f (n / 10) (digB (n % 10) :: acc)
/-- A number's digits. -/
def decL (n : Nat) : Str := decGo (n + 1) n []

def isDig (c : UInt8) : Bool := 48 ≤ c && c ≤ 57
def valGo : Nat → Str → Nat
  | a, [] => a
  | a, c :: r => valGo (10 * a + (c.toNat - 48)) r

/-- Does the one begin with the other? -/
def isPre : Str → Str → Bool
  | [], _ => true
  | _ :: _, [] => false
  | a :: x, b :: y => a == b && isPre x y

def hasSub (a : Str) : Str → Bool
  | [] => a == []
  | c :: r => isPre a (c :: r) || hasSub a r

def repGo (a b : Str) : Nat → Str → Str
  | 0, t => t
  | _ + 1, [] => []
  | f + 1, c :: r => if isPre a (c :: r) then b ++ repGo a b f ((c :: r).drop a.length) else c :: repGo a b f r
/-- Each place of one text, put by another one; from the left. -/
def repL (a b t : Str) : Str := repGo a b (t.length + 1) t

def idxOf (c : UInt8) : Str → Option Nat
  | [] => none
  | d :: r => if d == c then some 0 else (idxOf c r).map (· + 1)
def lastOf (c : UInt8) : Str → Option Nat
  | [] => none
  | d :: r => match lastOf c r with | some i => some (i + 1) | none => if d == c then some 0 else none

def insL' (x : Str) : List Str → List Str
  | [] => [x]
  | y :: r => if x = y then y :: r else if Op.bytesLess x y then x :: y :: r else y :: insL' x r
def sortU (l : List Str) : List Str := l.foldl (fun acc x => insL' x acc) []

def zipAdd : List Str → List Str → List Str
  | a, [] => a
  | [], b => b
  | x :: a, y :: b => (x ++ y) :: zipAdd a b

def intOf : Option Nat → Int
  | some n => n
  | none => -1

def lim : Nat := 1099511627776
/-- What the library's searches are told of: texts of at most so many bytes. -/
def big : Nat := 4000000000

def gJoin : List AV → Option (List AV)
  | [.sl 1 ws, .str sep] => (match strsOf ws with | some l => if (joinL sep l).length ≤ lim ∧ l.length ≤ lim + lim then some [.str (joinL sep l)] else none | none => none)
  | _ => none
def gItoa : List AV → Option (List AV)
  | [.int .i64 n] => if 0 ≤ n ∧ n < lim then some [.str (decL n.toNat)] else none
  | _ => none
def gTrim : List AV → Option (List AV)
  | [.str s, .str [32, 9]] => if s.length ≤ big then some [.str (trimB s)] else none
  | _ => none
def gContains : List AV → Option (List AV)
  | [.str t, .str a] => if t.length ≤ big then some [.bool (hasSub a t)] else none
  | _ => none
def gReplace : List AV → Option (List AV)
  | [.str t, .str a, .str b] => if a = [] ∨ big < t.length then none else if (t.length + 1) * (b.length + 1) ≤ lim then some [.str (repL a b t)] else none
  | _ => none
def gTrimLeft : List AV → Option (List AV)
  | [.str s, .str [32, 9]] => some [.str (s.dropWhile isBl)]
  | _ => none
def gIndexAny : List AV → Option (List AV)
  | [.str s, .str [32, 9]] => if s.length ≤ big then some [.int .i64 (intOf (idxBl s))] else none
  | _ => none
def gCount : List AV → Option (List AV)
  | [.str s, .str [37]] => some [.int .i64 (s.countP (· == 37))]
  | _ => none
def gCut : List AV → Option (List AV)
  | [.str s, .str [37]] => if big < s.length then none else
    (match idxOf 37 s with
    | some i => some [.str (s.take i), .str (s.drop (i + 1)), .bool true]
    | none => some [.str s, .str [], .bool false])
  | _ => none
def gCutPrefix : List AV → Option (List AV)
  | [.str s, .str p] => if isPre p s then some [.str (s.drop p.length), .bool true] else some [.str s, .bool false]
  | _ => none
def gCutSuffix : List AV → Option (List AV)
  | [.str s, .str p] => if big < s.length then none else if isPre p.reverse s.reverse then some [.str (s.take (s.length - p.length)), .bool true] else some [.str s, .bool false]
  | _ => none
def gLastByte : List AV → Option (List AV)
  | [.str s, .int .u8 c] => if 0 ≤ c ∧ c < 256 ∧ s.length ≤ big then some [.int .i64 (intOf (lastOf (UInt8.ofNat c.toNat) s))] else none
  | _ => none
def gJoined : List AV → Option (List AV)
  | [.str s, .str t] => if s.length ≤ 100000 ∧ t.length ≤ 100000 then some [.str (joinL [32] (zipAdd (wordsL s) (wordsL t)))] else none
  | _ => none
/-- text.Number: a number of at most nine digits, written as it is told. -/
def numL (s : Str) : Option Nat := if s.length ≤ 9 ∧ s.all isDig = true ∧ s ≠ [] ∧ decL (valGo 0 s) = s then some (valGo 0 s) else none
def gNumber : List AV → Option (List AV)
  | [.str s] => if big < s.length then none else (match numL s with | some n => some [.int .i64 n, .bool true] | none => some [.int .i64 0, .bool false])
  | _ => none

end Go.Proofs.YtaignnlnmffiaaaGreatDoor.Ex

/- Words put together, and cut again. -/
namespace Go.Proofs.YtaignnlnmffiaaaGreatDoor.Ex
open Go

/-- A word: not empty, no blank in it. -/
def okW (w : Str) : Bool := w != [] && w.all fun c => !isBl c

theorem okW_iff {w : Str} : okW w = true ↔ w ≠ [] ∧ ∀ c ∈ w, isBl c = false := by
  simp [okW]

theorem wordsGo_okW : ∀ (s cur : Str), (∀ c ∈ cur, isBl c = false) → ∀ w ∈ wordsGo s cur, okW w = true
  | [], cur, hc, w, h => by
    simp only [wordsGo] at h
    split at h
    · cases h
    · rename_i hne
      simp at h; subst h; exact okW_iff.2 ⟨hne, hc⟩
  | c :: r, cur, hc, w, h => by
    simp only [wordsGo] at h
    split at h
    · split at h
      · exact wordsGo_okW r [] (by simp) w h
      · rename_i hne
        rcases List.mem_cons.1 h with rfl | h
        · exact okW_iff.2 ⟨hne, hc⟩
        · exact wordsGo_okW r [] (by simp) w h
    · rename_i hb
      refine wordsGo_okW r (cur ++ [c]) (fun d hd => ?_) w h
      rcases List.mem_append.1 hd with hd | hd
      · exact hc d hd
      · simp at hd; subst hd; simpa using hb
theorem wordsL_okW (s : Str) : ∀ w ∈ wordsL s, okW w = true := wordsGo_okW s [] (by simp)

theorem wordsGo_app (w : Str) (hw : ∀ c ∈ w, isBl c = false) : ∀ (r cur : Str), wordsGo (w ++ r) cur = wordsGo r (cur ++ w) := by
  induction w with
  | nil => intro r cur; simp
  | cons c w ih =>
    intro r cur
    have h0 := hw c (by simp)
    rw [List.cons_append, wordsGo, h0, if_neg (by simp), ih (fun d hd => hw d (by simp [hd]))]
    simp

theorem wordsGo_blank (r cur : Str) (h : cur ≠ []) : wordsGo (32 :: r) cur = cur :: wordsGo r [] := by
  have : isBl 32 = true := rfl
  simp [wordsGo, this, h]

/-- Words put together are cut into just these. -/
theorem words_join : ∀ l : List Str, (∀ w ∈ l, okW w = true) → wordsL (joinL [32] l) = l
  | [], _ => rfl
  | [x], h => by
    obtain ⟨h1, h2⟩ := okW_iff.1 (h x (by simp))
    have := wordsGo_app x h2 [] []
    simp only [List.append_nil, List.nil_append] at this
    simp [wordsL, joinL, this, wordsGo, h1]
  | x :: y :: r, h => by
    obtain ⟨h1, h2⟩ := okW_iff.1 (h x (by simp))
    have ih := words_join (y :: r) (fun w hw => h w (by simp [hw]))
    simp only [wordsL] at ih
    simp only [wordsL, joinL, List.append_assoc]
    rw [wordsGo_app x h2]
    simp only [List.nil_append, List.singleton_append]
    rw [wordsGo_blank _ _ h1, ih]

def sumLen : List Str → Nat
  | [] => 0
  | x :: r => x.length + sumLen r

theorem sumLen_append : ∀ a b : List Str, sumLen (a ++ b) = sumLen a + sumLen b
  | [], b => by simp [sumLen]
  | x :: a, b => by simp [sumLen, sumLen_append a b]; omega

theorem join_length : ∀ l : List Str, (joinL [32] l).length + 1 = sumLen l + l.length ∨ l = []
  | [] => .inr rfl
  | [x] => .inl (by simp [joinL, sumLen])
  | x :: y :: r => by
    rcases join_length (y :: r) with h | h
    · left
      simp only [joinL, List.length_append, List.length_cons, List.length_nil, sumLen] at h ⊢
      omega
    · cases h
theorem join_length_le (l : List Str) : (joinL [32] l).length ≤ sumLen l + l.length := by
  rcases join_length l with h | h
  · omega
  · subst h; simp [joinL]

theorem wordsGo_sum : ∀ (s cur : Str), sumLen (wordsGo s cur) + (wordsGo s cur).length ≤ cur.length + s.length + 1
  | [], cur => by
    simp only [wordsGo]; split <;> simp [sumLen]
  | c :: r, cur => by
    simp only [wordsGo]
    split
    · split
      · have := wordsGo_sum r []; simp at this ⊢; omega
      · have := wordsGo_sum r []; simp [sumLen] at this ⊢; omega
    · have := wordsGo_sum r (cur ++ [c]); simp at this ⊢; omega
theorem wordsL_sum (s : Str) : sumLen (wordsL s) + (wordsL s).length ≤ s.length + 1 := by
  have := wordsGo_sum s []; simpa [wordsL] using this

theorem join_words_len (s : Str) : (joinL [32] (wordsL s)).length ≤ s.length := by
  have h1 := wordsL_sum s
  rcases join_length (wordsL s) with h | h
  · omega
  · rw [h]; simp [joinL]

/-- Fewer words, and none longer. -/
theorem join_sub_len {l m : List Str} (h : sumLen l + l.length ≤ sumLen m + m.length) (s : Str) (hs : sumLen m + m.length ≤ s.length + 1) : (joinL [32] l).length ≤ s.length := by
  rcases join_length l with h1 | h1
  · omega
  · rw [h1]; simp [joinL]

/-! ### Order -/
theorem less_irrefl : ∀ x : Str, Op.bytesLess x x = false
  | [] => rfl
  | a :: x => by simp [Op.bytesLess, less_irrefl x]

theorem u8_lt_trans {a b c : UInt8} (h1 : a < b) (h2 : b < c) : a < c := UInt8.lt_trans h1 h2

theorem less_trans : ∀ {x y z : Str}, Op.bytesLess x y = true → Op.bytesLess y z = true → Op.bytesLess x z = true
  | [], _, [], h1, h2 => by cases ‹Str› <;> simp [Op.bytesLess] at h1 h2
  | [], _, c :: z, h1, h2 => rfl
  | a :: x, [], z, h1, h2 => by simp [Op.bytesLess] at h1
  | a :: x, b :: y, [], h1, h2 => by simp [Op.bytesLess] at h2
  | a :: x, b :: y, c :: z, h1, h2 => by
    simp only [Op.bytesLess, Bool.or_eq_true, decide_eq_true_eq, Bool.and_eq_true, beq_iff_eq] at h1 h2 ⊢
    rcases h1 with h1 | ⟨rfl, h1⟩
    · rcases h2 with h2 | ⟨rfl, h2⟩
      · exact .inl (UInt8.lt_trans h1 h2)
      · exact .inl h1
    · rcases h2 with h2 | ⟨rfl, h2⟩
      · exact .inl h2
      · exact .inr ⟨rfl, less_trans h1 h2⟩

theorem less_tri : ∀ (x y : Str), x ≠ y → Op.bytesLess x y = false → Op.bytesLess y x = true
  | [], [], h, _ => absurd rfl h
  | [], b :: y, _, h => by simp [Op.bytesLess] at h
  | a :: x, [], _, _ => rfl
  | a :: x, b :: y, h, h1 => by
    simp only [Op.bytesLess, Bool.or_eq_false_iff, decide_eq_false_iff_not, Bool.and_eq_false_imp, beq_iff_eq] at h1
    simp only [Op.bytesLess, Bool.or_eq_true, decide_eq_true_eq, Bool.and_eq_true, beq_iff_eq]
    by_cases e : a = b
    · subst e
      exact .inr ⟨rfl, less_tri x y (fun e => h (by rw [e])) (h1.2 rfl)⟩
    · left
      have h2 := h1.1
      rcases Nat.lt_trichotomy a.toNat b.toNat with h3 | h3 | h3
      · exact absurd (UInt8.lt_iff_toNat_lt.2 h3) h2
      · exact absurd (UInt8.toNat_inj.1 h3) e
      · exact UInt8.lt_iff_toNat_lt.2 h3

theorem less_asymm {x y : Str} (h : Op.bytesLess x y = true) : Op.bytesLess y x = false := by
  cases h1 : Op.bytesLess y x with
  | false => rfl
  | true => have := less_trans h h1; rw [less_irrefl] at this; cases this

def strict : List Str → Prop
  | [] => True
  | [_] => True
  | x :: y :: r => Op.bytesLess x y = true ∧ strict (y :: r)

theorem strict_tail {x : Str} {l : List Str} (h : strict (x :: l)) : strict l := by
  cases l with
  | nil => trivial
  | cons y r => exact h.2

theorem strict_head {x : Str} : ∀ {l : List Str}, strict (x :: l) → ∀ y ∈ l, Op.bytesLess x y = true
  | [], _, y, hy => by cases hy
  | z :: r, h, y, hy => by
    rcases List.mem_cons.1 hy with rfl | hy
    · exact h.1
    · exact less_trans h.1 (strict_head h.2 y hy)

theorem insL_mem (x : Str) : ∀ (l : List Str) (y : Str), y ∈ insL' x l ↔ y = x ∨ y ∈ l
  | [], y => by simp [insL']
  | z :: r, y => by
    simp only [insL']
    split
    · rename_i h; subst h
      simp only [List.mem_cons]
      exact ⟨fun h => h.elim .inl fun h => .inr (.inr h), fun h => h.elim .inl id⟩
    · split
      · simp
      · simp only [List.mem_cons, insL_mem x r y]
        constructor
        · rintro (h | h | h) <;> simp [h]
        · rintro (h | h | h) <;> simp [h]

theorem insL_strict (x : Str) : ∀ (l : List Str), strict l → strict (insL' x l)
  | [], _ => trivial
  | z :: r, h => by
    simp only [insL']
    split
    · exact h
    · rename_i hne
      split
      · rename_i hl; exact ⟨hl, h⟩
      · rename_i hl
        have hzx : Op.bytesLess z x = true := less_tri x z hne (by simpa using hl)
        have ih := insL_strict x r (strict_tail h)
        have hall : ∀ y ∈ insL' x r, Op.bytesLess z y = true := by
          intro y hy
          rcases (insL_mem x r y).1 hy with rfl | hy
          · exact hzx
          · exact strict_head h y hy
        cases hi : insL' x r with
        | nil => trivial
        | cons a b =>
          rw [hi] at ih hall
          exact ⟨hall a (by simp), ih⟩

theorem sortGo_strict : ∀ (l acc : List Str), strict acc → strict (l.foldl (fun acc x => insL' x acc) acc)
  | [], _, h => h
  | x :: r, acc, h => sortGo_strict r _ (insL_strict x acc h)
theorem sortU_strict (l : List Str) : strict (sortU l) := sortGo_strict l [] trivial

theorem sortGo_mem : ∀ (l acc : List Str) (y : Str), y ∈ l.foldl (fun acc x => insL' x acc) acc ↔ y ∈ l ∨ y ∈ acc
  | [], acc, y => by simp
  | x :: r, acc, y => by
    rw [List.foldl_cons, sortGo_mem r _ y, insL_mem]
    simp only [List.mem_cons]
    constructor
    · rintro (h | h | h) <;> simp [h]
    · rintro ((h | h) | h) <;> simp [h]
theorem sortU_mem (l : List Str) (y : Str) : y ∈ sortU l ↔ y ∈ l := by
  have := sortGo_mem l [] y; simpa [sortU] using this

/-- Two strict rows of the same words are one. -/
theorem strict_ext : ∀ {l m : List Str}, strict l → strict m → (∀ y, y ∈ l ↔ y ∈ m) → l = m
  | [], [], _, _, _ => rfl
  | [], y :: m, _, _, h => by have := (h y).2 (by simp); cases this
  | x :: l, [], _, _, h => by have := (h x).1 (by simp); cases this
  | x :: l, y :: m, hl, hm, h => by
    have hxy : x = y := by
      rcases List.mem_cons.1 ((h x).1 (by simp)) with e | e
      · exact e
      · rcases List.mem_cons.1 ((h y).2 (by simp)) with e2 | e2
        · exact e2.symm
        · have h1 := strict_head hm x e
          have h2 := strict_head hl y e2
          rw [less_asymm h1] at h2; cases h2
    subst hxy
    rw [strict_ext (strict_tail hl) (strict_tail hm) fun z => ?_]
    constructor
    · intro hz
      rcases List.mem_cons.1 ((h z).1 (by simp [hz])) with e | e
      · subst e; have := strict_head hl z hz; rw [less_irrefl] at this; cases this
      · exact e
    · intro hz
      rcases List.mem_cons.1 ((h z).2 (by simp [hz])) with e | e
      · subst e; have := strict_head hm z hz; rw [less_irrefl] at this; cases this
      · exact e

theorem sortU_of_strict {l : List Str} (h : strict l) : sortU l = l := strict_ext (sortU_strict l) h (sortU_mem l)
theorem sortU_twice (l : List Str) : sortU (sortU l) = sortU l := sortU_of_strict (sortU_strict l)

theorem insL_sum (x : Str) : ∀ l : List Str, sumLen (insL' x l) + (insL' x l).length ≤ x.length + 1 + sumLen l + l.length
  | [] => by simp [insL', sumLen]
  | z :: r => by
    have := insL_sum x r
    simp only [insL']
    split
    · simp [sumLen]
    · split
      · simp [sumLen]; omega
      · simp [sumLen]; omega
theorem sortGo_sum : ∀ (l acc : List Str), sumLen (l.foldl (fun acc x => insL' x acc) acc) + (l.foldl (fun acc x => insL' x acc) acc).length ≤ sumLen l + l.length + sumLen acc + acc.length
  | [], acc => by simp [sumLen]
  | x :: r, acc => by
    have h1 := sortGo_sum r (insL' x acc)
    have h2 := insL_sum x acc
    simp [sumLen] at h1 ⊢; omega
theorem sortU_sum (l : List Str) : sumLen (sortU l) + (sortU l).length ≤ sumLen l + l.length := by
  have := sortGo_sum l []; simpa [sortU, sumLen] using this

theorem sort_len (s : Str) : (joinL [32] (sortU (wordsL s))).length ≤ s.length := join_sub_len (sortU_sum _) s (wordsL_sum s)

end Go.Proofs.YtaignnlnmffiaaaGreatDoor.Ex

/- Numbers as texts. -/
namespace Go.Proofs.YtaignnlnmffiaaaGreatDoor.Ex
open Go

theorem decGo_fuel : ∀ (f g n : Nat) (acc : Str), n < f → n < g → decGo f n acc = decGo g n acc
  | 0, _, _, _, h, _ => by omega
  | _, 0, _, _, _, h => by omega
  | f + 1, g + 1, n, acc, h1, h2 => by
    simp only [decGo]
    split
    · rfl
    · exact decGo_fuel f g (n / 10) _ (by omega) (by omega)
theorem decGo_acc : ∀ (f n : Nat) (acc : Str), n < f → decGo f n acc = decGo f n [] ++ acc
  | 0, _, _, h => by omega
  | f + 1, n, acc, h => by
    simp only [decGo]
    split
    · rfl
    · rw [decGo_acc f (n / 10) (digB (n % 10) :: acc) (by omega), decGo_acc f (n / 10) [digB (n % 10)] (by omega)]
      simp

theorem decL_small {n : Nat} (h : n < 10) : decL n = [digB n] := by simp [decL, decGo, h]
theorem decL_big {n : Nat} (h : ¬ n < 10) : decL n = decL (n / 10) ++ [digB (n % 10)] := by
  rw [decL, decGo, if_neg h, decGo_acc _ _ _ (by omega), decGo_fuel n (n / 10 + 1) (n / 10) [] (by omega) (by omega), decL]

theorem digB_toNat {n : Nat} (h : n < 10) : (digB n).toNat = 48 + n := by
  simp [digB]; omega
theorem digB_dig {n : Nat} (h : n < 10) : isDig (digB n) = true := by
  have := digB_toNat h
  simp only [isDig, Bool.and_eq_true, decide_eq_true_eq, UInt8.le_iff_toNat_le, this]
  exact ⟨by show 48 ≤ _; omega, by show _ ≤ 57; omega⟩

theorem decL_dig (n : Nat) : (decL n).all isDig = true := by
  induction n using Nat.strongRecOn with
  | ind n ih =>
    by_cases h : n < 10
    · rw [decL_small h]; simp [digB_dig h]
    · rw [decL_big h, List.all_append, ih (n / 10) (by omega)]
      simp [digB_dig (n := n % 10) (by omega)]
theorem decL_ne (n : Nat) : decL n ≠ [] := by
  by_cases h : n < 10
  · rw [decL_small h]; simp
  · rw [decL_big h]; simp

theorem valGo_app : ∀ (x : Str) (a : Nat) (c : UInt8), valGo a (x ++ [c]) = 10 * valGo a x + (c.toNat - 48)
  | [], a, c => rfl
  | d :: x, a, c => by
    rw [List.cons_append]
    show valGo (10 * a + (d.toNat - 48)) (x ++ [c]) = _
    rw [valGo_app x]; rfl
theorem val_dec (n : Nat) : valGo 0 (decL n) = n := by
  induction n using Nat.strongRecOn with
  | ind n ih =>
    by_cases h : n < 10
    · rw [decL_small h]
      show 10 * 0 + ((digB n).toNat - 48) = n
      rw [digB_toNat h]; omega
    · rw [decL_big h, valGo_app, ih (n / 10) (by omega), digB_toNat (by omega)]
      omega

theorem decL_len (k n : Nat) (h : n < 10 ^ (k + 1)) : (decL n).length ≤ k + 1 := by
  induction k generalizing n with
  | zero => rw [decL_small (by simpa using h)]; simp
  | succ k ih =>
    by_cases h1 : n < 10
    · rw [decL_small h1]; simp
    · rw [decL_big h1]
      have := ih (n / 10) (by rw [Nat.pow_succ] at h; omega)
      simp; omega

theorem num_dec {n : Nat} (h : n < 1000000000) : numL (decL n) = some n := by
  have h1 := decL_len 8 n (by simpa using h)
  simp [numL, decL_dig, decL_ne, val_dec, h1]

/-- A numeral: digits, no 0 ahead. -/
def canon (s : Str) : Bool := s != [] && s.all isDig && (s.length == 1 || s.head? != some 48)

theorem decL_head (n : Nat) (h : 10 ≤ n) : (decL n).head? ≠ some 48 ∧ 1 < (decL n).length := by
  induction n using Nat.strongRecOn with
  | ind n ih =>
    rw [decL_big (by omega)]
    by_cases h1 : n / 10 < 10
    · rw [decL_small h1]
      refine ⟨?_, by simp⟩
      simp only [List.singleton_append, List.head?_cons, ne_eq, Option.some.injEq]
      intro e
      have := congrArg UInt8.toNat e
      rw [digB_toNat h1] at this
      simp at this; omega
    · obtain ⟨h2, h3⟩ := ih (n / 10) (by omega) (by omega)
      refine ⟨?_, by simp; omega⟩
      cases hd : decL (n / 10) with
      | nil => exact absurd hd (decL_ne _)
      | cons a b => rw [hd] at h2; simpa using h2

theorem decL_canon (n : Nat) : canon (decL n) = true := by
  simp only [canon, Bool.and_eq_true, bne_iff_ne, ne_eq, Bool.or_eq_true, beq_iff_eq]
  refine ⟨⟨decL_ne n, decL_dig n⟩, ?_⟩
  by_cases h : n < 10
  · left; rw [decL_small h]; rfl
  · right; exact (decL_head n (by omega)).1

theorem isDig_toNat {c : UInt8} (h : isDig c = true) : 48 ≤ c.toNat ∧ c.toNat ≤ 57 := by
  simp only [isDig, Bool.and_eq_true, decide_eq_true_eq, UInt8.le_iff_toNat_le] at h
  exact h
theorem digB_back {c : UInt8} (h : isDig c = true) : digB (c.toNat - 48) = c := by
  obtain ⟨h1, h2⟩ := isDig_toNat h
  apply UInt8.toNat_inj.1
  rw [digB_toNat (by omega)]; omega

theorem snoc_ind {P : Str → Prop} (h0 : P []) (h1 : ∀ x c, P x → P (x ++ [c])) (s : Str) : P s := by
  have : ∀ r : Str, P r.reverse := by
    intro r
    induction r with
    | nil => exact h0
    | cons c r ih => rw [List.reverse_cons]; exact h1 _ _ ih
  have h := this s.reverse
  rwa [List.reverse_reverse] at h

theorem val_pos : ∀ (s : Str) (a : Nat), 0 < a → 0 < valGo a s
  | [], a, h => h
  | c :: r, a, h => val_pos r _ (by omega)

theorem canon_dec (s : Str) : canon s = true → decL (valGo 0 s) = s := by
  induction s using snoc_ind with
  | h0 => intro h; simp [canon] at h
  | h1 x c ih =>
    intro h
    simp only [canon, Bool.and_eq_true, bne_iff_ne, ne_eq, Bool.or_eq_true, beq_iff_eq, List.all_append, List.all_cons, List.all_nil, Bool.and_true] at h
    obtain ⟨⟨_, hx, hc⟩, h2⟩ := h
    obtain ⟨c1, c2⟩ := isDig_toNat hc
    cases x with
    | nil =>
      show decL (10 * 0 + (c.toNat - 48)) = [c]
      rw [decL_small (by omega), Nat.mul_zero, Nat.zero_add, digB_back hc]
    | cons d r =>
      have hd0 : d ≠ 48 := by
        intro e; subst e
        rcases h2 with h2 | h2
        · simp at h2
        · simp at h2
      have hxc : canon (d :: r) = true := by
        simp only [canon, Bool.and_eq_true, bne_iff_ne, ne_eq, Bool.or_eq_true, beq_iff_eq]
        exact ⟨⟨by simp, hx⟩, .inr (by simpa using hd0)⟩
      have hi := ih hxc
      have hpos : 0 < valGo 0 (d :: r) := by
        show 0 < valGo (10 * 0 + (d.toNat - 48)) r
        refine val_pos r _ ?_
        simp only [List.all_cons, Bool.and_eq_true] at hx
        obtain ⟨d1, d2⟩ := isDig_toNat hx.1
        have : d.toNat ≠ 48 := fun e => hd0 (UInt8.toNat_inj.1 (by rw [e]; rfl))
        omega
      rw [valGo_app]
      have hn : ¬ (10 * valGo 0 (d :: r) + (c.toNat - 48) < 10) := by omega
      rw [decL_big hn]
      have e1 : (10 * valGo 0 (d :: r) + (c.toNat - 48)) / 10 = valGo 0 (d :: r) := by omega
      have e2 : (10 * valGo 0 (d :: r) + (c.toNat - 48)) % 10 = c.toNat - 48 := by omega
      rw [e1, e2, hi, digB_back hc]

theorem num_canon (s : Str) : numL s = if s.length ≤ 9 ∧ canon s = true then some (valGo 0 s) else none := by
  unfold numL
  by_cases h : canon s = true
  · have h1 := canon_dec s h
    have h' := h
    simp only [canon, Bool.and_eq_true, bne_iff_ne, ne_eq] at h'
    simp [h, h1, h'.1.1, h'.1.2]
  · have : ¬ (s.length ≤ 9 ∧ s.all isDig = true ∧ s ≠ [] ∧ decL (valGo 0 s) = s) := by
      rintro ⟨_, _, _, h4⟩
      exact h (h4 ▸ decL_canon _)
    rw [if_neg this, if_neg (by simp [h])]

end Go.Proofs.YtaignnlnmffiaaaGreatDoor.Ex

/- A part in the place of another one. -/
namespace Go.Proofs.YtaignnlnmffiaaaGreatDoor.Ex
open Go

theorem isPre_iff : ∀ (a t : Str), isPre a t = true ↔ t.take a.length = a ∧ a.length ≤ t.length
  | [], t => by simp [isPre]
  | x :: a, [] => by simp [isPre]
  | x :: a, y :: t => by
    simp only [isPre, Bool.and_eq_true, beq_iff_eq, isPre_iff a t, List.length_cons, List.take_succ_cons, List.cons.injEq, Nat.add_le_add_iff_right]
    constructor
    · rintro ⟨rfl, h1, h2⟩; exact ⟨⟨rfl, h1⟩, h2⟩
    · rintro ⟨⟨rfl, h1⟩, h2⟩; exact ⟨rfl, h1, h2⟩

theorem repGo_fuel (a b : Str) (ha : a ≠ []) : ∀ (f g : Nat) (t : Str), t.length < f → t.length < g → repGo a b f t = repGo a b g t
  | 0, _, _, h, _ => by omega
  | _, 0, _, _, h => by omega
  | f + 1, g + 1, [], _, _ => rfl
  | f + 1, g + 1, c :: r, h1, h2 => by
    have hp : 0 < a.length := List.length_pos_iff.2 ha
    simp only [repGo]
    split
    · rw [repGo_fuel a b ha f g _ (by simp at *; omega) (by simp at *; omega)]
    · rw [repGo_fuel a b ha f g r (by simp at *; omega) (by simp at *; omega)]

theorem repL_nil (a b : Str) : repL a b [] = [] := rfl
theorem repL_pre (a b : Str) (ha : a ≠ []) (t : Str) (h : isPre a t = true) : repL a b t = b ++ repL a b (t.drop a.length) := by
  have hp : 0 < a.length := List.length_pos_iff.2 ha
  cases t with
  | nil => have := ((isPre_iff a []).1 h).2; simp at this; exact absurd this ha
  | cons c r =>
    unfold repL
    rw [List.length_cons, repGo, if_pos h]
    congr 1
    exact repGo_fuel a b ha _ _ _ (by simp; omega) (by simp)
theorem repL_skip (a b : Str) (_ : a ≠ []) (c : UInt8) (r : Str) (h : isPre a (c :: r) = false) : repL a b (c :: r) = c :: repL a b r := by
  unfold repL
  rw [List.length_cons, repGo, if_neg (by simp [h])]

/-- How often: none over another. -/
def cntGo (a : Str) : Nat → Str → Nat
  | 0, _ => 0
  | _ + 1, [] => 0
  | f + 1, c :: r => if isPre a (c :: r) then 1 + cntGo a f ((c :: r).drop a.length) else cntGo a f r
def cntS (a t : Str) : Nat := cntGo a (t.length + 1) t

theorem cntGo_fuel (a : Str) (ha : a ≠ []) : ∀ (f g : Nat) (t : Str), t.length < f → t.length < g → cntGo a f t = cntGo a g t
  | 0, _, _, h, _ => by omega
  | _, 0, _, _, h => by omega
  | f + 1, g + 1, [], _, _ => rfl
  | f + 1, g + 1, c :: r, h1, h2 => by
    have hp : 0 < a.length := List.length_pos_iff.2 ha
    simp only [cntGo]
    split
    · rw [cntGo_fuel a ha f g _ (by simp at *; omega) (by simp at *; omega)]
    · rw [cntGo_fuel a ha f g r (by simp at *; omega) (by simp at *; omega)]
theorem cntS_pre (a : Str) (ha : a ≠ []) (t : Str) (h : isPre a t = true) : cntS a t = 1 + cntS a (t.drop a.length) := by
  have hp : 0 < a.length := List.length_pos_iff.2 ha
  cases t with
  | nil => have := ((isPre_iff a []).1 h).2; simp at this; exact absurd this ha
  | cons c r =>
    unfold cntS
    rw [List.length_cons, cntGo, if_pos h]
    congr 1
    exact cntGo_fuel a ha _ _ _ (by simp; omega) (by simp)
theorem cntS_skip (a : Str) (_ : a ≠ []) (c : UInt8) (r : Str) (h : isPre a (c :: r) = false) : cntS a (c :: r) = cntS a r := by
  unfold cntS
  rw [List.length_cons, cntGo, if_neg (by simp [h])]
theorem cntS_nil (a : Str) : cntS a [] = 0 := rfl

theorem drop_lt {a t : Str} (ha : a ≠ []) (ht : t ≠ []) : (t.drop a.length).length < t.length := by
  have h1 : 0 < a.length := List.length_pos_iff.2 ha
  have h2 : 0 < t.length := List.length_pos_iff.2 ht
  simp; omega

theorem rep_len (a b : Str) (ha : a ≠ []) : ∀ (n : Nat) (t : Str), t.length ≤ n → (repL a b t).length + cntS a t * a.length = t.length + cntS a t * b.length
  | n, [], _ => by simp [repL_nil, cntS_nil]
  | 0, c :: r, h => by simp at h
  | n + 1, c :: r, h => by
    cases hp : isPre a (c :: r) with
    | true =>
      have hl := ((isPre_iff a (c :: r)).1 hp).2
      have h1 := drop_lt (t := c :: r) ha (by simp)
      have ih := rep_len a b ha n ((c :: r).drop a.length) (by omega)
      rw [repL_pre a b ha _ hp, cntS_pre a ha _ hp]
      simp only [List.length_append, List.length_drop, Nat.add_mul, Nat.one_mul] at ih ⊢
      omega
    | false =>
      have ih := rep_len a b ha n r (by simp at h; omega)
      rw [repL_skip a b ha c r hp, cntS_skip a ha c r hp]
      simp only [List.length_cons]
      omega

theorem cnt_le (a : Str) (ha : a ≠ []) : ∀ (n : Nat) (t : Str), t.length ≤ n → cntS a t ≤ t.length
  | n, [], _ => by simp [cntS_nil]
  | 0, c :: r, h => by simp at h
  | n + 1, c :: r, h => by
    cases hp : isPre a (c :: r) with
    | true =>
      have h1 := drop_lt (t := c :: r) ha (by simp)
      have ih := cnt_le a ha n ((c :: r).drop a.length) (by omega)
      rw [cntS_pre a ha _ hp]
      omega
    | false =>
      have ih := cnt_le a ha n r (by simp at h; omega)
      rw [cntS_skip a ha c r hp]
      simp; omega

theorem hasSub_cnt (a : Str) (ha : a ≠ []) : ∀ t : Str, hasSub a t = false → cntS a t = 0
  | [], _ => rfl
  | c :: r, h => by
    simp only [hasSub, Bool.or_eq_false_iff] at h
    rw [cntS_skip a ha c r h.1, hasSub_cnt a ha r h.2]
theorem cnt_hasSub (a : Str) (ha : a ≠ []) : ∀ t : Str, hasSub a t = true → 0 < cntS a t
  | [], h => by simp [hasSub, ha] at h
  | c :: r, h => by
    cases hp : isPre a (c :: r) with
    | true => rw [cntS_pre a ha _ hp]; omega
    | false =>
      simp only [hasSub, hp, Bool.false_or] at h
      rw [cntS_skip a ha c r hp]
      exact cnt_hasSub a ha r h
theorem rep_none (a b : Str) (ha : a ≠ []) : ∀ t : Str, hasSub a t = false → repL a b t = t
  | [], _ => rfl
  | c :: r, h => by
    simp only [hasSub, Bool.or_eq_false_iff] at h
    rw [repL_skip a b ha c r h.1, rep_none a b ha r h.2]
theorem rep_self (a : Str) (ha : a ≠ []) : ∀ (n : Nat) (t : Str), t.length ≤ n → repL a a t = t
  | n, [], _ => rfl
  | 0, c :: r, h => by simp at h
  | n + 1, c :: r, h => by
    cases hp : isPre a (c :: r) with
    | true =>
      have h1 := drop_lt (t := c :: r) ha (by simp)
      rw [repL_pre a a ha _ hp, rep_self a ha n _ (by omega)]
      have h2 := ((isPre_iff a (c :: r)).1 hp).1
      conv => rhs; rw [← List.take_append_drop a.length (c :: r), h2]
    | false => rw [repL_skip a a ha c r hp, rep_self a ha n r (by simp at h; omega)]
theorem hasSub_long (a : Str) : ∀ t : Str, t.length < a.length → hasSub a t = false
  | [], h => by
    have : a ≠ [] := fun e => by subst e; simp at h
    simp [hasSub, this]
  | c :: r, h => by
    simp only [hasSub, Bool.or_eq_false_iff]
    refine ⟨?_, hasSub_long a r (by simp at h; omega)⟩
    cases hp : isPre a (c :: r) with
    | false => rfl
    | true => have := ((isPre_iff a (c :: r)).1 hp).2; omega
theorem cnt_long (a : Str) (ha : a ≠ []) (t : Str) (h : t.length < a.length) : cntS a t = 0 := hasSub_cnt a ha t (hasSub_long a t h)
theorem hasSub_nil (t : Str) : hasSub [] t = true := by cases t <;> simp [hasSub, isPre]

end Go.Proofs.YtaignnlnmffiaaaGreatDoor.Ex

/- The library's words and mine: the same. -/
namespace Go.Proofs.YtaignnlnmffiaaaGreatDoor.Ex
open Go

theorem bl_contains (c : UInt8) : ([32, 9] : List UInt8).contains c = isBl c := by
  simp [isBl, List.contains, List.elem]
  cases c == 32 <;> cases c == 9 <;> rfl

theorem lib_trimLeft (s : Str) : Lib.trimLeftS s [32, 9] = s.dropWhile isBl := by
  unfold Lib.trimLeftS
  congr 1
  funext c; exact bl_contains c
theorem lib_trimRight (s : Str) : Lib.trimRightS s [32, 9] = trimR s := by
  unfold Lib.trimRightS trimR
  have : (fun c => ([32, 9] : List UInt8).contains c) = isBl := funext bl_contains
  rw [this]

theorem trimR_cons (c : UInt8) (r : Str) : trimR (c :: r) = if trimR r = [] ∧ isBl c = true then [] else c :: trimR r := by
  unfold trimR
  rw [List.reverse_cons, List.dropWhile_append]
  cases hd : r.reverse.dropWhile isBl with
  | nil =>
    cases hc : isBl c <;> simp [hc]
  | cons a b => simp
theorem trim_comm : ∀ s : Str, (trimR s).dropWhile isBl = trimR (s.dropWhile isBl)
  | [] => rfl
  | c :: r => by
    have ih := trim_comm r
    rw [trimR_cons]
    cases hc : isBl c with
    | false => simp [hc, trimR_cons]
    | true =>
      rw [List.dropWhile_cons_of_pos hc]
      by_cases h : trimR r = []
      · rw [h] at ih
        simp [h, ← ih]
      · rw [if_neg (fun e => h e.1), List.dropWhile_cons_of_pos hc, ih]
theorem lib_trim (s : Str) : Lib.trimS s [32, 9] = trimB s := by
  unfold Lib.trimS
  rw [lib_trimRight, lib_trimLeft, trim_comm]; rfl

theorem isPre_eq : ∀ (p s : Str), p.isPrefixOf s = isPre p s
  | [], s => by cases s <;> rfl
  | _ :: _, [] => rfl
  | a :: p, b :: s => by simp [List.isPrefixOf, isPre, isPre_eq p s]
theorem lib_hasPrefix (s p : Str) : Lib.hasPrefix s p = isPre p s := isPre_eq p s
theorem lib_hasSuffix (s p : Str) : Lib.hasSuffix s p = isPre p.reverse s.reverse := isPre_eq _ _

theorem lib_index_hasSub (a : Str) : ∀ s : Str, decide (0 ≤ Lib.index s a) = hasSub a s
  | [] => by cases a <;> rfl
  | c :: r => by
    have ih := lib_index_hasSub a r
    have hge := Lib.index_ge r a
    simp only [Lib.index, hasSub, isPre_eq]
    cases hp : isPre a (c :: r) with
    | true => simp
    | false =>
      simp only [Bool.false_eq_true, if_false, Bool.false_or, ← ih]
      by_cases h : Lib.index r a = -1
      · simp [h]
      · have h1 : ¬ (Lib.index r a == -1) = true := by simpa using h
        rw [if_neg h1, decide_eq_decide]; omega
theorem lib_contains (s a : Str) : Lib.contains s a = hasSub a s := lib_index_hasSub a s

theorem lib_index_one (c : UInt8) : ∀ s : Str, Lib.index s [c] = intOf (idxOf c s)
  | [] => rfl
  | d :: r => by
    have ih := lib_index_one c r
    simp only [Lib.index, idxOf, List.isPrefixOf, Bool.and_true]
    by_cases h : d = c
    · subst h; simp [intOf]
    · have h1 : (c == d) = false := by simpa using fun e => h e.symm
      have h2 : (d == c) = false := by simpa using h
      simp only [h1, h2, Bool.false_eq_true, if_false, ih]
      cases idxOf c r with
      | none => simp [intOf]
      | some i =>
        have h3 : ¬ ((i : Int) == -1) = true := by intro e; have := beq_iff_eq.1 e; omega
        simp only [intOf, h3, if_false, Option.map_some]
        rfl
theorem lib_cut (s : Str) : Lib.cut s [37] = match idxOf 37 s with | some i => (s.take i, s.drop (i + 1), true) | none => (s, [], false) := by
  unfold Lib.cut
  rw [lib_index_one]
  cases idxOf 37 s with
  | none => rfl
  | some i =>
    have : (0 : Int) ≤ (i : Int) := by omega
    simp [intOf, this]

theorem lastOf_snoc (c d : UInt8) : ∀ s : Str, lastOf c (s ++ [d]) = if d == c then some s.length else lastOf c s
  | [] => by simp [lastOf]
  | x :: r => by
    have ih := lastOf_snoc c d r
    simp only [List.cons_append, lastOf, ih]
    by_cases h : (d == c) = true
    · simp [h]
    · simp only [h, if_false, Bool.false_eq_true]
theorem lib_lastIdx (c : UInt8) (s : Str) : ∀ k, k ≤ s.length → Lib.lastIdx ⟨s.toArray⟩ c.toNat k = intOf (lastOf c (s.take k))
  | 0, _ => rfl
  | k + 1, h => by
    have ih := lib_lastIdx c s k (by omega)
    have hlt : k < s.length := by omega
    rw [Lib.lastIdx, List.take_succ_eq_append_getElem hlt, lastOf_snoc, ih]
    have e : (((⟨s.toArray⟩ : ByteArray).data[k]!).toNat : Int) = (s[k].toNat : Int) := by simp [hlt]
    rw [e]
    by_cases hc : s[k] = c
    · rw [if_pos (by rw [hc]), if_pos (by simpa using hc)]
      simp [intOf]; omega
    · have h1 : ¬ ((s[k].toNat : Int) = (c.toNat : Int)) := fun e => hc (UInt8.toNat_inj.1 (by omega))
      rw [if_neg h1, if_neg (by simpa using hc)]
theorem lib_lastIndexByte (c : UInt8) (s : Str) : Lib.lastIndexByte ⟨s.toArray⟩ c.toNat = intOf (lastOf c s) := by
  have h := lib_lastIdx c s s.length (Nat.le_refl _)
  rw [List.take_length] at h
  have e : (⟨s.toArray⟩ : ByteArray).size = s.length := by simp [ByteArray.size]
  unfold Lib.lastIndexByte
  rw [e, h]

theorem rep_index (a b : Str) (ha : a ≠ []) : ∀ (s : Str) (i : Nat), Lib.index s a = i → repL a b s = s.take i ++ b ++ repL a b (s.drop (i + a.length))
  | [], i, h => by
    cases a with
    | nil => exact absurd rfl ha
    | cons x y =>
      have : Lib.index [] (x :: y) = -1 := rfl
      omega
  | c :: r, i, h => by
    simp only [Lib.index, isPre_eq] at h
    cases hp : isPre a (c :: r) with
    | true =>
      simp only [hp, if_true] at h
      have : i = 0 := by omega
      subst this
      rw [repL_pre a b ha _ hp]; simp
    | false =>
      simp only [hp, Bool.false_eq_true, if_false] at h
      by_cases h1 : Lib.index r a = -1
      · simp [h1] at h
      · have h2 : ¬ (Lib.index r a == -1) = true := by simpa using h1
        rw [if_neg h2] at h
        obtain ⟨j, rfl⟩ : ∃ j, i = j + 1 := ⟨i - 1, by have := Lib.index_ge r a; omega⟩
        have ih := rep_index a b ha r j (by omega)
        rw [repL_skip a b ha c r hp, ih]
        rw [show j + 1 + a.length = (j + a.length) + 1 by omega]
        simp
theorem rep_noindex (a b s : Str) (ha : a ≠ []) (h : Lib.index s a = -1) : repL a b s = s := by
  refine rep_none a b ha s ?_
  rw [← lib_index_hasSub, h]; rfl
theorem lib_replaceK (a b : Str) (ha : a ≠ []) : ∀ (f : Nat) (s : Str), s.length < f → Lib.replaceK a b (Lib.countFrom a f s) s = repL a b s
  | 0, s, h => by omega
  | f + 1, s, h => by
    simp only [Lib.countFrom]
    by_cases h1 : Lib.index s a = -1
    · simp [h1, Lib.replaceK, rep_noindex a b s ha h1]
    · have h2 : ¬ (Lib.index s a == -1) = true := by simpa using h1
      rw [if_neg h2]
      have hge := Lib.index_ge s a
      obtain ⟨i, hi⟩ : ∃ i : Nat, Lib.index s a = i := ⟨(Lib.index s a).toNat, by omega⟩
      have hroom := Lib.index_room s a (by omega)
      have hp : 0 < a.length := List.length_pos_iff.2 ha
      rw [Nat.add_comm 1, Lib.replaceK_hit a b _ s i hi, rep_index a b ha s i hi]
      have e : (Lib.index s a).toNat = i := by omega
      rw [e, lib_replaceK a b ha f (s.drop (i + a.length)) (by simp; omega)]
theorem lib_replaceAll (s a b : Str) (ha : a ≠ []) : Lib.replaceAll s a b = repL a b s := by
  unfold Lib.replaceAll Lib.replace
  by_cases h : a = b
  · subst h; simp [rep_self a ha s.length s (Nat.le_refl _)]
  · have h1 : ¬ (a == b) = true := by simpa using h
    rw [if_neg h1]
    have : Lib.replaceNum s a (-1) = Lib.count s a := by simp [Lib.replaceNum]
    rw [this]
    exact lib_replaceK a b ha (s.length + 1) s (by omega)
theorem lib_countFrom_le (a : Str) : ∀ (f : Nat) (s : Str), Lib.countFrom a f s ≤ f
  | 0, _ => by simp [Lib.countFrom]
  | f + 1, s => by
    have := lib_countFrom_le a f (s.drop ((Lib.index s a).toNat + a.length))
    simp only [Lib.countFrom]; split <;> omega

theorem lib_decDigits (n : Nat) : Lib.decDigits n = decL n := by
  induction n using Nat.strongRecOn with
  | ind n ih =>
    rw [Lib.decDigits]
    by_cases h : n < 10
    · rw [dif_pos h, decL_small h]; rfl
    · rw [dif_neg h, decL_big h, ih (n / 10) (by omega)]; rfl
theorem lib_itoa (n : Nat) : Lib.itoa (n : Int) = decL n := by
  have : ¬ (n : Int) < 0 := by omega
  rw [Lib.itoa, if_neg this, Int.toNat_natCast, lib_decDigits]

theorem lib_join (sep : Str) : ∀ l : List Str, Lib.join l sep = joinL sep l
  | [] => rfl
  | [x] => by rw [Lib.join_one]; rfl
  | x :: y :: r => by
    have ih := lib_join sep (y :: r)
    rw [Lib.join_cons] at ih
    rw [Lib.join_cons]
    simp only [joinL, ← ih, Lib.joinTail, List.map_cons, List.flatten_cons]
    simp

theorem lib_indexAny : ∀ s : Str, Lib.indexAny s [32, 9] = intOf (idxBl s)
  | [] => rfl
  | c :: r => by
    have ih := lib_indexAny r
    simp only [Lib.indexAny, bl_contains, idxBl, ih]
    cases hc : isBl c with
    | true => simp [intOf]
    | false =>
      simp only [Bool.false_eq_true, if_false]
      cases idxBl r with
      | none => simp [intOf]
      | some i =>
        have h3 : ¬ ((i : Int) == -1) = true := by intro e; have := beq_iff_eq.1 e; omega
        simp only [intOf, h3, if_false, Option.map_some]
        rfl

/-! ### Numerals -/
theorem parseM_ok (M : Nat) : ∀ (l : Str) (acc u : Nat), Lib.parseUintM M acc l = .ok u → l.all isDig = true ∧ u = valGo acc l
  | [], acc, u, h => by simp [Lib.parseUintM] at h; exact ⟨rfl, h.symm⟩
  | c :: r, acc, u, h => by
    simp only [Lib.parseUintM] at h
    split at h
    · rename_i hd
      split at h
      · cases h
      · split at h
        · cases h
        · obtain ⟨h1, h2⟩ := parseM_ok M r _ u h
          refine ⟨?_, ?_⟩
          · rw [List.all_cons, h1, Bool.and_true]
            simp only [isDig, Bool.and_eq_true, decide_eq_true_eq, UInt8.le_iff_toNat_le]
            exact hd
          · rw [h2, Nat.mul_comm acc 10]; rfl
    · cases h
theorem parseM_dig : ∀ (l : Str) (acc k : Nat), l.all isDig = true → l.length ≤ k → k ≤ 9 → acc < 10 ^ (9 - k) → Lib.parseUintM 4294967295 acc l = .ok (valGo acc l)
  | [], acc, k, _, _, _, _ => rfl
  | c :: r, acc, k, h, hk, h9, ha => by
    rw [List.all_cons, Bool.and_eq_true] at h
    obtain ⟨d1, d2⟩ := isDig_toNat h.1
    obtain ⟨k', rfl⟩ : ∃ k', k = k' + 1 := ⟨k - 1, by simp at hk; omega⟩
    have e : 9 - k' = (9 - (k' + 1)) + 1 := by omega
    have hb : acc * 10 + (c.toNat - 48) < 10 ^ (9 - k') := by rw [e, Nat.pow_succ]; omega
    have hle : 10 ^ (9 - k') ≤ 10 ^ 9 := Nat.pow_le_pow_right (by omega) (by omega)
    have hlt : acc * 10 + (c.toNat - 48) < 1000000000 := Nat.lt_of_lt_of_le hb hle
    simp only [Lib.parseUintM]
    rw [if_pos ⟨d1, d2⟩, if_neg (by omega), if_neg (by omega), parseM_dig r _ k' h.2 (by simpa using hk) (by omega) hb]
    rw [Nat.mul_comm acc 10]; rfl
theorem lib_parse_ok (s : Str) (u : Nat) (h : Lib.parseUintB 32 s = .ok u) : s ≠ [] ∧ s.all isDig = true ∧ u = valGo 0 s := by
  unfold Lib.parseUintB at h
  split at h
  · cases h
  · rename_i hne
    obtain ⟨h1, h2⟩ := parseM_ok _ s 0 u h
    exact ⟨hne, h1, h2⟩
theorem lib_parse_no (s : Str) (h : ∀ u, Lib.parseUintB 32 s ≠ .ok u) : numL s = none := by
  unfold numL
  rw [if_neg]
  rintro ⟨h1, h2, h3, _⟩
  refine h (valGo 0 s) ?_
  unfold Lib.parseUintB
  rw [if_neg h3]
  exact parseM_dig s 0 9 h2 h1 (Nat.le_refl _) (by decide)

/-! ### Sorted, each once -/
theorem lt_less (x y : Str) : decide (x < y) = Op.bytesLess x y := by
  induction x generalizing y with
  | nil => cases y <;> simp [Op.bytesLess]
  | cons a x ih =>
    cases y with
    | nil => simp [Op.bytesLess]
    | cons b y =>
      rw [Op.bytesLess, ← ih]
      simp only [List.cons_lt_cons_iff]
      by_cases h1 : a < b <;> by_cases h2 : a = b <;> by_cases h3 : x < y <;> simp [h1, h2, h3]
theorem le_less (x y : Str) : decide (x ≤ y) = !Op.bytesLess y x := by
  rw [← lt_less]
  by_cases h : y < x
  · have : ¬ x ≤ y := fun e => e h
    simp [h, this]
  · have : x ≤ y := h
    simp [h, this]

theorem sorted_merge (l : List Str) : List.Pairwise (fun a b => Op.bytesLess b a = false) (l.mergeSort fun x y => decide (x ≤ y)) := by
  have h := List.pairwise_mergeSort (le := fun (x y : Str) => decide (x ≤ y)) (fun a b c h1 h2 => by
      simp only [le_less, Bool.not_eq_true'] at h1 h2 ⊢
      cases h3 : Op.bytesLess c a with
      | false => rfl
      | true =>
        by_cases e : a = b
        · subst e; rw [h2] at h3; cases h3
        · have h4 := less_tri b a (fun e' => e e'.symm) h1
          have h5 := less_trans h3 h4
          rw [h2] at h5; cases h5) (fun a b => by
      simp only [le_less]
      cases h3 : Op.bytesLess b a with
      | false => rfl
      | true => simp [less_asymm h3]) l
  refine h.imp fun {a b} h => ?_
  rw [le_less] at h
  simpa using h

theorem compact_spec (zs : List Str) (hs : List.Pairwise (fun a b => Op.bytesLess b a = false) zs) :
    ∀ m, m ≤ zs.length → (∀ y, y ∈ Lib.compactUpTo zs.toArray m ↔ y ∈ zs.take m) ∧ strict (Lib.compactUpTo zs.toArray m) ∧
      (∀ h : 0 < m, ∃ h1 : m - 1 < zs.length, (Lib.compactUpTo zs.toArray m).getLast? = some zs[m - 1]) := by
  intro m
  induction m with
  | zero => intro _; exact ⟨by simp [Lib.compactUpTo], trivial, by omega⟩
  | succ m ih =>
    intro hm
    obtain ⟨h1, h2, h3⟩ := ih (by omega)
    have hlt : m < zs.length := by omega
    have hg : zs.toArray[m]! = zs[m] := by simp [hlt]
    rw [Lib.compactUpTo_succ, hg, List.take_succ_eq_append_getElem hlt]
    have snoc : ∀ (l : List Str) (x : Str), strict l → (∀ y, l.getLast? = some y → Op.bytesLess y x = true) → strict (l ++ [x]) := by
      intro l x hl
      induction l with
      | nil => intro _; trivial
      | cons a r ihl =>
        intro hx
        cases r with
        | nil => exact ⟨hx a rfl, trivial⟩
        | cons b r' => exact ⟨hl.1, ihl hl.2 (fun y hy => hx y (by simpa using hy))⟩
    by_cases hk : Lib.keeps zs.toArray m = true
    · rw [if_pos hk]
      refine ⟨fun y => by rw [List.mem_append, List.mem_append, h1], snoc _ _ h2 (fun y hy => ?_), fun _ => ⟨by omega, by simp⟩⟩
      by_cases h0 : m = 0
      · subst h0; simp [Lib.compactUpTo] at hy
      · obtain ⟨g1, g2⟩ := h3 (by omega)
        rw [g2] at hy
        injection hy with hy; subst hy
        have hne : zs[m] ≠ zs[m - 1] := by
          have := of_decide_eq_true hk
          rcases this with h | h
          · exact absurd h h0
          · have e1 : zs.toArray[m - 1]! = zs[m - 1] := by simp [g1]
            rw [hg, e1] at h; exact h
        have hle := List.pairwise_iff_getElem.1 hs (m - 1) m (by omega) hlt (by omega)
        exact less_tri _ _ hne hle
    · rw [if_neg hk, List.append_nil]
      have h0 : m ≠ 0 := by
        intro e; subst e; simp [Lib.keeps] at hk
      have g1 : m - 1 < zs.length := by omega
      have heq : zs[m] = zs[m - 1] := by
        have e1 : zs.toArray[m - 1]! = zs[m - 1] := by simp [g1]
        simp only [Lib.keeps, decide_eq_true_eq, not_or, Decidable.not_not, hg, e1] at hk
        exact hk.2
      obtain ⟨_, g2⟩ := h3 (by omega)
      refine ⟨fun y => ?_, h2, fun _ => ⟨by omega, ?_⟩⟩
      · rw [h1 y, List.mem_append]
        constructor
        · exact .inl
        · rintro (h | h)
          · exact h
          · simp at h; subst h
            rw [heq]
            exact List.mem_take_iff_getElem.2 ⟨m - 1, by omega, rfl⟩
      · rw [g2]
        simp [heq]
theorem lib_sorted (l : List Str) : Lib.compact (l.mergeSort fun x y => decide (x ≤ y)) = sortU l := by
  obtain ⟨h1, h2, _⟩ := compact_spec _ (sorted_merge l) _ (Nat.le_refl _)
  refine strict_ext h2 (sortU_strict l) fun y => ?_
  rw [sortU_mem]
  show y ∈ Lib.compactUpTo _ _ ↔ _
  rw [h1 y, List.take_length, List.mem_mergeSort]

end Go.Proofs.YtaignnlnmffiaaaGreatDoor.Ex

/- This seat's program under the interpreter: types, the table of what is not walked, words for the steps. -/
namespace Go.Proofs.YtaignnlnmffiaaaGreatDoor.Ex
open Go

def own1 : FuncId → Bool := fun f => [53, 55, 57, 59, 61, 19, 30, 3000000].contains f

@[simp] theorem ty3 : tyOf Tryz.prog 3 = some ⟨1, 8, false, .int .i64, some (.int .i64 0)⟩ := by kernel_rfl
@[simp] theorem ty4 : tyOf Tryz.prog 4 = some ⟨1, 1, false, .bool, some (.bool false)⟩ := by kernel_rfl
@[simp] theorem ty22 : tyOf Tryz.prog 22 = some ⟨1, 24, false, .slice 9, some (.slice none 0 0)⟩ := by kernel_rfl
@[simp] theorem ty9 : tyOf Tryz.prog 9 = some ⟨1, 16, false, .str, some (.string ⟨#[]⟩)⟩ := by kernel_rfl
@[simp] theorem ty5 : tyOf Tryz.prog 5 = some ⟨1, 1, false, .int .u8, some (.int .u8 0)⟩ := by kernel_rfl
@[simp] theorem ty25 : tyOf Tryz.prog 25 = some ⟨1, 8, false, .int .i64, some (.int .i64 0)⟩ := by kernel_rfl
@[simp] theorem ty50 : tyOf Tryz.prog 50 = some ⟨1, 8, false, .other, some .nilFunc⟩ := by kernel_rfl
@[simp] theorem ty32 : tyOf Tryz.prog 32 = some ⟨1, 8, false, .other, some .nilFunc⟩ := by kernel_rfl
@[simp] theorem ty65 : tyOf Tryz.prog 65 = some ⟨1, 8, false, .other, some .nilFunc⟩ := by kernel_rfl

attribute [simp] rgn rgnD wantA evOp evOpD evPlain evBin binAV boolAV opv constAV calleeAV opvs updO isApp takes takes.isAppOf takes.isRet mvAV evBuiltin nilAV evPlace loadD loadAV partAV
  evObj obCells gives gives.makes bnds evBS evApp flatAV AV.cells exitIds finFn closeD resAV packAV jumpAV leaveS enterS enterD PX.jump parPF noBox noBoxL givesOp zOk zerosOk own1 Value.cells

section
variable {P : Program} {own : FuncId → Bool} {call : CallT} {n : Nat} {rd : Option Nat} {nt : Nat} {c : Cfg}
@[simp] theorem exec_skip : exec P own call n rd nt .skip c = some (.norm, c) := _root_.id rfl
@[simp] theorem exec_region {id : Nat} {ops : Array Oper} : exec P own call n rd nt (.region id ops false) c = (rgn P own call ops ops.toList c.pf c.S).map fun p => (.norm, ⟨p.1, p.2, c.D⟩) := _root_.id rfl
@[simp] theorem exec_draw {id : Nat} {ops : Array Oper} : exec P own call n rd nt (.region id ops true) c = (rgnD P call c.S ops ops.toList c.pf).map fun pf' => (.norm, ⟨pf', c.S, c.D⟩) := _root_.id rfl
@[simp] theorem exec_seq {a b : Code} : exec P own call n rd nt (.seq a b) c = (match exec P own call n rd nt a c with
    | some (.norm, c') => exec P own call n rd nt b c'
    | r => r) := _root_.id rfl
@[simp] theorem exec_cond {k : Operand} {x y : Code} : exec P own call n rd nt (.cond k x y) c = (match opv c.pf k with
    | some (.bool t) => if t then exec P own call n rd nt x c else exec P own call n rd nt y c
    | _ => none) := _root_.id rfl
@[simp] theorem exec_block {id : Nat} {k : Code} : exec P own call n rd nt (.block id k) c = (match exec P own call n rd nt k c with
    | some (.ex i, c') => if i = id then some (.norm, c') else some (.ex i, c')
    | r => r) := _root_.id rfl
@[simp] theorem exec_loop {k : Code} : exec P own call n rd nt (.loop k) c = iter (exec P own call n rd nt k) n c := _root_.id rfl
@[simp] theorem exec_exit {id : Nat} : exec P own call n rd nt (.exit id) c = some (.ex id, c) := _root_.id rfl
@[simp] theorem exec_ret : exec P own call n rd nt .ret c = some (.ret, c) := _root_.id rfl
@[simp] theorem exec_range {g : Operand} {ps : Array Tmp} {asg body : Code} : exec P own call n rd nt (.rangeFunc g ps asg body) c = (match opv c.pf g with
    | some (.fn f fs cs) =>
      (match enterS rd c.S ⟨.ready, none, c.pf, nt, ps.toList, asg, body⟩ with
      | some S1 =>
        (match call (.f f) (fs ++ [.yld (S1.length - 1)] ++ cs) S1 with
        | some (_, S2) => leaveS (exitIds body) c.pf (enterD rd c.S c.D) (S1.length - 1) S2
        | none => none)
      | none => none)
    | _ => none) := _root_.id rfl
end

@[simp] theorem initPF_cons (v : AV) (vs : List AV) (t : Nat) : initPF (v :: vs) t = if t = 0 then v else initPF vs (t - 1) := by
  cases t <;> simp [initPF]
@[simp] theorem initPF_nil (t : Nat) : initPF [] t = .undef := rfl
@[simp] theorem range2 : List.range 2 = [0, 1] := _root_.id rfl
@[simp] theorem range3 : List.range 3 = [0, 1, 2] := _root_.id rfl
@[simp] theorem range4 : List.range 4 = [0, 1, 2, 3] := _root_.id rfl
@[simp] theorem range5 : List.range 5 = [0, 1, 2, 3, 4] := _root_.id rfl
@[simp] theorem upd_at (pf : PF) (d : Nat) (v : AV) (t : Nat) : upd pf d v t = if t = d then v else pf t := rfl

/-- A call, by what is known of its body. -/
theorem callP_fn {P : Program} {own : FuncId → Bool} {ext : Exts} {L : List FuncId} {n : Nat} {f : FuncId} {fn : Func} {c : Code} {avs rs : List AV} {S : Obs} (he : ext f = none) (hL : L.contains f = true)
    (hf : P.funcs[f]? = some fn) (hb : fn.body = some c) (h1 : noBoxL avs = true) (h2 : noBoxL rs = true) (h : runFn P own (fnS P own ext L n) n fn c avs [] = some (rs, S)) :
    callP (fnS P own ext L (n + 1)) (.f f) avs = some (packAV rs) := by
  have hL' : f ∈ L := by simpa using hL
  simp [callP, fnS, h1, he, hL', hf, hb, h, h2]

theorem fnS_fn {P : Program} {own : FuncId → Bool} {ext : Exts} {L : List FuncId} {n : Nat} {f : FuncId} {fn : Func} {c : Code} {avs : List AV} {S : Obs} (he : ext f = none) (hL : L.contains f = true)
    (hf : P.funcs[f]? = some fn) (hb : fn.body = some c) : fnS P own ext L (n + 1) (.f f) avs S = runFn P own (fnS P own ext L n) n fn c avs S := by
  have hL' : f ∈ L := by simpa using hL
  simp [fnS, he, hL', hf, hb]

theorem callP_ext {P : Program} {own : FuncId → Bool} {ext : Exts} {L : List FuncId} {n : Nat} {f : FuncId} {g : List AV → Option (List AV)} {avs rs : List AV} (he : ext f = some g)
    (h1 : noBoxL avs = true) (h2 : noBoxL rs = true) (h : g avs = some rs) : callP (fnS P own ext L (n + 1)) (.f f) avs = some (packAV rs) := by
  simp [callP, fnS, h1, he, h, h2]

theorem wrap64 {x : Int} (h1 : -9223372036854775808 ≤ x) (h2 : x < 9223372036854775808) : IntKind.wrap .i64 x = x := by
  simp [IntKind.wrap, IntKind.bits, IntKind.signed]
  omega

@[simp] theorem callP_box {call : CallT} {f : FuncId} {avs : List AV} (h : noBoxL avs = false) : callP call (.f f) avs = none := by simp [callP, h]
@[simp] theorem callP_y {call : CallT} {id : Nat} {avs : List AV} : callP call (.y id) avs = none := rfl

/-- Objects behind the ones that were there. -/
@[simp] theorem at_end (S l : Obs) (j : Nat) : (S ++ l)[S.length + j]? = l[j]? := by
  rw [List.getElem?_append_right (by omega)]; congr 1; omega
@[simp] theorem at_end0 (S l : Obs) : (S ++ l)[S.length]? = l[0]? := at_end S l 0
@[simp] theorem set_end (S l : Obs) (j : Nat) (x : Ob) : (S ++ l).set (S.length + j) x = S ++ l.set j x := by
  rw [List.set_append, if_neg (by omega)]; congr 2; omega
@[simp] theorem set_end0 (S l : Obs) (x : Ob) : (S ++ l).set S.length x = S ++ l.set 0 x := set_end S l 0 x

@[simp] theorem noBoxL_strs (l : List Str) : noBoxL (l.map .str) = true := noBoxL_map _ (fun _ => rfl) l

def spanL (ws : List Str) (a b : Int) : Str :=
  let to := if (ws.length : Int) < b then (ws.length : Int) else b
  if a < 1 ∨ to < a then [] else joinL [32] ((ws.drop (a - 1).toNat).take (to.toNat - (a - 1).toNat))

end Go.Proofs.YtaignnlnmffiaaaGreatDoor.Ex

/- Functions without loops. -/
namespace Go.Proofs.YtaignnlnmffiaaaGreatDoor.Ex
open Go

/-- What a call is known to answer. -/
abbrev CP (call : CallT) (f : FuncId) (avs : List AV) (v : AV) : Prop := callP call (.f f) avs = some v

section
variable {call : CallT} {n : Nat} {S : Obs}

set_option maxHeartbeats 1000000 in
theorem span_spec' {t : Str} (h19 : CP call 19 [.str t] (.sl 1 ((wordsL t).map .str))) (h21 : ∀ i j, CP call 21 [.sl 1 ((((wordsL t).drop i).take j).map .str)] (.str (joinL [32] (((wordsL t).drop i).take j))))
    (t' : Str) (a b : Int) (ha : a < 1000000000000) : runFn Tryz.prog own1 call n Tryz.f38 (Tryz.f38.body.getD .skip) [.str t, .int .i64 a, .int .i64 b] S = some ([.str (spanL (wordsL t) a b)], S) := by
  simp only [CP] at h19 h21
  simp only [spanL]
  have hsz : IntKind.wrap .i64 (a - 1) = a - 1 ∨ a < 1 := by
    by_cases h : a < 1
    · exact .inr h
    · exact .inl (wrap64 (by omega) (by omega))
  have h21' : ∀ i j, callP call (.f 21) [.sl 1 ((((wordsL t).map .str).drop i).take j)] = some (.str (joinL [32] (((wordsL t).drop i).take j))) := fun i j => by
    have := h21 i j
    simpa using this
  by_cases h1 : a < 1
  · simp [runFn, Tryz.f38, h19, h1]
  · have hw : IntKind.wrap .i64 (a - 1) = a - 1 := by rcases hsz with h | h; exact h; exact absurd h h1
    have hn : (a - 1).toNat = a.toNat - 1 := by omega
    by_cases h2 : ((wordsL t).length : Int) < b
    · by_cases h3 : ((wordsL t).length : Int) < a
      · simp [runFn, Tryz.f38, h19, h1, h2, h3]
      · have h5 : 1 ≤ a ∧ a - 1 ≤ ((wordsL t).length : Int) := by omega
        simp [runFn, Tryz.f38, h19, h1, h2, h3, hw, h21', h5, hn]
    · by_cases h3 : b < a
      · simp [runFn, Tryz.f38, h19, h1, h2, h3]
      · have h5 : 1 ≤ a ∧ a - 1 ≤ b := by omega
        have h6 : 0 ≤ b ∧ b ≤ ((wordsL t).length : Int) := by omega
        have h7 : max b 0 = b := by omega
        simp [runFn, Tryz.f38, h19, h1, h2, h3, hw, h21', h5, h6, h7, hn]

end
end Go.Proofs.YtaignnlnmffiaaaGreatDoor.Ex

/- The words of a text: the closure that tells them. -/
namespace Go.Proofs.YtaignnlnmffiaaaGreatDoor.Ex
open Go

def nbl (c : UInt8) : Bool := !isBl c

theorem wordsGo_cur : ∀ (s cur : Str), cur ≠ [] → wordsGo s cur = (cur ++ s.takeWhile nbl) :: wordsL (s.dropWhile nbl)
  | [], cur, h => by simp [wordsGo, h, wordsL]
  | c :: r, cur, h => by
    by_cases hc : isBl c = true
    · simp [wordsGo, hc, h, nbl, wordsL]
    · have := wordsGo_cur r (cur ++ [c]) (by simp)
      simp [wordsGo, hc, nbl] at this ⊢
      simpa [nbl] using this

theorem wordsL_blank (c : UInt8) (r : Str) (h : isBl c = true) : wordsL (c :: r) = wordsL r := by simp [wordsL, wordsGo, h]
theorem wordsL_drop : ∀ s : Str, wordsL s = wordsL (s.dropWhile isBl)
  | [] => rfl
  | c :: r => by
    by_cases hc : isBl c = true
    · rw [wordsL_blank c r hc, wordsL_drop r]; simp [hc]
    · simp [hc]
theorem wordsL_word (c : UInt8) (r : Str) (h : isBl c = false) : wordsL (c :: r) = ((c :: r).takeWhile nbl) :: wordsL ((c :: r).dropWhile nbl) := by
  have := wordsGo_cur r [c] (by simp)
  simp [wordsL, wordsGo, h, nbl] at this ⊢
  simpa [wordsL] using this

theorem idxBl_some : ∀ (s : Str) (n : Nat), idxBl s = some n → s.take n = s.takeWhile nbl ∧ s.drop n = s.dropWhile nbl ∧ n ≤ s.length
  | [], n, h => by cases h
  | c :: r, n, h => by
    simp only [idxBl] at h
    by_cases hc : isBl c = true
    · simp [hc] at h; subst h; simp [nbl, hc]
    · simp only [hc, Bool.false_eq_true, if_false, Option.map_eq_some_iff] at h
      obtain ⟨m, hm, rfl⟩ := h
      obtain ⟨h1, h2, h3⟩ := idxBl_some r m hm
      simp [nbl, hc, h1, h2, h3]
theorem idxBl_none : ∀ (s : Str), idxBl s = none → s.takeWhile nbl = s ∧ s.dropWhile nbl = []
  | [], h => by simp
  | c :: r, h => by
    simp only [idxBl] at h
    by_cases hc : isBl c = true
    · simp [hc] at h
    · simp only [hc, Bool.false_eq_true, if_false, Option.map_eq_none_iff] at h
      obtain ⟨h1, h2⟩ := idxBl_none r h
      simp [nbl, hc, h1, h2]

/-- A part of some code. -/
def cpath : List Nat → Code → Code
  | 0 :: l, .seq a _ => cpath l a
  | _ :: l, .seq _ b => cpath l b
  | 0 :: l, .cond _ a _ => cpath l a
  | _ :: l, .cond _ _ b => cpath l b
  | _ :: l, .block _ c => cpath l c
  | _ :: l, .loop c => cpath l c
  | 0 :: l, .rangeFunc _ _ a _ => cpath l a
  | _ :: l, .rangeFunc _ _ _ b => cpath l b
  | _, c => c

section
variable {call : CallT} {n : Nat}

set_option maxHeartbeats 1000000 in
theorem words_step (h63 : ∀ s : Str, CP call 63 [.str s, .str [32, 9]] (.str (s.dropWhile isBl))) (h64 : ∀ s : Str, s.length ≤ big → CP call 64 [.str s, .str [32, 9]] (.int .i64 (intOf (idxBl s))))
    {St : List Str → Str → Obs} {b id : Nat} (hb : ∀ acc s, (St acc s)[b]? = some (.cells [.str s])) (hset : ∀ acc s s', (St acc s).set b (.cells [.str s']) = St acc s')
    (hy : ∀ acc s w, acc.length ≤ 1000000000 → call (.y id) [.str w] (St acc s) = some ([.bool true], St (acc ++ [w]) s)) (D : List Nat) (s : Str) (acc : List Str) (pf : PF) (hacc : acc.length ≤ 1000000000) (hsb : s.length ≤ big) (h0 : pf 0 = .yld id) (h1 : pf 1 = .box b 0) :
    ∃ pf', exec Tryz.prog own1 call n none 25 (cpath [0, 0] (Tryz.f62.body.getD .skip)) ⟨pf, St acc s, D⟩ =
      (if s.dropWhile isBl = [] then some (.ret, ⟨pf', St acc [], D⟩) else some (.norm, ⟨pf', St (acc ++ [(s.dropWhile isBl).takeWhile nbl]) ((s.dropWhile isBl).dropWhile nbl), D⟩)) ∧ pf' 0 = .yld id ∧ pf' 1 = .box b 0 := by
  simp only [CP] at h63 h64
  have hy' := fun s w => hy acc s w hacc
  have hyP : ∀ w, callP call (.y id) [.str w] = none := fun w => rfl
  have hlen : (s.dropWhile isBl).length ≤ big := Nat.le_trans (List.dropWhile_sublist isBl).length_le hsb
  replace h64 := h64 _ hlen
  cases hs : s.dropWhile isBl with
  | nil =>
    rw [hs] at h64
    simp [Tryz.f62, cpath, h0, h1, hb, h63, h64, hs, hset, intOf, idxBl]
  | cons c r =>
    rw [hs] at h64
    cases hi : idxBl (c :: r) with
    | none =>
      obtain ⟨e1, e2⟩ := idxBl_none _ hi
      have hpos : ¬ ((r.length : Int) + 1 < 0) := by omega
      have hp2 : (0 : Int) ≤ (r.length : Int) + 1 := by omega
      rw [e1, e2]
      simp [hp2, Tryz.f62, cpath, h0, h1, hb, h63, h64, hs, hset, intOf, hi, hyP, hy', hpos]
    | some m =>
      obtain ⟨e1, e2, e3⟩ := idxBl_some _ m hi
      have hpos : ¬ ((m : Int) < 0) := by omega
      have e3' : (m : Int) ≤ (r.length : Int) + 1 := by simp at e3; omega
      have e4 : List.take (r.length + 1 - m) (List.drop m (c :: r)) = List.drop m (c :: r) := List.take_of_length_le (by simp)
      rw [← e1, ← e2]
      simp [e3', e4, Tryz.f62, cpath, h0, h1, hb, h63, h64, hs, hset, intOf, hi, hyP, hy', hpos]

theorem words_iter (h63 : ∀ s : Str, CP call 63 [.str s, .str [32, 9]] (.str (s.dropWhile isBl))) (h64 : ∀ s : Str, s.length ≤ big → CP call 64 [.str s, .str [32, 9]] (.int .i64 (intOf (idxBl s))))
    {St : List Str → Str → Obs} {b id : Nat} (hb : ∀ acc s, (St acc s)[b]? = some (.cells [.str s])) (hset : ∀ acc s s', (St acc s).set b (.cells [.str s']) = St acc s')
    (hy : ∀ acc s w, acc.length ≤ 1000000000 → call (.y id) [.str w] (St acc s) = some ([.bool true], St (acc ++ [w]) s)) (D : List Nat) :
    ∀ (k : Nat) (s : Str) (acc : List Str) (pf : PF), acc.length + s.length ≤ 1000000000 → s.length < k → pf 0 = .yld id → pf 1 = .box b 0 →
      ∃ pf', iter (exec Tryz.prog own1 call n none 25 (cpath [0, 0] (Tryz.f62.body.getD .skip))) k ⟨pf, St acc s, D⟩ = some (.ret, ⟨pf', St (acc ++ wordsL s) [], D⟩) := by
  intro k
  induction k with
  | zero => intro s acc pf _ h; omega
  | succ k ih =>
    intro s acc pf hacc hk h0 h1
    obtain ⟨pf', he, g0, g1⟩ := words_step (n := n) h63 h64 hb hset hy D s acc pf (by omega) (by unfold big; omega) h0 h1
    simp only [iter, he]
    cases hs : s.dropWhile isBl with
    | nil =>
      have hw : wordsL s = [] := by rw [wordsL_drop, hs]; rfl
      exact ⟨pf', by simp [hw]⟩
    | cons c r =>
      have hc : isBl c = false := by
        have := List.head?_dropWhile_not isBl s
        rw [hs] at this
        simpa using this
      have hlen : (c :: r).length ≤ s.length := by rw [← hs]; exact (List.dropWhile_sublist isBl).length_le
      have hw : wordsL s = ((c :: r).takeWhile nbl) :: wordsL ((c :: r).dropWhile nbl) := by rw [wordsL_drop, hs, wordsL_word c r hc]
      have hlen3 : ((c :: r).dropWhile nbl).length ≤ r.length := by
        have e : (c :: r).dropWhile nbl = r.dropWhile nbl := by simp [nbl, hc]
        rw [e]; exact (List.dropWhile_sublist nbl).length_le
      have hlen2 : ((c :: r).dropWhile nbl).length < k := by
        have : ((c :: r).dropWhile nbl).length ≤ r.length := by
          have e : (c :: r).dropWhile nbl = r.dropWhile nbl := by simp [nbl, hc]
          rw [e]; exact (List.dropWhile_sublist nbl).length_le
        simp at hlen; omega
      obtain ⟨pf2, h2⟩ := ih ((c :: r).dropWhile nbl) (acc ++ [(c :: r).takeWhile nbl]) pf' (by simp at hlen ⊢; omega) hlen2 g0 g1
      refine ⟨pf2, ?_⟩
      rw [if_neg (by simp)]
      simp only [h2, hw, List.append_assoc, List.singleton_append]

end
end Go.Proofs.YtaignnlnmffiaaaGreatDoor.Ex

/- The words of a text, gathered. -/
namespace Go.Proofs.YtaignnlnmffiaaaGreatDoor.Ex
open Go

/-- What two functions are taken for: walked, or not. -/
class XX where
  x : Option (List AV → Option (List AV))
  y : Option (List AV → Option (List AV))

/-- What is not walked. -/
def ext0 [XX] (f : FuncId) : Option (List AV → Option (List AV)) :=
  match f with
  | 26 => XX.x
  | 47 => XX.y
  | 22 => some gNumber
  | 32 => some gJoin
  | 34 => some gItoa
  | 35 => some gTrim
  | 40 => some gContains
  | 50 => some gReplace
  | 63 => some gTrimLeft
  | 64 => some gIndexAny
  | 128 => some gCount
  | 129 => some gCut
  | 131 => some gCutPrefix
  | 132 => some gCutSuffix
  | 158 => some gLastByte
  | _ => none

/-- What is walked. -/
def fns : List FuncId := [3, 4, 5, 6, 7, 8, 9, 10, 11, 12, 13, 14, 15, 16, 17, 18, 19, 20, 21, 23, 24, 25, 26, 27, 28, 29, 30, 31, 38, 39, 41, 42, 43, 44, 45, 46, 48, 49, 51, 52, 53, 54, 55, 56, 57, 58, 59, 60, 61, 62,
  80, 81, 83, 84, 85, 86, 87, 89, 90, 91, 92, 93, 94, 95, 96, 123, 125, 126, 127, 130, 133, 134, 135, 136, 137, 166]

noncomputable abbrev F [XX] (n : Nat) : CallT := fnS Tryz.prog own1 ext0 fns n

theorem F_fn [XX] {n : Nat} {f : FuncId} {fn : Func} {avs : List AV} {S : Obs} (he : ext0 f = none) (hL : fns.contains f = true) (hf : Tryz.prog.funcs[f]? = some fn) (hb : fn.body.isSome = true) :
    F (n + 1) (.f f) avs S = runFn Tryz.prog own1 (F n) n fn (fn.body.getD .skip) avs S := by
  obtain ⟨c, hc⟩ := Option.isSome_iff_exists.1 hb
  rw [F, fnS_fn he hL hf hc, hc]; rfl

theorem F_y [XX] {n id : Nat} {avs : List AV} {S : Obs} : F (n + 1) (.y id) avs S = runY Tryz.prog own1 (F n) n id avs S := rfl

theorem F_cp [XX] {n : Nat} {f : FuncId} {avs rs : List AV} {S : Obs} (h1 : noBoxL avs = true) (h2 : noBoxL rs = true) (h : F n (.f f) avs [] = some (rs, S)) : CP (F n) f avs (packAV rs) := by
  simp only [CP, callP, h1, if_true, h, h2]

theorem F_ext [XX] {n : Nat} {f : FuncId} {g : List AV → Option (List AV)} {avs rs : List AV} (he : ext0 f = some g) (h1 : noBoxL avs = true) (h2 : noBoxL rs = true) (h : g avs = some rs) : CP (F (n + 1)) f avs (packAV rs) :=
  callP_ext he h1 h2 h

theorem h63 [XX] (n : Nat) (s : Str) : CP (F (n + 1)) 63 [.str s, .str [32, 9]] (.str (s.dropWhile isBl)) := F_ext (rs := [.str (s.dropWhile isBl)]) rfl rfl rfl rfl
theorem h64 [XX] (n : Nat) (s : Str) (hs : s.length ≤ big) : CP (F (n + 1)) 64 [.str s, .str [32, 9]] (.int .i64 (intOf (idxBl s))) := F_ext (g := gIndexAny) (rs := [.int .i64 (intOf (idxBl s))]) rfl rfl rfl (by simp [gIndexAny, hs])

theorem call31 [XX] (n : Nat) (s : Str) (S : Obs) : F (n + 1) (.f 31) [.str s] S = some ([.fn 62 [] [.box S.length 0]], S ++ [.cells [.str s]]) := by
  rw [F_fn rfl rfl Tryz.func31 rfl]
  simp [runFn, Tryz.f31]

theorem cp31 [XX] (n : Nat) (s : Str) : callP (F (n + 1)) (.f 31) [.str s] = none := by
  simp [callP, call31]

/-- The loop that gathers. -/
noncomputable def gatherRec (pf : PF) : LoopA := ⟨.ready, none, pf, 12, [6], cpath [1, 1, 0, 1, 0, 0] (Tryz.f30.body.getD .skip), cpath [1, 1, 0, 1, 0, 1] (Tryz.f30.body.getD .skip)⟩

noncomputable def gatherS (pf : PF) (acc : List Str) (s : Str) : Obs := [.cells [.str s], .acc 1 (acc.map .str), .dfr, .loop (gatherRec pf)]

set_option maxHeartbeats 1000000 in
theorem gather_yield [XX] (n : Nat) (pf : PF) (h3 : pf 3 = .box 1 0) (acc : List Str) (s w : Str) (hl : acc.length ≤ 1000000000) : F (n + 1) (.y 3) [.str w] (gatherS pf acc s) = some ([.bool true], gatherS pf (acc ++ [w]) s) := by
  rw [F_y]
  have hl2 : (acc.length + 1) * 16 ≤ 140737488355328 := by omega
  simp [runY, gatherS, gatherRec, Tryz.f30, cpath, busyS, doneS, h3, hl2]

theorem wordsGo_len : ∀ (s cur : Str), (wordsGo s cur).length ≤ s.length + 1
  | [], cur => by simp only [wordsGo]; split <;> simp
  | c :: r, cur => by
    simp only [wordsGo]
    split
    · split
      · have := wordsGo_len r []; simp; omega
      · have := wordsGo_len r []; simp; omega
    · have := wordsGo_len r (cur ++ [c]); simp; omega
theorem wordsL_len (s : Str) : (wordsL s).length ≤ s.length + 1 := wordsGo_len s []

theorem words_run [XX] (n : Nat) (pf : PF) (h3 : pf 3 = .box 1 0) (s : Str) (hs : s.length ≤ 1000000000) (hn : s.length < n) :
    F (n + 2) (.f 62) [.yld 3, .box 0 0] (gatherS pf [] s) = some ([], gatherS pf (wordsL s) []) := by
  rw [F_fn rfl rfl Tryz.func62 rfl]
  obtain ⟨pf', h⟩ := words_iter (call := F (n + 1)) (n := n + 1) (St := gatherS pf) (b := 0) (id := 3) (h63 n) (h64 n) (fun _ _ => rfl) (fun _ _ _ => rfl) (fun acc s w h => gather_yield n pf h3 acc s w h) []
    (n + 1) s [] (initPF [.yld 3, .box 0 0]) (by simpa using hs) (by omega) rfl rfl
  simp only [Tryz.f62, cpath, Option.getD_some] at h
  simp [runFn, Tryz.f62, h]

set_option maxHeartbeats 1000000 in
theorem call30 [XX] (n : Nat) (s : Str) (hs : s.length ≤ 1000000000) (hn : s.length < n) :
    F (n + 3) (.f 30) [.fn 62 [] [.box 0 0]] [.cells [.str s]] = some ([.sl 1 ((wordsL s).map .str)], [.cells [.str []], .cells [.sl 1 ((wordsL s).map .str)], .gone, .gone]) := by
  rw [F_fn rfl rfl Tryz.func30 rfl]
  have hw := fun pf h3 => words_run n pf h3 s hs hn
  simp only [gatherS, gatherRec, Tryz.f30, cpath, Option.getD_some, List.map_nil] at hw
  simp [runFn, Tryz.f30, hw]

set_option maxHeartbeats 1000000 in
theorem cp19 [XX] (n : Nat) (s : Str) (hs : s.length ≤ 1000000000) (hn : s.length + 4 < n) : CP (F n) 19 [.str s] (.sl 1 ((wordsL s).map .str)) := by
  obtain ⟨m, rfl⟩ : ∃ m, n = m + 4 := ⟨n - 4, by omega⟩
  refine F_cp (rs := [.sl 1 ((wordsL s).map .str)]) (S := [.cells [.str []], .cells [.sl 1 ((wordsL s).map .str)], .gone, .gone]) rfl (by simp) ?_
  rw [F_fn rfl rfl Tryz.func19 rfl]
  simp [runFn, Tryz.f19, cp31, call31, call30 m s hs (by omega)]

end Go.Proofs.YtaignnlnmffiaaaGreatDoor.Ex

/- Join; a list's values told one by one. -/
namespace Go.Proofs.YtaignnlnmffiaaaGreatDoor.Ex
open Go

@[simp] theorem strsOf_map : ∀ l : List Str, strsOf (l.map .str) = some l
  | [] => rfl
  | x :: r => by simp [strsOf, strsOf_map r]

theorem cp32 [XX] (n : Nat) (l : List Str) (sep : Str) (h : (joinL sep l).length ≤ lim) (h2 : l.length ≤ lim + lim) : CP (F (n + 1)) 32 [.sl 1 (l.map .str), .str sep] (.str (joinL sep l)) :=
  F_ext (g := gJoin) (rs := [.str (joinL sep l)]) rfl (by simp) rfl (by simp [gJoin, h, h2])

theorem cp21 [XX] (n : Nat) (l : List Str) (h : (joinL [32] l).length ≤ lim) : CP (F (n + 2)) 21 [.sl 1 (l.map .str)] (.str (joinL [32] l)) := by
  refine F_cp (rs := [.str (joinL [32] l)]) (S := []) (by simp) rfl ?_
  rw [F_fn rfl rfl Tryz.func21 rfl]
  have h32 := cp32 n l [32] h (by
    rcases join_length l with h1 | h1
    · unfold lim at *; omega
    · subst h1; simp)
  simp only [CP] at h32
  simp [runFn, Tryz.f21, h32]

theorem call85 [XX] (n : Nat) (l : List Str) (S : Obs) : F (n + 1) (.f 85) [.sl 1 (l.map .str)] S = some ([.fn 126 [] [.box S.length 0]], S ++ [.cells [.sl 1 (l.map .str)]]) := by
  rw [F_fn rfl rfl Tryz.func85 rfl]
  simp [runFn, Tryz.f85]
theorem cp85 [XX] (n : Nat) (l : List Str) : callP (F (n + 1)) (.f 85) [.sl 1 (l.map .str)] = none := by
  simp [callP, call85]

theorem call44 [XX] (n : Nat) (t : Str) (S : Obs) (hs : t.length ≤ 1000000000) (hn : t.length + 4 < n) :
    F (n + 1) (.f 44) [.str t] S = some ([.fn 126 [] [.box S.length 0]], S ++ [.cells [.sl 1 ((wordsL t).map .str)]]) := by
  obtain ⟨m, rfl⟩ : ∃ m, n = m + 1 := ⟨n - 1, by omega⟩
  rw [F_fn rfl rfl Tryz.func44 rfl]
  have h19 := cp19 (m + 1) t hs hn
  simp only [CP] at h19
  simp [runFn, Tryz.f44, h19, cp85, call85]
theorem cp44 [XX] (n : Nat) (t : Str) (hs : t.length ≤ 1000000000) (hn : t.length + 4 < n) : callP (F (n + 1)) (.f 44) [.str t] = none := by
  simp [callP, call44 n t _ hs hn]

theorem call43 [XX] (n : Nat) (c c' : FuncId) (fs cs fs' cs' : List AV) (S : Obs) :
    F (n + 1) (.f 43) [.fn c fs cs, .fn c' fs' cs'] S = some ([.fn 84 [] [.box S.length 0, .box (S.length + 1) 0]], S ++ [.cells [.fn c fs cs], .cells [.fn c' fs' cs']]) := by
  rw [F_fn rfl rfl Tryz.func43 rfl]
  simp [runFn, Tryz.f43]

section
variable {call : CallT} {n : Nat}

set_option maxHeartbeats 1000000 in
theorem vals_step {ws : List Str} {S S' : Obs} {D : List Nat} {id i : Nat} {pf : PF} (h0 : pf 0 = .yld id) (h5 : pf 5 = .sl 1 (ws.map .str)) (h6 : pf 6 = .int .i64 ws.length) (h7 : pf 7 = .int .i64 i)
    (hi : i < ws.length) (hlen : ws.length ≤ 1000000000) (hy : call (.y id) [.str ws[i]] S = some ([.bool true], S')) :
    ∃ pf', exec Tryz.prog own1 call n none 16 (cpath [1, 0, 0] (Tryz.f126.body.getD .skip)) ⟨pf, S, D⟩ = some (.norm, ⟨pf', S', D⟩) ∧
      pf' 0 = .yld id ∧ pf' 5 = .sl 1 (ws.map .str) ∧ pf' 6 = .int .i64 ws.length ∧ pf' 7 = .int .i64 (i + 1 : Nat) := by
  have hw : IntKind.wrap .i64 ((i : Int) + 1) = (i : Int) + 1 := wrap64 (by omega) (by omega)
  simp [Tryz.f126, cpath, h0, h5, h6, h7, hi, hy, hw]

theorem vals_end {ws : List Str} {S : Obs} {D : List Nat} {pf : PF} (h6 : pf 6 = .int .i64 ws.length) (h7 : pf 7 = .int .i64 ws.length) :
    ∃ pf', exec Tryz.prog own1 call n none 16 (cpath [1, 0, 0] (Tryz.f126.body.getD .skip)) ⟨pf, S, D⟩ = some (.ex 0, ⟨pf', S, D⟩) := by
  simp [Tryz.f126, cpath, h6, h7]

theorem vals_iter {ws : List Str} {T : Nat → Obs} {D : List Nat} {id : Nat} (hlen : ws.length ≤ 1000000000) (hy : ∀ i (h : i < ws.length), call (.y id) [.str ws[i]] (T i) = some ([.bool true], T (i + 1))) :
    ∀ (k i : Nat) (pf : PF), i + k = ws.length → pf 0 = .yld id → pf 5 = .sl 1 (ws.map .str) → pf 6 = .int .i64 ws.length → pf 7 = .int .i64 i → ∀ m, k < m →
      ∃ pf', iter (exec Tryz.prog own1 call n none 16 (cpath [1, 0, 0] (Tryz.f126.body.getD .skip))) m ⟨pf, T i, D⟩ = some (.ex 0, ⟨pf', T ws.length, D⟩) := by
  intro k
  induction k with
  | zero =>
    intro i pf hi h0 h5 h6 h7 m hm
    obtain ⟨m, rfl⟩ : ∃ m', m = m' + 1 := ⟨m - 1, by omega⟩
    have : i = ws.length := by omega
    subst this
    obtain ⟨pf', he⟩ := vals_end (call := call) (n := n) (S := T ws.length) (D := D) h6 h7
    exact ⟨pf', by simp only [iter, he]⟩
  | succ k ih =>
    intro i pf hi h0 h5 h6 h7 m hm
    obtain ⟨m, rfl⟩ : ∃ m', m = m' + 1 := ⟨m - 1, by omega⟩
    have hlt : i < ws.length := by omega
    obtain ⟨pf1, he, g0, g5, g6, g7⟩ := vals_step (call := call) (n := n) (D := D) h0 h5 h6 h7 hlt hlen (hy i hlt)
    obtain ⟨pf2, h2⟩ := ih (i + 1) pf1 (by omega) g0 g5 g6 g7 m (by omega)
    exact ⟨pf2, by simp only [iter, he, h2]⟩

end

theorem call126 [XX] (n : Nat) {ws : List Str} {T : Nat → Obs} {b id : Nat} (hlen : ws.length ≤ 1000000000) (hn : ws.length < n) (hb : (T 0)[b]? = some (.cells [.sl 1 (ws.map .str)]))
    (hy : ∀ i (h : i < ws.length), F n (.y id) [.str ws[i]] (T i) = some ([.bool true], T (i + 1))) : F (n + 1) (.f 126) [.yld id, .box b 0] (T 0) = some ([], T ws.length) := by
  rw [F_fn rfl rfl Tryz.func126 rfl]
  obtain ⟨pf', h⟩ := vals_iter (call := F n) (n := n) (D := []) hlen hy ws.length 0
    (upd (upd (upd (initPF [.yld id, .box b 0]) 5 (.sl 1 (ws.map .str))) 6 (.int .i64 ws.length)) 7 (.int .i64 0)) (by omega) rfl rfl rfl rfl n hn
  simp only [Tryz.f126, cpath, Option.getD_some] at h
  simp [runFn, Tryz.f126, hb, h]

end Go.Proofs.YtaignnlnmffiaaaGreatDoor.Ex

/- What a closure keeps of each word, told as one text. -/
namespace Go.Proofs.YtaignnlnmffiaaaGreatDoor.Ex
open Go

noncomputable def rec125 (pf : PF) : LoopA := ⟨.ready, none, pf, 13, [7], cpath [1, 0, 1, 0, 0] (Tryz.f125.body.getD .skip), cpath [1, 0, 1, 0, 1] (Tryz.f125.body.getD .skip)⟩
noncomputable def rec84 (pf : PF) : LoopA := ⟨.ready, none, pf, 22, [8], cpath [1, 1, 0, 0] (Tryz.f84.body.getD .skip), cpath [1, 1, 0, 1] (Tryz.f84.body.getD .skip)⟩

noncomputable def toldS (S0 : Obs) (ws : List Str) (clos : AV) (p q : PF) (acc : List Str) : Obs :=
  S0 ++ [.cells [.sl 1 (ws.map .str)], .cells [.fn 126 [] [.box S0.length 0]], .cells [clos], .acc 1 (acc.map .str), .dfr, .loop (rec125 p), .cells [.yld (S0.length + 5)], .dfr, .loop (rec84 q)]

section
variable {n : Nat} {S0 : Obs} {ws : List Str} {clos : AV} {p q : PF}

set_option maxHeartbeats 1000000 in
theorem told_y5 [XX] (hp : p 2 = .box (S0.length + 3) 0) (acc : List Str) (w : Str) (hl : acc.length ≤ 1000000000) (x : LoopA) :
    F (n + 1) (.y (S0.length + 5)) [.str w] (S0 ++ [.cells [.sl 1 (ws.map .str)], .cells [.fn 126 [] [.box S0.length 0]], .cells [clos], .acc 1 (acc.map .str), .dfr, .loop (rec125 p), .cells [.yld (S0.length + 5)], .dfr, .loop x]) =
      some ([.bool true], S0 ++ [.cells [.sl 1 (ws.map .str)], .cells [.fn 126 [] [.box S0.length 0]], .cells [clos], .acc 1 (acc.map .str ++ [.str w]), .dfr, .loop (rec125 p), .cells [.yld (S0.length + 5)], .dfr, .loop x]) := by
  rw [F_y]
  have hl2 : (acc.length + 1) * 16 ≤ 140737488355328 := by omega
  simp [runY, rec125, Tryz.f125, cpath, busyS, doneS, hp, hl2]

set_option maxHeartbeats 1000000 in
theorem told_y8 [XX] {c : FuncId} {caps : List AV} {g : Str → Str × Bool} (hp : p 2 = .box (S0.length + 3) 0) (hq2 : q 2 = .box (S0.length + 2) 0) (hq3 : q 3 = .box (S0.length + 6) 0) (acc : List Str) (w : Str) (hl : acc.length ≤ 1000000000)
    (hP : callP (F (n + 1)) (.f c) (.str w :: caps) = none)
    (hc : ∀ x, F (n + 1) (.f c) (.str w :: caps) (S0 ++ [.cells [.sl 1 (ws.map .str)], .cells [.fn 126 [] [.box S0.length 0]], .cells [.fn c [] caps], .acc 1 (acc.map .str), .dfr, .loop (rec125 p), .cells [.yld (S0.length + 5)], .dfr, .loop x]) =
      some ([.str (g w).1, .bool (g w).2], S0 ++ [.cells [.sl 1 (ws.map .str)], .cells [.fn 126 [] [.box S0.length 0]], .cells [.fn c [] caps], .acc 1 (acc.map .str), .dfr, .loop (rec125 p), .cells [.yld (S0.length + 5)], .dfr, .loop x])) :
    F (n + 2) (.y (S0.length + 8)) [.str w] (toldS S0 ws (.fn c [] caps) p q acc) = some ([.bool true], toldS S0 ws (.fn c [] caps) p q (acc ++ if (g w).2 then [(g w).1] else [])) := by
  rw [F_y]
  cases hg : (g w).2 with
  | false =>
    simp [runY, toldS, rec84, Tryz.f84, cpath, busyS, doneS, hq2, hq3, hP, hc, hg]
  | true =>
    have h5 := told_y5 (n := n) (ws := ws) (clos := .fn c [] caps) hp acc (g w).1 hl
    simp [runY, toldS, rec84, Tryz.f84, cpath, busyS, doneS, hq2, hq3, hP, hc, hg, h5]

end
end Go.Proofs.YtaignnlnmffiaaaGreatDoor.Ex

/- The words that a closure keeps, told as one text: the whole. -/
namespace Go.Proofs.YtaignnlnmffiaaaGreatDoor.Ex
open Go

/-- What is kept of a word. -/
def keepL (g : Str → Str × Bool) (w : Str) : List Str := if (g w).2 then [(g w).1] else []

/-- A closure that turns a word, and touches nothing. -/
def ClosOK [XX] (n : Nat) (S0 : Obs) (ws : List Str) (c : FuncId) (caps : List AV) (g : Str → Str × Bool) : Prop :=
  ∀ w ∈ ws, callP (F n) (.f c) (.str w :: caps) = none ∧ ∀ l, F n (.f c) (.str w :: caps) (S0 ++ l) = some ([.str (g w).1, .bool (g w).2], S0 ++ l)

theorem keep_len (g : Str → Str × Bool) : ∀ l : List Str, (l.flatMap (keepL g)).length ≤ l.length
  | [] => by simp
  | x :: r => by
    have := keep_len g r
    have h1 : (keepL g x).length ≤ 1 := by unfold keepL; split <;> simp
    rw [List.flatMap_cons, List.length_append, List.length_cons]; omega

section
variable {n : Nat} {S0 : Obs} {ws : List Str} {p q : PF} {c : FuncId} {caps : List AV} {g : Str → Str × Bool}

theorem told_run [XX] (hp : p 2 = .box (S0.length + 3) 0) (hq2 : q 2 = .box (S0.length + 2) 0) (hq3 : q 3 = .box (S0.length + 6) 0) (hl : ws.length ≤ 1000000000) (hn : ws.length < n) (hc : ClosOK (n + 1) S0 ws c caps g) :
    F (n + 3) (.f 126) [.yld (S0.length + 8), .box S0.length 0] (toldS S0 ws (.fn c [] caps) p q []) = some ([], toldS S0 ws (.fn c [] caps) p q (ws.flatMap (keepL g))) := by
  have := call126 (n + 2) (ws := ws) (T := fun i => toldS S0 ws (.fn c [] caps) p q ((ws.take i).flatMap (keepL g))) (b := S0.length) (id := S0.length + 8) hl (by omega) (by simp [toldS]) (fun i hi => by
    have hm : ws[i] ∈ ws := List.getElem_mem hi
    have hlen : ((ws.take i).flatMap (keepL g)).length ≤ 1000000000 := by
      have := keep_len g (ws.take i)
      rw [List.length_take] at this; omega
    have h8 := told_y8 (n := n) (S0 := S0) (ws := ws) (p := p) (q := q) (c := c) (caps := caps) (g := g) hp hq2 hq3 ((ws.take i).flatMap (keepL g)) ws[i] hlen (hc _ hm).1 (fun x => (hc _ hm).2 _)
    rw [h8, List.take_succ_eq_append_getElem hi, List.flatMap_append]
    simp [keepL])
  simpa using this

set_option maxHeartbeats 2000000 in
theorem call84 [XX] (hp : p 2 = .box (S0.length + 3) 0) (hl : ws.length ≤ 1000000000) (hn : ws.length < n) (hc : ClosOK (n + 1) S0 ws c caps g) :
    F (n + 4) (.f 84) [.yld (S0.length + 5), .box (S0.length + 1) 0, .box (S0.length + 2) 0]
      (S0 ++ [.cells [.sl 1 (ws.map .str)], .cells [.fn 126 [] [.box S0.length 0]], .cells [.fn c [] caps], .acc 1 [], .dfr, .loop (rec125 p)]) =
      some ([], S0 ++ [.cells [.sl 1 (ws.map .str)], .cells [.fn 126 [] [.box S0.length 0]], .cells [.fn c [] caps], .acc 1 ((ws.flatMap (keepL g)).map .str), .dfr, .loop (rec125 p), .cells [.yld (S0.length + 5)], .gone, .gone]) := by
  rw [F_fn rfl rfl Tryz.func84 rfl]
  have hr := fun q hq2 hq3 => told_run (p := p) (q := q) hp hq2 hq3 hl hn hc
  simp only [toldS, rec84, Tryz.f84, cpath, Option.getD_some, List.map_nil] at hr
  simp [runFn, Tryz.f84, hr]

set_option maxHeartbeats 2000000 in
theorem call125 [XX] (hl : ws.length ≤ 1000000000) (hn : ws.length < n) (hc : ClosOK (n + 1) S0 ws c caps g) :
    ∃ S', F (n + 5) (.f 125) [.nils, .fn 84 [] [.box (S0.length + 1) 0, .box (S0.length + 2) 0]] (S0 ++ [.cells [.sl 1 (ws.map .str)], .cells [.fn 126 [] [.box S0.length 0]], .cells [.fn c [] caps]]) =
      some ([.sl 1 ((ws.flatMap (keepL g)).map .str)], S') := by
  rw [F_fn rfl rfl Tryz.func125 rfl]
  have hr := fun p hp => call84 (p := p) hp hl hn hc
  simp only [rec125, Tryz.f125, cpath, Option.getD_some] at hr
  simp [runFn, Tryz.f125, hr]

end
end Go.Proofs.YtaignnlnmffiaaaGreatDoor.Ex

/- What is told of a list's words; the closures. -/
namespace Go.Proofs.YtaignnlnmffiaaaGreatDoor.Ex
open Go

section
variable {n : Nat} {S0 : Obs} {ws : List Str} {c : FuncId} {caps : List AV} {g : Str → Str × Bool}

set_option maxHeartbeats 2000000 in
theorem call83 [XX] (hl : ws.length ≤ 1000000000) (hn : ws.length < n) (hc : ClosOK (n + 1) S0 ws c caps g) :
    ∃ S', F (n + 6) (.f 83) [.fn 84 [] [.box (S0.length + 1) 0, .box (S0.length + 2) 0]] (S0 ++ [.cells [.sl 1 (ws.map .str)], .cells [.fn 126 [] [.box S0.length 0]], .cells [.fn c [] caps]]) =
      some ([.sl 1 ((ws.flatMap (keepL g)).map .str)], S') := by
  rw [F_fn rfl rfl Tryz.func83 rfl]
  obtain ⟨S', h⟩ := call125 hl hn hc
  refine ⟨S', ?_⟩
  simp [runFn, Tryz.f83, h]

set_option maxHeartbeats 2000000 in
theorem call42 [XX] (hl : ws.length ≤ 1000000000) (hn : ws.length < n) (hc : ClosOK (n + 1) S0 ws c caps g) (hj : (joinL [32] (ws.flatMap (keepL g))).length ≤ lim) :
    ∃ S', F (n + 7) (.f 42) [.fn 84 [] [.box (S0.length + 1) 0, .box (S0.length + 2) 0]] (S0 ++ [.cells [.sl 1 (ws.map .str)], .cells [.fn 126 [] [.box S0.length 0]], .cells [.fn c [] caps]]) =
      some ([.str (joinL [32] (ws.flatMap (keepL g))), .bool true], S') := by
  rw [F_fn rfl rfl Tryz.func42 rfl]
  obtain ⟨S', h⟩ := call83 hl hn hc
  refine ⟨S', ?_⟩
  have h21 := cp21 (n + 4) _ hj
  simp only [CP] at h21
  simp [runFn, Tryz.f42, h, h21]

end

theorem clos45 [XX] (n : Nat) (a : Str) (ws : List Str) (h : ∀ w ∈ ws, w.length + a.length ≤ 1000000000) : ClosOK (n + 1) [.cells [.str a]] ws 45 [.box 0 0] (fun w => (w ++ a, true)) := by
  intro w hw
  have h1 := h w hw
  refine ⟨by simp, fun l => ?_⟩
  have h2 : w.length + a.length ≤ 9223372036854775807 := by omega
  rw [F_fn rfl rfl Tryz.func45 rfl]
  simp [runFn, Tryz.f45, h2]

theorem clos46 [XX] (n : Nat) (a : Str) (ws : List Str) (h : ∀ w ∈ ws, w.length + a.length ≤ 1000000000) : ClosOK (n + 1) [.cells [.str a]] ws 46 [.box 0 0] (fun w => (a ++ w, true)) := by
  intro w hw
  have h1 := h w hw
  refine ⟨by simp, fun l => ?_⟩
  have h2 : a.length + w.length ≤ 9223372036854775807 := by omega
  rw [F_fn rfl rfl Tryz.func46 rfl]
  simp [runFn, Tryz.f46, h2]

/-! ### A path's pieces -/
def atL (w : Str) : Nat := match lastOf 47 w with | some i => i + 1 | none => 0
def baseL (w : Str) : Str × Str × Str :=
  match lastOf 46 (w.drop (atL w)) with
  | none => (w.take (atL w), w.drop (atL w), [])
  | some d => (w.take (atL w), (w.drop (atL w)).take d, (w.drop (atL w)).drop d)

theorem lastOf_lt : ∀ (c : UInt8) (s : Str) (i : Nat), lastOf c s = some i → i < s.length
  | c, [], i, h => by cases h
  | c, d :: r, i, h => by
    simp only [lastOf] at h
    split at h
    · rename_i j hj
      injection h with h; subst h
      have := lastOf_lt c r j hj
      simp; omega
    · split at h
      · injection h with h; subst h; simp
      · cases h

theorem atL_le (w : Str) : atL w ≤ w.length := by
  unfold atL
  split
  · rename_i i h; have := lastOf_lt _ _ _ h; omega
  · omega

@[simp] theorem take_rest {α : Type} (l : List α) (k : Nat) : List.take (l.length - k) (List.drop k l) = List.drop k l := List.take_of_length_le (by simp)

theorem cp158 [XX] (n : Nat) (s : Str) (c : UInt8) (hs : s.length ≤ big) : CP (F (n + 1)) 158 [.str s, .int .u8 c.toNat] (.int .i64 (intOf (lastOf c s))) :=
  F_ext (g := gLastByte) (rs := [.int .i64 (intOf (lastOf c s))]) rfl rfl rfl (by
    have h1 : c.toNat < 256 := c.toNat_lt
    have h2 : (0 : Int) ≤ c.toNat ∧ (c.toNat : Int) < 256 := by omega
    simp only [gLastByte, h2, hs, and_self, if_true]
    simp)

@[simp] theorem intOf_some (n : Nat) : intOf (some n) = n := rfl
@[simp] theorem intOf_none : intOf none = -1 := rfl

theorem call123 [XX] (n : Nat) (w : Str) (hw : w.length ≤ 1000000000) : F (n + 2) (.f 123) [.str w] [] = some ([.str (baseL w).1, .str (baseL w).2.1, .str (baseL w).2.2], []) := by
  rw [F_fn rfl rfl Tryz.func123 rfl]
  have h1 := cp158 n w 47 (by unfold big; omega)
  have h2 := cp158 n (w.drop (atL w)) 46 (by unfold big; simp; omega)
  simp only [CP] at h1 h2
  have e1 : ((47 : UInt8).toNat : Int) = 47 := rfl
  have e2 : ((46 : UInt8).toNat : Int) = 46 := rfl
  rw [e1] at h1
  simp only [e2] at h2
  have hat : IntKind.wrap .i64 (intOf (lastOf 47 w) + 1) = (atL w : Int) := by
    have := atL_le w
    unfold atL intOf at *
    cases h : lastOf 47 w with
    | none => simp [h]; exact wrap64 (by omega) (by omega)
    | some i => simp [h] at this ⊢; exact wrap64 (by omega) (by omega)
  have hle := atL_le w
  have hle' : (atL w : Int) ≤ (w.length : Int) := by omega
  unfold baseL
  cases hd : lastOf 46 (w.drop (atL w)) with
  | none =>
    simp [runFn, Tryz.f123, h1, h2, hat, hle', hd]
  | some d =>
    have hd1 := lastOf_lt _ _ _ hd
    have hd2 : ¬ ((d : Int) < 0) := by omega
    have hw2 : IntKind.wrap .i64 ((atL w : Int) + (d : Int)) = (atL w : Int) + (d : Int) := wrap64 (by omega) (by simp at hd1; omega)
    have hd3 : (atL w : Int) + (d : Int) ≤ (w.length : Int) := by simp at hd1; omega
    have hd4 : 0 ≤ (atL w : Int) + (d : Int) := by omega
    have hd5 : ((atL w : Int) + (d : Int)).toNat = atL w + d := by omega
    have hd6 : (atL w : Int) ≤ (atL w : Int) + (d : Int) := by omega
    simp [runFn, Tryz.f123, h1, h2, hat, hle', hd, hd2, hw2, hd3, hd4, hd5, hd6]

theorem baseL_len (w : Str) : (baseL w).1.length ≤ w.length ∧ (baseL w).2.1.length ≤ w.length ∧ (baseL w).2.2.length ≤ w.length := by
  unfold baseL
  split <;> simp <;> omega

theorem bstr (a b : Str) : (a == b) = decide (a = b) := by by_cases h : a = b <;> simp [h]

/-- One piece of a path, by its name. -/
def partL (name w : Str) : Str :=
  if name = [100, 105, 114] then (if (baseL w).1 = [] then [46, 47] else (baseL w).1)
  else if name = [110, 111, 116, 100, 105, 114] then (baseL w).2.1 ++ (baseL w).2.2
  else if name = [115, 117, 102, 102, 105, 120] then (baseL w).2.2
  else (baseL w).1 ++ (baseL w).2.1

set_option maxHeartbeats 1000000 in
theorem cp81 [XX] (n : Nat) (name w : Str) (hw : w.length ≤ 1000000000) : CP (F (n + 3)) 81 [.str name, .str w] (.str (partL name w)) := by
  refine F_cp (rs := [.str (partL name w)]) (S := []) rfl rfl ?_
  rw [F_fn rfl rfl Tryz.func81 rfl]
  have h123 : callP (F (n + 2)) (.f 123) [.str w] = some (.tup [.str (baseL w).1, .str (baseL w).2.1, .str (baseL w).2.2]) := by
    simp [callP, call123 n w hw]
  obtain ⟨l1, l2, l3⟩ := baseL_len w
  have k1 : (baseL w).2.1.length + (baseL w).2.2.length ≤ 9223372036854775807 := by omega
  have k2 : (baseL w).1.length + (baseL w).2.1.length ≤ 9223372036854775807 := by omega
  unfold partL
  by_cases a1 : name = [100, 105, 114]
  · subst a1
    by_cases a2 : (baseL w).1 = []
    · simp [runFn, Tryz.f81, h123, a2]
    · simp [runFn, Tryz.f81, h123, a2]
  · by_cases a3 : name = [110, 111, 116, 100, 105, 114]
    · subst a3
      simp [runFn, Tryz.f81, h123, bstr, k1]
    · by_cases a4 : name = [115, 117, 102, 102, 105, 120]
      · subst a4
        simp [runFn, Tryz.f81, bstr, h123]
      · simp [runFn, Tryz.f81, h123, bstr, a1, a3, a4, k2]

theorem clos80 [XX] (n : Nat) (name : Str) (ws : List Str) (h : ∀ w ∈ ws, w.length ≤ 1000000000) : ClosOK (n + 4) [.cells [.str name]] ws 80 [.box 0 0] (fun w => (partL name w, partL name w != [])) := by
  intro w hw
  refine ⟨by simp, fun l => ?_⟩
  have h81 := cp81 n name w (h w hw)
  simp only [CP] at h81
  rw [F_fn rfl rfl Tryz.func80 rfl]
  simp [runFn, Tryz.f80, h81]
  cases partL name w <;> rfl

end Go.Proofs.YtaignnlnmffiaaaGreatDoor.Ex

/- Patterns. -/
namespace Go.Proofs.YtaignnlnmffiaaaGreatDoor.Ex
open Go

def cntL (p : Str) : Nat := p.countP (· == 37)
def rightL (p : Str) : Bool := p != [] && decide (cntL p ≤ 1)
def openL (p : Str) : Bool := decide (cntL p = 1)
def cutL (p : Str) : Str × Str × Bool :=
  match idxOf 37 p with
  | some i => (p.take i, p.drop (i + 1), true)
  | none => (p, [], false)
def cutPre (s p : Str) : Str × Bool := if isPre p s then (s.drop p.length, true) else (s, false)
def cutSuf (s p : Str) : Str × Bool := if isPre p.reverse s.reverse then (s.take (s.length - p.length), true) else (s, false)

def matchL (p s : Str) : Str × Bool :=
  if rightL p then
    if (cutL p).2.2 then
      if (cutPre s (cutL p).1).2 && (cutSuf (cutPre s (cutL p).1).1 (cutL p).2.1).2 then ((cutSuf (cutPre s (cutL p).1).1 (cutL p).2.1).1, true) else ([], false)
    else ([], p == s)
  else ([], false)

def fillL (p stem : Str) : Str := if openL p then (cutL p).1 ++ stem ++ (cutL p).2.1 else p
def substL (p q s : Str) : Str := if (matchL p s).2 then fillL q (matchL p s).1 else s

theorem cp128 [XX] (n : Nat) (p : Str) : CP (F (n + 1)) 128 [.str p, .str [37]] (.int .i64 (cntL p)) :=
  F_ext (g := gCount) (rs := [.int .i64 (cntL p)]) rfl rfl rfl rfl
theorem cp129 [XX] (n : Nat) (p : Str) (hp : p.length ≤ big) : CP (F (n + 1)) 129 [.str p, .str [37]] (.tup [.str (cutL p).1, .str (cutL p).2.1, .bool (cutL p).2.2]) :=
  F_ext (g := gCut) (rs := [.str (cutL p).1, .str (cutL p).2.1, .bool (cutL p).2.2]) rfl rfl rfl (by
    have hp' : ¬ big < p.length := by omega
    simp only [gCut, cutL, hp', if_false]; cases idxOf 37 p <;> rfl)
theorem cp131 [XX] (n : Nat) (s p : Str) : CP (F (n + 1)) 131 [.str s, .str p] (.tup [.str (cutPre s p).1, .bool (cutPre s p).2]) :=
  F_ext (g := gCutPrefix) (rs := [.str (cutPre s p).1, .bool (cutPre s p).2]) rfl rfl rfl (by
    simp only [gCutPrefix, cutPre]; cases isPre p s <;> rfl)
theorem cp132 [XX] (n : Nat) (s p : Str) (hs : s.length ≤ big) : CP (F (n + 1)) 132 [.str s, .str p] (.tup [.str (cutSuf s p).1, .bool (cutSuf s p).2]) :=
  F_ext (g := gCutSuffix) (rs := [.str (cutSuf s p).1, .bool (cutSuf s p).2]) rfl rfl rfl (by
    have hs' : ¬ big < s.length := by omega
    simp only [gCutSuffix, cutSuf, hs', if_false]; cases isPre p.reverse s.reverse <;> rfl)

theorem cp130 [XX] (n : Nat) (p : Str) : CP (F (n + 2)) 130 [.str p] (.bool (rightL p)) := by
  refine F_cp (rs := [.bool (rightL p)]) (S := []) rfl rfl ?_
  rw [F_fn rfl rfl Tryz.func130 rfl]
  have h := cp128 n p
  simp only [CP] at h
  unfold rightL
  have e : ((cntL p : Int) ≤ 1) ↔ cntL p ≤ 1 := by omega
  cases p with
  | nil => simp [runFn, Tryz.f130]
  | cons c r => simp [runFn, Tryz.f130, h, e]

theorem cp133 [XX] (n : Nat) (p : Str) : CP (F (n + 2)) 133 [.str p] (.bool (openL p)) := by
  refine F_cp (rs := [.bool (openL p)]) (S := []) rfl rfl ?_
  rw [F_fn rfl rfl Tryz.func133 rfl]
  have h := cp128 n p
  simp only [CP] at h
  unfold openL
  have e : ((cntL p : Int) = 1) ↔ cntL p = 1 := by omega
  have e2 : ((cntL p : Int) == 1) = decide (cntL p = 1) := by rw [← decide_eq_decide.2 e]; rfl
  simp [runFn, Tryz.f133, h, e2]

set_option maxHeartbeats 1000000 in
theorem cp89 [XX] (n : Nat) (p s : Str) (hp : p.length ≤ big) (hs : s.length ≤ big) : CP (F (n + 3)) 89 [.str p, .str s] (.tup [.str (matchL p s).1, .bool (matchL p s).2]) := by
  refine F_cp (rs := [.str (matchL p s).1, .bool (matchL p s).2]) (S := []) rfl rfl ?_
  rw [F_fn rfl rfl Tryz.func89 rfl]
  have h129 := cp129 (n + 1) p hp
  have h130 := cp130 n p
  have h131 := fun p => cp131 (n + 1) s p
  have h132 := fun p => cp132 (n + 1) (cutPre s (cutL p).1).1 (cutL p).2.1 (by unfold cutPre; split <;> simp <;> omega)
  replace h132 := h132 p
  simp only [CP] at h129 h130 h131 h132
  unfold matchL
  cases hr : rightL p with
  | false => simp [runFn, Tryz.f89, h129, h130, hr]
  | true =>
    cases ho : (cutL p).2.2 with
    | false => simp [runFn, Tryz.f89, h129, h130, hr, ho]
    | true =>
      cases h1 : (cutPre s (cutL p).1).2 with
      | false => simp [runFn, Tryz.f89, h129, h130, h131, h132, hr, ho, h1]
      | true =>
        cases h2 : (cutSuf (cutPre s (cutL p).1).1 (cutL p).2.1).2 with
        | false => simp [runFn, Tryz.f89, h129, h130, h131, h132, hr, ho, h1, h2]
        | true => simp [runFn, Tryz.f89, h129, h130, h131, h132, hr, ho, h1, h2]

theorem cutL_len (p : Str) : (cutL p).1.length ≤ p.length ∧ (cutL p).2.1.length ≤ p.length := by
  unfold cutL; split <;> simp <;> omega
theorem matchL_len (p s : Str) : (matchL p s).1.length ≤ s.length := by
  unfold matchL cutSuf cutPre
  repeat' split
  all_goals simp <;> omega

theorem cp90 [XX] (n : Nat) (p stem : Str) (h : p.length + stem.length ≤ 1000000000) : CP (F (n + 3)) 90 [.str p, .str stem] (.str (fillL p stem)) := by
  refine F_cp (rs := [.str (fillL p stem)]) (S := []) rfl rfl ?_
  rw [F_fn rfl rfl Tryz.func90 rfl]
  have h129 := cp129 (n + 1) p (by unfold big; omega)
  have h133 := cp133 n p
  simp only [CP] at h129 h133
  obtain ⟨l1, l2⟩ := cutL_len p
  have k1 : (cutL p).1.length + stem.length ≤ 9223372036854775807 := by omega
  have k2 : (cutL p).1.length + stem.length + (cutL p).2.1.length ≤ 9223372036854775807 := by omega
  unfold fillL
  cases ho : openL p with
  | false => simp [runFn, Tryz.f90, h129, h133, ho]
  | true => simp [runFn, Tryz.f90, h129, h133, ho, k1, k2]

theorem cp52 [XX] (n : Nat) (p q s : Str) (h : q.length + s.length ≤ 1000000000) (hp : p.length ≤ big) : CP (F (n + 4)) 52 [.str p, .str q, .str s] (.str (substL p q s)) := by
  refine F_cp (rs := [.str (substL p q s)]) (S := []) rfl rfl ?_
  rw [F_fn rfl rfl Tryz.func52 rfl]
  have h89 := cp89 n p s hp (by unfold big; omega)
  have h90 := cp90 n q (matchL p s).1 (by have := matchL_len p s; omega)
  simp only [CP] at h89 h90
  unfold substL
  cases hm : (matchL p s).2 with
  | false => simp [runFn, Tryz.f52, h89, hm]
  | true => simp [runFn, Tryz.f52, h89, h90, hm]

theorem clos51 [XX] (n : Nat) (p q : Str) (ws : List Str) (h : ∀ w ∈ ws, q.length + w.length ≤ 1000000000) (hp : p.length ≤ big) : ClosOK (n + 5) [.cells [.str p], .cells [.str q]] ws 51 [.box 0 0, .box 1 0] (fun w => (substL p q w, true)) := by
  intro w hw
  refine ⟨by simp, fun l => ?_⟩
  have h52 := cp52 n p q w (h w hw) hp
  simp only [CP] at h52
  rw [F_fn rfl rfl Tryz.func51 rfl]
  simp [runFn, Tryz.f51, h52]

theorem cp87 [XX] (n : Nat) (s p : Str) (hp : p.length ≤ big) (hs : s.length ≤ big) : CP (F (n + 4)) 87 [.str s, .str p] (.bool (matchL p s).2) := by
  refine F_cp (rs := [.bool (matchL p s).2]) (S := []) rfl rfl ?_
  rw [F_fn rfl rfl Tryz.func87 rfl]
  have h89 := cp89 n p s hp hs
  simp only [CP] at h89
  simp [runFn, Tryz.f87, h89]

end Go.Proofs.YtaignnlnmffiaaaGreatDoor.Ex

/- Is one of the patterns matched? Numbers. -/
namespace Go.Proofs.YtaignnlnmffiaaaGreatDoor.Ex
open Go

def anyL (l : List Str) (s : Str) : Bool := l.any fun p => (matchL p s).2

section
variable {n : Nat} {l : List Str} {s : Str} {S : Obs} {D : List Nat}

set_option maxHeartbeats 1000000 in
theorem idx_step [XX] {i : Nat} {pf : PF} (h0 : pf 0 = .sl 1 (l.map .str)) (h1 : pf 1 = .fn 87 [.str s] []) (h7 : pf 7 = .int .i64 l.length) (h8 : pf 8 = .int .i64 i) (hi : i < l.length) (hl : l.length ≤ 1000000000) (hb : ∀ p ∈ l, p.length ≤ big) (hs : s.length ≤ big) :
    ∃ pf', exec Tryz.prog own1 (F (n + 4)) (n + 4) none 19 (cpath [1, 0, 1, 0, 0] (Tryz.f127.body.getD .skip)) ⟨pf, S, D⟩ = some (if (matchL l[i] s).2 then .ret else .norm, ⟨pf', S, D⟩) ∧
      pf' 0 = .sl 1 (l.map .str) ∧ pf' 1 = .fn 87 [.str s] [] ∧ pf' 7 = .int .i64 l.length ∧ pf' 8 = .int .i64 (if (matchL l[i] s).2 then i else (i + 1 : Nat)) ∧ ((matchL l[i] s).2 = true → pf' 4 = .int .i64 i) := by
  have hw : IntKind.wrap .i64 ((i : Int) + 1) = (i : Int) + 1 := wrap64 (by omega) (by omega)
  have h87 := cp87 n s l[i] (hb _ (List.getElem_mem hi)) hs
  simp only [CP] at h87
  cases hm : (matchL l[i] s).2 with
  | true =>
    rw [hm] at h87
    simp [Tryz.f127, cpath, h0, h1, h7, h8, hi, h87]
  | false =>
    rw [hm] at h87
    simp [Tryz.f127, cpath, h0, h1, h7, h8, hi, h87, hw]

theorem idx_iter [XX] (hl : l.length ≤ 1000000000) (hb : ∀ p ∈ l, p.length ≤ big) (hs : s.length ≤ big) : ∀ (k i : Nat) (pf : PF), i + k = l.length → pf 0 = .sl 1 (l.map .str) → pf 1 = .fn 87 [.str s] [] → pf 7 = .int .i64 l.length → pf 8 = .int .i64 i → ∀ m, k < m →
    ∃ x pf', iter (exec Tryz.prog own1 (F (n + 4)) (n + 4) none 19 (cpath [1, 0, 1, 0, 0] (Tryz.f127.body.getD .skip))) m ⟨pf, S, D⟩ = some (x, ⟨pf', S, D⟩) ∧
      (anyL (l.drop i) s = true → x = .ret ∧ ∃ j : Nat, pf' 4 = .int .i64 j) ∧ (anyL (l.drop i) s = false → x = .ex 0) := by
  intro k
  induction k with
  | zero =>
    intro i pf hi h0 h1 h7 h8 m hm
    obtain ⟨m, rfl⟩ : ∃ m', m = m' + 1 := ⟨m - 1, by omega⟩
    have hil : i = l.length := by omega
    subst hil
    refine ⟨.ex 0, ?_⟩
    simp only [iter]
    simp [Tryz.f127, cpath, h7, h8, anyL]
  | succ k ih =>
    intro i pf hi h0 h1 h7 h8 m hm
    obtain ⟨m, rfl⟩ : ∃ m', m = m' + 1 := ⟨m - 1, by omega⟩
    have hlt : i < l.length := by omega
    obtain ⟨pf1, he, g0, g1, g7, g8, g4⟩ := idx_step (n := n) (S := S) (D := D) h0 h1 h7 h8 hlt hl hb hs
    have hd : anyL (l.drop i) s = ((matchL l[i] s).2 || anyL (l.drop (i + 1)) s) := by
      have e : l.drop i = l[i] :: l.drop (i + 1) := (List.getElem_cons_drop hlt).symm
      simp only [anyL]
      rw [e, List.any_cons]
    simp only [iter, he, hd]
    cases hm2 : (matchL l[i] s).2 with
    | true =>
      exact ⟨.ret, pf1, by simp [hm2], fun _ => ⟨rfl, i, g4 hm2⟩, fun h => by simp at h⟩
    | false =>
      rw [hm2] at g8
      obtain ⟨x, pf2, h2, h3, h4⟩ := ih (i + 1) pf1 (by omega) g0 g1 g7 (by simpa using g8) m (by omega)
      refine ⟨x, pf2, by simp [hm2, h2], fun h => h3 (by simpa using h), fun h => h4 (by simpa using h)⟩

end

set_option maxHeartbeats 1000000 in
theorem cp127 [XX] (n : Nat) (l : List Str) (s : Str) (hl : l.length ≤ 1000000000) (hn : l.length < n) (hb : ∀ p ∈ l, p.length ≤ big) (hs : s.length ≤ big) : ∃ z : Int, CP (F (n + 5)) 127 [.sl 1 (l.map .str), .fn 87 [.str s] []] (.int .i64 z) ∧ (0 ≤ z ↔ anyL l s = true) := by
  obtain ⟨x, pf', h, h1, h2⟩ := idx_iter (n := n) (l := l) (s := s) (S := []) (D := []) hl hb hs l.length 0
    (upd (upd (upd (upd (initPF [.sl 1 (l.map .str), .fn 87 [.str s] []]) 4 (.int .i64 0)) 6 (.sl 1 (l.map .str))) 7 (.int .i64 l.length)) 8 (.int .i64 0)) (by omega) rfl rfl rfl rfl (n + 4) (by omega)
  simp only [Tryz.f127, cpath, Option.getD_some] at h
  cases ha : anyL l s with
  | true =>
    obtain ⟨rfl, j, hj⟩ := h1 (by simpa using ha)
    refine ⟨j, F_cp (rs := [.int .i64 j]) (S := []) (by simp) rfl ?_, by simp⟩
    rw [F_fn rfl rfl Tryz.func127 rfl]
    simp [runFn, Tryz.f127, h, hj]
  | false =>
    have := h2 (by simpa using ha)
    subst this
    refine ⟨-1, F_cp (rs := [.int .i64 (-1)]) (S := []) (by simp) rfl ?_, by simp⟩
    rw [F_fn rfl rfl Tryz.func127 rfl]
    simp [runFn, Tryz.f127, h]

theorem cp86 [XX] (n : Nat) (l : List Str) (s : Str) (hl : l.length ≤ 1000000000) (hn : l.length < n) (hb : ∀ p ∈ l, p.length ≤ big) (hs : s.length ≤ big) : CP (F (n + 6)) 86 [.sl 1 (l.map .str), .fn 87 [.str s] []] (.bool (anyL l s)) := by
  obtain ⟨z, h, hz⟩ := cp127 n l s hl hn hb hs
  simp only [CP] at h
  refine F_cp (rs := [.bool (anyL l s)]) (S := []) (by simp) rfl ?_
  rw [F_fn rfl rfl Tryz.func86 rfl]
  have e : decide (0 ≤ z) = anyL l s := by rw [Bool.eq_iff_iff]; simpa using hz
  simp [runFn, Tryz.f86, h, e]

theorem cp49 [XX] (n : Nat) (l : List Str) (s : Str) (hl : l.length ≤ 1000000000) (hn : l.length < n) (hb : ∀ p ∈ l, p.length ≤ big) (hs : s.length ≤ big) : CP (F (n + 7)) 49 [.sl 1 (l.map .str), .str s] (.bool (anyL l s)) := by
  have h := cp86 n l s hl hn hb hs
  simp only [CP] at h
  refine F_cp (rs := [.bool (anyL l s)]) (S := []) (by simp) rfl ?_
  rw [F_fn rfl rfl Tryz.func49 rfl]
  simp [runFn, Tryz.f49, h]

theorem clos48 [XX] (n : Nat) (a : Str) (keeps : Bool) (pats ws : List Str) (hl : pats.length ≤ 1000000000) (hn : pats.length < n) (hb : ∀ p ∈ pats, p.length ≤ big) (hs : ∀ w ∈ ws, w.length ≤ big) :
    ClosOK (n + 8) [.cells [.str a], .cells [.bool keeps], .acc 1 (pats.map .str)] ws 48 [.box 2 0, .box 1 0] (fun w => (w, anyL pats w == keeps)) := by
  intro w hw
  refine ⟨by simp, fun l => ?_⟩
  have h49 := cp49 n pats w hl hn hb (hs w hw)
  simp only [CP] at h49
  rw [F_fn rfl rfl Tryz.func48 rfl]
  simp [runFn, Tryz.f48, h49]

theorem cp35 [XX] (n : Nat) (s : Str) (hs : s.length ≤ big) : CP (F (n + 1)) 35 [.str s, .str [32, 9]] (.str (trimB s)) := F_ext (g := gTrim) (rs := [.str (trimB s)]) rfl rfl rfl (by simp [gTrim, hs])
theorem cp24 [XX] (n : Nat) (s : Str) (hs : s.length ≤ big) : CP (F (n + 2)) 24 [.str s] (.str (trimB s)) := by
  have h := cp35 n s hs
  simp only [CP] at h
  refine F_cp (rs := [.str (trimB s)]) (S := []) rfl rfl ?_
  rw [F_fn rfl rfl Tryz.func24 rfl]
  simp [runFn, Tryz.f24, h]

/-- A number, and whether it is one. -/
def numP (s : Str) : Nat × Bool := match numL s with | some n => (n, true) | none => (0, false)
theorem cp22 [XX] (n : Nat) (s : Str) (hs : s.length ≤ big) : CP (F (n + 1)) 22 [.str s] (.tup [.int .i64 (numP s).1, .bool (numP s).2]) :=
  F_ext (g := gNumber) (rs := [.int .i64 (numP s).1, .bool (numP s).2]) rfl rfl rfl (by
    have hs' : ¬ big < s.length := by omega
    simp only [gNumber, numP, hs', if_false]; cases numL s <;> rfl)

def numberL (s : Str) (least : Int) : Nat × Bool := ((numP (trimB s)).1, (numP (trimB s)).2 && decide (least ≤ (numP (trimB s)).1))

theorem trimB_len (s : Str) : (trimB s).length ≤ s.length := by
  have h1 := (List.dropWhile_sublist isBl (l := s)).length_le
  have h2 := (List.dropWhile_sublist isBl (l := (s.dropWhile isBl).reverse)).length_le
  simp only [trimB, trimR, List.length_reverse] at h2 ⊢
  omega

theorem cp41 [XX] (n : Nat) (s : Str) (least : Int) (hs : s.length ≤ big) : CP (F (n + 3)) 41 [.str s, .int .i64 least] (.tup [.int .i64 (numberL s least).1, .bool (numberL s least).2]) := by
  have h24 := cp24 n s hs
  have h22 := cp22 (n + 1) (trimB s) (Nat.le_trans (trimB_len s) hs)
  simp only [CP] at h24 h22
  refine F_cp (rs := [.int .i64 (numberL s least).1, .bool (numberL s least).2]) (S := []) rfl rfl ?_
  rw [F_fn rfl rfl Tryz.func41 rfl]
  unfold numberL
  cases hb : (numP (trimB s)).2 with
  | true => simp [runFn, Tryz.f41, h24, h22, hb]
  | false => simp [runFn, Tryz.f41, h24, h22, hb]

end Go.Proofs.YtaignnlnmffiaaaGreatDoor.Ex

/- Functions of one, of two, of three. -/
namespace Go.Proofs.YtaignnlnmffiaaaGreatDoor.Ex
open Go

theorem joinL_len (K : Nat) : ∀ l : List Str, (∀ x ∈ l, x.length ≤ K) → (joinL [32] l).length ≤ l.length * (K + 1)
  | [], _ => by simp [joinL]
  | [x], h => by have := h x (by simp); simp [joinL]; omega
  | x :: y :: r, h => by
    have h1 := h x (by simp)
    have h2 := joinL_len K (y :: r) (fun z hz => h z (by simp [hz]))
    simp only [joinL, List.length_append, List.length_cons, List.length_nil] at h2 ⊢
    rw [Nat.add_mul (r.length + 1) 1]
    omega

theorem wordsGo_mem : ∀ (s cur : Str), ∀ w ∈ wordsGo s cur, w.length ≤ cur.length + s.length
  | [], cur, w, h => by
    simp only [wordsGo] at h
    split at h
    · cases h
    · simp at h; subst h; simp
  | c :: r, cur, w, h => by
    simp only [wordsGo] at h
    split at h
    · split at h
      · have := wordsGo_mem r [] w h; simp at this ⊢; omega
      · rcases List.mem_cons.1 h with rfl | h
        · simp
        · have := wordsGo_mem r [] w h; simp at this ⊢; omega
    · have := wordsGo_mem r (cur ++ [c]) w h; simp at this ⊢; omega
theorem wordsL_mem (s w : Str) (h : w ∈ wordsL s) : w.length ≤ s.length := by have := wordsGo_mem s [] w h; simpa using this

/-- What is told of a text's words. -/
def toldL (g : Str → Str × Bool) (t : Str) : Str := joinL [32] ((wordsL t).flatMap (keepL g))

theorem told_small (g : Str → Str × Bool) (t : Str) (K : Nat) (ht : t.length ≤ 100000) (hK : K ≤ 300000) (h : ∀ w ∈ wordsL t, (g w).1.length ≤ K) : (joinL [32] ((wordsL t).flatMap (keepL g))).length ≤ lim := by
  have h1 := joinL_len K ((wordsL t).flatMap (keepL g)) (fun x hx => by
    obtain ⟨w, hw, hx⟩ := List.mem_flatMap.1 hx
    unfold keepL at hx
    split at hx
    · simp at hx; subst hx; exact h w hw
    · cases hx)
  have h2 := keep_len g (wordsL t)
  have h3 := wordsL_len t
  have h4 : ((wordsL t).flatMap (keepL g)).length * (K + 1) ≤ 100001 * 300001 := Nat.mul_le_mul (by omega) (by omega)
  unfold lim
  omega

theorem partL_len (name w : Str) : (partL name w).length ≤ 2 * w.length + 2 := by
  obtain ⟨l1, l2, l3⟩ := baseL_len w
  unfold partL
  repeat' split
  all_goals first | omega | (simp only [List.length_append]; omega) | (simp; done)

theorem substL_len (p q w : Str) : (substL p q w).length ≤ 2 * q.length + w.length := by
  have h1 := matchL_len p w
  obtain ⟨h2, h3⟩ := cutL_len q
  unfold substL fillL
  repeat' split
  all_goals first | omega | (simp only [List.length_append]; omega)

def gPart (name : Str) (w : Str) : Str × Bool := (partL name w, partL name w != [])
def gSuf (a : Str) (w : Str) : Str × Bool := (w ++ a, true)
def gPre (a : Str) (w : Str) : Str × Bool := (a ++ w, true)
def gFil (pats : List Str) (keeps : Bool) (w : Str) : Str × Bool := (w, anyL pats w == keeps)
def gSub (p q : Str) (w : Str) : Str × Bool := (substL p q w, true)

theorem cp40 [XX] (n : Nat) (t a : Str) (ht : t.length ≤ big) : CP (F (n + 1)) 40 [.str t, .str a] (.bool (hasSub a t)) := F_ext (g := gContains) (rs := [.bool (hasSub a t)]) rfl rfl rfl (by simp [gContains, ht])

theorem spanL_len (ws : List Str) (a b : Int) (K : Nat) (h : ∀ w ∈ ws, w.length ≤ K) : (spanL ws a b).length ≤ ws.length * (K + 1) := by
  have key : ∀ to : Int, (if a < 1 ∨ to < a then [] else joinL [32] ((ws.drop (a - 1).toNat).take (to.toNat - (a - 1).toNat))).length ≤ ws.length * (K + 1) := by
    intro to
    split
    · simp
    · have := joinL_len K ((ws.drop (a - 1).toNat).take (to.toNat - (a - 1).toNat)) (fun x hx => h x (List.mem_of_mem_drop (List.mem_of_mem_take hx)))
      refine Nat.le_trans this (Nat.mul_le_mul_right _ ?_)
      simp only [List.length_take, List.length_drop]
      omega
  exact key _

theorem words_sub_small (t : Str) (ht : t.length ≤ 100000) (i j : Nat) : (joinL [32] (((wordsL t).drop i).take j)).length ≤ lim := by
  have h1 := joinL_len t.length (((wordsL t).drop i).take j) (fun x hx => wordsL_mem t x (List.mem_of_mem_drop (List.mem_of_mem_take hx)))
  have h2 : (((wordsL t).drop i).take j).length ≤ t.length + 1 := by
    have := wordsL_len t
    simp only [List.length_take, List.length_drop]; omega
  have h3 : (((wordsL t).drop i).take j).length * (t.length + 1) ≤ 100001 * 100001 := Nat.mul_le_mul (by omega) (by omega)
  unfold lim
  omega

@[simp] theorem zc4 : zeroCells Tryz.prog 6 4 = some [.bool false] := by simp [zeroCells]

theorem dig_le (c : UInt8) (h : isDig c = true) : c.toNat - 48 ≤ 9 := by
  have h1 := h
  simp only [isDig, Bool.and_eq_true, decide_eq_true_eq] at h1
  have h2 : c.toNat ≤ (57 : UInt8).toNat := UInt8.le_iff_toNat_le.1 h1.2
  have e : (57 : UInt8).toNat = 57 := rfl
  omega
theorem valGo_lt (s : Str) : ∀ (a : Nat), s.all isDig = true → valGo a s < (a + 1) * 10 ^ s.length := by
  induction s with
  | nil =>
    intro a _
    rw [List.length_nil, Nat.pow_zero, Nat.mul_one]
    exact Nat.lt_succ_self a
  | cons c r ih =>
    intro a h
    rw [List.all_cons, Bool.and_eq_true] at h
    have hc := dig_le c h.1
    have h3 := ih (10 * a + (c.toNat - 48)) h.2
    have e0 : valGo a (c :: r) = valGo (10 * a + (c.toNat - 48)) r := rfl
    rw [e0, List.length_cons, Nat.pow_succ]
    generalize 10 ^ r.length = K at h3 ⊢
    generalize valGo (10 * a + (c.toNat - 48)) r = V at h3 ⊢
    have h4 : (10 * a + (c.toNat - 48) + 1) * K ≤ (10 * a + 10) * K := Nat.mul_le_mul_right _ (by omega)
    have e : (a + 1) * (K * 10) = (10 * a + 10) * K := by
      rw [Nat.mul_comm K 10, ← Nat.mul_assoc, Nat.add_mul a 1 10, Nat.mul_comm a 10]
    omega

theorem numP_lt (s : Str) : (numP s).1 < 1000000000 := by
  unfold numP numL
  split
  · rename_i n h
    split at h
    · rename_i hc
      injection h with h; subst h
      have h1 := valGo_lt s 0 hc.2.1
      have h2 : 10 ^ s.length ≤ 1000000000 := Nat.le_trans (Nat.pow_le_pow_right (by omega) hc.1) (by decide)
      rw [Nat.zero_add, Nat.one_mul] at h1
      exact Nat.lt_of_lt_of_le h1 h2
    · cases h
  · simp

theorem numberL_lt (a : Str) (least : Int) : ((numberL a least).1 : Int) < 1000000000000 := by
  have := numP_lt (trimB a)
  simp only [numberL]
  omega

theorem cp47 [XX] (hY : XX.y = some gJoined) (n : Nat) (s t : Str) (hs : s.length ≤ 100000) (ht : t.length ≤ 100000) : CP (F (n + 1)) 47 [.str s, .str t] (.str (joinL [32] (zipAdd (wordsL s) (wordsL t)))) :=
  F_ext (f := 47) (g := gJoined) (rs := [.str (joinL [32] (zipAdd (wordsL s) (wordsL t)))]) hY rfl rfl (by simp [gJoined, hs, ht])

section
variable (m : Nat) (t : Str) (ht : t.length ≤ 100000) (hm : t.length < m)
include ht hm

set_option maxHeartbeats 1000000 in
theorem cp39 [XX] (name : Str) : CP (F (m + 18)) 39 [.str name, .str t] (.tup [.str (toldL (gPart name) t), .bool true]) := by
  have hl := wordsL_len t
  obtain ⟨S', h42⟩ := call42 (n := m + 10) (S0 := [.cells [.str name]]) (ws := wordsL t) (c := 80) (caps := [.box 0 0]) (g := gPart name) (by omega) (by omega)
    (clos80 (m + 7) name _ (fun w hw => by have := wordsL_mem t w hw; omega)) (told_small _ t 200002 ht (by omega) (fun w hw => by have := wordsL_mem t w hw; have := partL_len name w; simp only [gPart]; omega))
  have h44 := call44 (m + 16) t [.cells [.str name]] (by omega) (by omega)
  have p44 := cp44 (m + 16) t (by omega) (by omega)
  have h43 := fun c c' fs cs fs' cs' S => call43 (m + 16) c c' fs cs fs' cs' S
  simp only [List.length_cons, List.length_nil, Nat.reduceAdd, List.cons_append, List.nil_append] at h42 h44
  refine F_cp (rs := [.str (toldL (gPart name) t), .bool true]) (S := S') rfl rfl ?_
  rw [F_fn rfl rfl Tryz.func39 rfl]
  simp [runFn, Tryz.f39, p44, h44, h43, h42, toldL]

/-- A function of two. -/
def twoL (name a t : Str) : Str × Bool :=
  if name = [102, 105, 110, 100, 115, 116, 114, 105, 110, 103] then (if hasSub a t then (a, true) else ([], true))
  else if name = [119, 111, 114, 100] then (spanL (wordsL t) (numberL a 1).1 (numberL a 1).1, (numberL a 1).2)
  else if name = [97, 100, 100, 115, 117, 102, 102, 105, 120] then (toldL (gSuf a) t, true)
  else if name = [97, 100, 100, 112, 114, 101, 102, 105, 120] then (toldL (gPre a) t, true)
  else if name = [106, 111, 105, 110] then (joinL [32] (zipAdd (wordsL a) (wordsL t)), true)
  else (toldL (gFil (wordsL a) (name == [102, 105, 108, 116, 101, 114])) t, true)

theorem cp38 [XX] (a b : Int) (ha : a < 1000000000000) : CP (F (m + 8)) 38 [.str t, .int .i64 a, .int .i64 b] (.str (spanL (wordsL t) a b)) := by
  refine F_cp (rs := [.str (spanL (wordsL t) a b)]) (S := []) rfl rfl ?_
  rw [F_fn rfl rfl Tryz.func38 rfl]
  have h19 := cp19 (m + 7) t (by omega) (by omega)
  exact span_spec' h19 (fun i j => cp21 (m + 5) _ (words_sub_small t ht i j)) t a b ha

set_option maxHeartbeats 4000000 in
theorem cp27 [XX] (hY : XX.y = some gJoined) (name a : Str) (ha : a.length ≤ 100000) (hma : a.length < m) :
    CP (F (m + 18)) 27 [.str name, .str a, .str t] (.tup [.str (twoL name a t).1, .bool (twoL name a t).2]) := by
  have hl := wordsL_len t
  have hla := wordsL_len a
  have h44 := call44 (m + 16) t [.cells [.str a]] (by omega) (by omega)
  have p44 := cp44 (m + 16) t (by omega) (by omega)
  have h43 := fun c c' fs cs fs' cs' S => call43 (m + 16) c c' fs cs fs' cs' S
  simp only [List.length_cons, List.length_nil, Nat.reduceAdd, List.cons_append, List.nil_append] at h44
  unfold twoL
  by_cases a1 : name = [102, 105, 110, 100, 115, 116, 114, 105, 110, 103]
  · subst a1
    have h40 := cp40 (m + 16) t a (by unfold big; omega)
    simp only [CP] at h40
    rw [if_pos rfl]
    cases hs : hasSub a t with
    | true =>
      rw [hs] at h40
      refine F_cp (rs := [.str a, .bool true]) (S := [.cells [.str a]]) rfl rfl ?_
      rw [F_fn rfl rfl Tryz.func27 rfl]
      simp [runFn, Tryz.f27, h40]
    | false =>
      rw [hs] at h40
      refine F_cp (rs := [.str [], .bool true]) (S := [.cells [.str a]]) rfl rfl ?_
      rw [F_fn rfl rfl Tryz.func27 rfl]
      simp [runFn, Tryz.f27, h40]
  rw [if_neg a1]
  by_cases a2 : name = [119, 111, 114, 100]
  · subst a2
    have h41 := cp41 (m + 14) a 1 (by unfold big; omega)
    have h38 := fun x hx => cp38 (m + 9) t ht (by omega) x x hx
    simp only [CP] at h41 h38
    have h38' := h38 _ (numberL_lt a 1)
    refine F_cp (rs := [.str (spanL (wordsL t) (numberL a 1).1 (numberL a 1).1), .bool (numberL a 1).2]) (S := [.cells [.str a]]) rfl rfl ?_
    rw [F_fn rfl rfl Tryz.func27 rfl]
    simp [runFn, Tryz.f27, h41, h38']
  rw [if_neg a2]
  by_cases a3 : name = [97, 100, 100, 115, 117, 102, 102, 105, 120]
  · subst a3
    obtain ⟨S', h42⟩ := call42 (n := m + 10) (S0 := [.cells [.str a]]) (ws := wordsL t) (c := 45) (caps := [.box 0 0]) (g := gSuf a) (by omega) (by omega)
      (clos45 (m + 10) a _ (fun w hw => by have := wordsL_mem t w hw; omega)) (told_small _ t 200002 ht (by omega) (fun w hw => by have := wordsL_mem t w hw; simp [gSuf]; omega))
    simp only [List.length_cons, List.length_nil, Nat.reduceAdd, List.cons_append, List.nil_append] at h42
    refine F_cp (rs := [.str (toldL (gSuf a) t), .bool true]) (S := S') rfl rfl ?_
    rw [F_fn rfl rfl Tryz.func27 rfl]
    simp [runFn, Tryz.f27, p44, h44, h43, h42, toldL]
  rw [if_neg a3]
  by_cases a4 : name = [97, 100, 100, 112, 114, 101, 102, 105, 120]
  · subst a4
    obtain ⟨S', h42⟩ := call42 (n := m + 10) (S0 := [.cells [.str a]]) (ws := wordsL t) (c := 46) (caps := [.box 0 0]) (g := gPre a) (by omega) (by omega)
      (clos46 (m + 10) a _ (fun w hw => by have := wordsL_mem t w hw; omega)) (told_small _ t 200002 ht (by omega) (fun w hw => by have := wordsL_mem t w hw; simp [gPre]; omega))
    simp only [List.length_cons, List.length_nil, Nat.reduceAdd, List.cons_append, List.nil_append] at h42
    refine F_cp (rs := [.str (toldL (gPre a) t), .bool true]) (S := S') rfl rfl ?_
    rw [F_fn rfl rfl Tryz.func27 rfl]
    simp [runFn, Tryz.f27, p44, h44, h43, h42, toldL]
  rw [if_neg a4]
  by_cases hj : name = [106, 111, 105, 110]
  · subst hj
    have h47 := cp47 hY (m + 16) a t ha ht
    simp only [CP] at h47
    rw [if_pos rfl]
    refine F_cp (rs := [.str (joinL [32] (zipAdd (wordsL a) (wordsL t))), .bool true]) (S := [.cells [.str a]]) rfl rfl ?_
    rw [F_fn rfl rfl Tryz.func27 rfl]
    simp [runFn, Tryz.f27, h47]
  rw [if_neg hj]
  have h19 := cp19 (m + 17) a (by omega) (by omega)
  have h44' := call44 (m + 16) t [.cells [.str a], .cells [.bool (name == [102, 105, 108, 116, 101, 114])], .acc 1 ((wordsL a).map .str)] (by omega) (by omega)
  obtain ⟨S', h42⟩ := call42 (n := m + 10) (S0 := [.cells [.str a], .cells [.bool (name == [102, 105, 108, 116, 101, 114])], .acc 1 ((wordsL a).map .str)]) (ws := wordsL t) (c := 48) (caps := [.box 2 0, .box 1 0])
    (g := gFil (wordsL a) (name == [102, 105, 108, 116, 101, 114])) (by omega) (by omega)
    (clos48 (m + 3) a _ (wordsL a) _ (by omega) (by omega) (fun p hp => by have := wordsL_mem a p hp; unfold big; omega) (fun p hp => by have := wordsL_mem t p hp; unfold big; omega)) (told_small _ t 200002 ht (by omega) (fun w hw => by have := wordsL_mem t w hw; simp [gFil]; omega))
  simp only [List.length_cons, List.length_nil, Nat.reduceAdd, List.cons_append, List.nil_append] at h42 h44'
  simp only [CP] at h19
  refine F_cp (rs := [.str (toldL (gFil (wordsL a) (name == [102, 105, 108, 116, 101, 114])) t), .bool true]) (S := S') rfl rfl ?_
  rw [F_fn rfl rfl Tryz.func27 rfl]
  have b1 : (name == [102, 105, 110, 100, 115, 116, 114, 105, 110, 103]) = false := by simp [a1]
  have b2 : (name == [119, 111, 114, 100]) = false := by simp [a2]
  have b3 : (name == [97, 100, 100, 115, 117, 102, 102, 105, 120]) = false := by simp [a3]
  have b4 : (name == [97, 100, 100, 112, 114, 101, 102, 105, 120]) = false := by simp [a4]
  have b5 : (name == [106, 111, 105, 110]) = false := by simp [hj]
  simp [runFn, Tryz.f27, p44, h44', h43, h42, toldL, h19, b1, b2, b3, b4, b5]


end
end Go.Proofs.YtaignnlnmffiaaaGreatDoor.Ex

/- Functions of three, of one; how many arguments each has. -/
namespace Go.Proofs.YtaignnlnmffiaaaGreatDoor.Ex
open Go

/-- A function of three. -/
def threeL (name a b t : Str) : Str × Bool :=
  if name = [115, 117, 98, 115, 116] then (if a = [] then (t, true) else (repL a b t, true))
  else if name = [112, 97, 116, 115, 117, 98, 115, 116] then (toldL (gSub a b) t, true)
  else (spanL (wordsL t) (numberL a 1).1 (numberL b 0).1, (numberL a 1).2 && (numberL b 0).2)

theorem cp50 [XX] (n : Nat) (t a b : Str) (ha : a ≠ []) (ht : t.length ≤ big) (h : (t.length + 1) * (b.length + 1) ≤ lim) : CP (F (n + 1)) 50 [.str t, .str a, .str b] (.str (repL a b t)) :=
  F_ext (g := gReplace) (rs := [.str (repL a b t)]) rfl rfl rfl (by
    have h1 : ¬ (a = [] ∨ big < t.length) := by simp [ha]; omega
    simp [gReplace, h1, h])

set_option maxHeartbeats 4000000 in
theorem cp28 [XX] (m : Nat) (name a b t : Str) (ht : t.length ≤ 100000) (hm : t.length < m) (ha : a.length ≤ 100000) (hb : b.length ≤ 100000) :
    CP (F (m + 18)) 28 [.str name, .str a, .str b, .str t] (.tup [.str (threeL name a b t).1, .bool (threeL name a b t).2]) := by
  have hl := wordsL_len t
  have h44 := call44 (m + 16) t [.cells [.str a], .cells [.str b]] (by omega) (by omega)
  have p44 := cp44 (m + 16) t (by omega) (by omega)
  have h43 := fun c c' fs cs fs' cs' S => call43 (m + 16) c c' fs cs fs' cs' S
  simp only [List.length_cons, List.length_nil, Nat.reduceAdd, List.cons_append, List.nil_append] at h44
  unfold threeL
  by_cases a1 : name = [115, 117, 98, 115, 116]
  · subst a1
    rw [if_pos rfl]
    cases a with
    | nil =>
      refine F_cp (rs := [.str t, .bool true]) (S := [.cells [.str []], .cells [.str b]]) rfl rfl ?_
      rw [F_fn rfl rfl Tryz.func28 rfl]
      simp [runFn, Tryz.f28]
    | cons c r =>
      have h50 := cp50 (m + 16) t (c :: r) b (by simp) (by unfold big; omega) (by
        have : (t.length + 1) * (b.length + 1) ≤ 100001 * 100001 := Nat.mul_le_mul (by omega) (by omega)
        unfold lim; omega)
      simp only [CP] at h50
      refine F_cp (rs := [.str (repL (c :: r) b t), .bool true]) (S := [.cells [.str (c :: r)], .cells [.str b]]) rfl rfl ?_
      rw [F_fn rfl rfl Tryz.func28 rfl]
      simp [runFn, Tryz.f28, h50]
  rw [if_neg a1]
  by_cases a2 : name = [112, 97, 116, 115, 117, 98, 115, 116]
  · subst a2
    obtain ⟨S', h42⟩ := call42 (n := m + 10) (S0 := [.cells [.str a], .cells [.str b]]) (ws := wordsL t) (c := 51) (caps := [.box 0 0, .box 1 0]) (g := gSub a b) (by omega) (by omega)
      (clos51 (m + 6) a b _ (fun w hw => by have := wordsL_mem t w hw; omega) (by unfold big; omega)) (told_small _ t 300000 ht (by omega) (fun w hw => by have := wordsL_mem t w hw; have := substL_len a b w; simp only [gSub]; omega))
    simp only [List.length_cons, List.length_nil, Nat.reduceAdd, List.cons_append, List.nil_append] at h42
    refine F_cp (rs := [.str (toldL (gSub a b) t), .bool true]) (S := S') rfl rfl ?_
    rw [F_fn rfl rfl Tryz.func28 rfl]
    simp [runFn, Tryz.f28, p44, h44, h43, h42, toldL]
  rw [if_neg a2]
  have h41a := cp41 (m + 14) a 1 (by unfold big; omega)
  have h41b := cp41 (m + 14) b 0 (by unfold big; omega)
  have h38 := fun y => cp38 (m + 9) t ht (by omega) (numberL a 1).1 y (numberL_lt a 1)
  simp only [CP] at h41a h41b h38
  have b1 : (name == [115, 117, 98, 115, 116]) = false := by simp [a1]
  have b2 : (name == [112, 97, 116, 115, 117, 98, 115, 116]) = false := by simp [a2]
  refine F_cp (rs := [.str (spanL (wordsL t) (numberL a 1).1 (numberL b 0).1), .bool ((numberL a 1).2 && (numberL b 0).2)]) (S := [.cells [.str a], .cells [.str b]]) rfl rfl ?_
  rw [F_fn rfl rfl Tryz.func28 rfl]
  cases hk : (numberL a 1).2 with
  | false => rw [hk] at h41a; simp [runFn, Tryz.f28, h41a, h41b, h38, b1, b2]
  | true => rw [hk] at h41a; simp [runFn, Tryz.f28, h41a, h41b, h38, b1, b2]

/-- A function of one. -/
def oneL (name t : Str) : Str :=
  if name = [115, 116, 114, 105, 112] then joinL [32] (wordsL t)
  else if name = [115, 111, 114, 116] then joinL [32] (sortU (wordsL t))
  else if name = [119, 111, 114, 100, 115] then decL (wordsL t).length
  else if name = [102, 105, 114, 115, 116, 119, 111, 114, 100] then spanL (wordsL t) 1 1
  else if name = [108, 97, 115, 116, 119, 111, 114, 100] then spanL (wordsL t) (wordsL t).length (wordsL t).length
  else toldL (gPart name) t

theorem cp34 [XX] (n k : Nat) (h : k < lim) : CP (F (n + 1)) 34 [.int .i64 k] (.str (decL k)) :=
  F_ext (g := gItoa) (rs := [.str (decL k)]) rfl rfl rfl (by simp only [gItoa]; rw [if_pos (by omega)]; simp)

section
variable [XX] (hX : ext0 26 = none) (n : Nat) (t : Str) (h19 : CP (F n) 19 [.str t] (.sl 1 ((wordsL t).map .str)))
include hX h19

set_option maxHeartbeats 4000000 in
theorem cp26_strip (h21 : CP (F n) 21 [.sl 1 ((wordsL t).map .str)] (.str (joinL [32] (wordsL t)))) : CP (F (n + 1)) 26 [.str [115, 116, 114, 105, 112], .str t] (.tup [.str (joinL [32] (wordsL t)), .bool true]) := by
  simp only [CP] at h19 h21
  refine F_cp (rs := [.str (joinL [32] (wordsL t)), .bool true]) (S := []) rfl rfl ?_
  rw [F_fn hX rfl Tryz.func26 rfl]
  simp [runFn, Tryz.f26, h19, h21]

set_option maxHeartbeats 4000000 in
theorem cp26_words (h34 : CP (F n) 34 [.int .i64 (wordsL t).length] (.str (decL (wordsL t).length))) : CP (F (n + 1)) 26 [.str [119, 111, 114, 100, 115], .str t] (.tup [.str (decL (wordsL t).length), .bool true]) := by
  simp only [CP] at h19 h34
  refine F_cp (rs := [.str (decL (wordsL t).length), .bool true]) (S := []) rfl rfl ?_
  rw [F_fn hX rfl Tryz.func26 rfl]
  simp [runFn, Tryz.f26, h19, h34]

set_option maxHeartbeats 4000000 in
theorem cp26_first (h38 : CP (F n) 38 [.str t, .int .i64 1, .int .i64 1] (.str (spanL (wordsL t) 1 1))) : CP (F (n + 1)) 26 [.str [102, 105, 114, 115, 116, 119, 111, 114, 100], .str t] (.tup [.str (spanL (wordsL t) 1 1), .bool true]) := by
  simp only [CP] at h19 h38
  refine F_cp (rs := [.str (spanL (wordsL t) 1 1), .bool true]) (S := []) rfl rfl ?_
  rw [F_fn hX rfl Tryz.func26 rfl]
  simp [runFn, Tryz.f26, h19, h38]

set_option maxHeartbeats 4000000 in
theorem cp26_last (h38 : CP (F n) 38 [.str t, .int .i64 (wordsL t).length, .int .i64 (wordsL t).length] (.str (spanL (wordsL t) (wordsL t).length (wordsL t).length))) : CP (F (n + 1)) 26 [.str [108, 97, 115, 116, 119, 111, 114, 100], .str t] (.tup [.str (spanL (wordsL t) (wordsL t).length (wordsL t).length), .bool true]) := by
  simp only [CP] at h19 h38
  refine F_cp (rs := [.str (spanL (wordsL t) (wordsL t).length (wordsL t).length), .bool true]) (S := []) rfl rfl ?_
  rw [F_fn hX rfl Tryz.func26 rfl]
  simp [runFn, Tryz.f26, h19, h38]

set_option maxHeartbeats 4000000 in
theorem cp26_part (name : Str) (b0 : (name == [115, 111, 114, 116]) = false) (b1 : (name == [115, 116, 114, 105, 112]) = false) (b3 : (name == [119, 111, 114, 100, 115]) = false) (b4 : (name == [102, 105, 114, 115, 116, 119, 111, 114, 100]) = false)
    (b5 : (name == [108, 97, 115, 116, 119, 111, 114, 100]) = false) (h39 : CP (F n) 39 [.str name, .str t] (.tup [.str (toldL (gPart name) t), .bool true])) : CP (F (n + 1)) 26 [.str name, .str t] (.tup [.str (toldL (gPart name) t), .bool true]) := by
  simp only [CP] at h19 h39
  refine F_cp (rs := [.str (toldL (gPart name) t), .bool true]) (S := []) rfl rfl ?_
  rw [F_fn hX rfl Tryz.func26 rfl]
  simp [runFn, Tryz.f26, h19, h39, b0, b1, b3, b4, b5]
end

theorem cp26 [XX] (hX : ext0 26 = none) (m : Nat) (t : Str) (ht : t.length ≤ 100000) (hm : t.length < m) (name : Str) (hs : name ≠ [115, 111, 114, 116]) : CP (F (m + 19)) 26 [.str name, .str t] (.tup [.str (oneL name t), .bool true]) := by
  have hl := wordsL_len t
  have h19 := cp19 (m + 18) t (by omega) (by omega)
  have hlen := (by unfold lim; omega : (wordsL t).length < lim)
  have h21 := cp21 (m + 16) (wordsL t) (by have := words_sub_small t ht 0 (wordsL t).length; simpa using this)
  have h34 := cp34 (m + 17) (wordsL t).length hlen
  have h38a := cp38 (m + 10) t ht (by omega) 1 1 (by omega)
  have h38b := cp38 (m + 10) t ht (by omega) (wordsL t).length (wordsL t).length (by omega)
  have h39 := cp39 m t ht hm name
  generalize hn : m + 18 = n at *
  have e1 : m + 16 + 2 = n := by omega
  have e2 : m + 17 + 1 = n := by omega
  have e3 : m + 10 + 8 = n := by omega
  have e4 : m + 19 = n + 1 := by omega
  rw [e4]
  clear hn e1 e2 e3 e4 hlen hl
  unfold oneL
  by_cases a1 : name = [115, 116, 114, 105, 112]
  · subst a1; rw [if_pos rfl]; exact cp26_strip hX n t h19 h21
  rw [if_neg a1, if_neg hs]
  by_cases a3 : name = [119, 111, 114, 100, 115]
  · subst a3; rw [if_pos rfl]; exact cp26_words hX n t h19 h34
  rw [if_neg a3]
  by_cases a4 : name = [102, 105, 114, 115, 116, 119, 111, 114, 100]
  · subst a4; rw [if_pos rfl]; exact cp26_first hX n t h19 h38a
  rw [if_neg a4]
  by_cases a5 : name = [108, 97, 115, 116, 119, 111, 114, 100]
  · subst a5; rw [if_pos rfl]; exact cp26_last hX n t h19 h38b
  rw [if_neg a5]
  exact cp26_part hX n t h19 name (by simp [hs]) (by simp [a1]) (by simp [a3]) (by simp [a4]) (by simp [a5]) h39

end Go.Proofs.YtaignnlnmffiaaaGreatDoor.Ex

/- What a call answers, and laws on it. -/
namespace Go.Proofs.YtaignnlnmffiaaaGreatDoor.Ex
open Go

def ones : List Str := [[115, 116, 114, 105, 112], [115, 111, 114, 116], [119, 111, 114, 100, 115], [102, 105, 114, 115, 116, 119, 111, 114, 100], [108, 97, 115, 116, 119, 111, 114, 100], [100, 105, 114], [110, 111, 116, 100, 105, 114], [115, 117, 102, 102, 105, 120], [98, 97, 115, 101, 110, 97, 109, 101]]
def twos : List Str := [[102, 105, 110, 100, 115, 116, 114, 105, 110, 103], [102, 105, 108, 116, 101, 114], [102, 105, 108, 116, 101, 114, 45, 111, 117, 116], [119, 111, 114, 100], [97, 100, 100, 115, 117, 102, 102, 105, 120], [97, 100, 100, 112, 114, 101, 102, 105, 120], [106, 111, 105, 110]]
def threes : List Str := [[115, 117, 98, 115, 116], [112, 97, 116, 115, 117, 98, 115, 116], [119, 111, 114, 100, 108, 105, 115, 116]]
def manyL (name : Str) : Nat := if ones.contains name then 1 else if twos.contains name then 2 else if threes.contains name then 3 else 0

def ansL (name : Str) : List Str → Str × Bool
  | [t] => (oneL name t, true)
  | [a, t] => twoL name a t
  | [a, b, t] => threeL name a b t
  | _ => ([], true)

/-- The answer and the error. -/
def callL (name : Str) (args : List Str) : Str × Nat :=
  if manyL name = 0 then ([], 4) else if args.length ≠ manyL name then ([], 1)
  else if (ansL name args).2 = false then ([], 1) else if 4000 < (ansL name args).1.length then ([], 3) else ((ansL name args).1, 0)
def ofL (name : Str) (args : List Str) : Str := (callL name args).1

theorem ofL_ans {name : Str} {args : List Str} (h0 : manyL name ≠ 0) (h1 : args.length = manyL name) (h2 : (ansL name args).2 = true) (h3 : (ansL name args).1.length ≤ 4000) :
    callL name args = ((ansL name args).1, 0) := by
  have : ¬ 4000 < (ansL name args).1.length := by omega
  simp [callL, h0, h1, h2, this]

theorem told_eq (g : Str → Str × Bool) (t : Str) : toldL g t = joinL [32] ((wordsL t).flatMap (keepL g)) := rfl

theorem keep_sum (g : Str → Str × Bool) (K : Nat) : ∀ l : List Str, (∀ w ∈ l, (g w).1.length ≤ w.length + K) → sumLen (l.flatMap (keepL g)) + (l.flatMap (keepL g)).length ≤ sumLen l + l.length + K * l.length
  | [], _ => by simp [sumLen]
  | x :: r, h => by
    have ih := keep_sum g K r (fun w hw => h w (by simp [hw]))
    have hx := h x (by simp)
    rw [List.flatMap_cons, sumLen_append, List.length_append]
    simp only [sumLen, List.length_cons, Nat.mul_add, Nat.mul_one]
    unfold keepL
    split
    · simp only [sumLen, List.length_cons, List.length_nil]
      unfold keepL at ih; omega
    · simp only [sumLen, List.length_nil]
      unfold keepL at ih; omega

theorem told_len (g : Str → Str × Bool) (t : Str) (K : Nat) (h : ∀ w ∈ wordsL t, (g w).1.length ≤ w.length + K) : (toldL g t).length ≤ t.length + K * (wordsL t).length := by
  have h1 := keep_sum g K (wordsL t) h
  have h2 := wordsL_sum t
  rw [told_eq]
  rcases join_length ((wordsL t).flatMap (keepL g)) with h3 | h3
  · omega
  · rw [h3]; simp [joinL]

theorem keep_all (g : Str → Str × Bool) (h : ∀ w, (g w).2 = true) (l : List Str) : l.flatMap (keepL g) = l.map fun w => (g w).1 := by
  induction l with
  | nil => rfl
  | cons x r ih => rw [List.flatMap_cons, ih]; simp [keepL, h x]
theorem keep_filter (f : Str → Bool) (l : List Str) : l.flatMap (keepL fun w => (w, f w)) = l.filter f := by
  induction l with
  | nil => rfl
  | cons x r ih =>
    rw [List.flatMap_cons, ih, List.filter_cons]
    cases h : f x <;> simp [keepL, h]

theorem sumLen_sub {l m : List Str} (h : List.Sublist l m) : sumLen l + l.length ≤ sumLen m + m.length := by
  induction h with
  | slnil => exact Nat.le_refl _
  | cons a _ ih => simp [sumLen]; omega
  | cons_cons a _ ih => simp [sumLen]; omega

theorem join_sublist_len {l : List Str} (t : Str) (h : List.Sublist l (wordsL t)) : (joinL [32] l).length ≤ t.length := join_sub_len (sumLen_sub h) t (wordsL_sum t)

theorem spanL_words_len (t : Str) (a b : Int) : (spanL (wordsL t) a b).length ≤ t.length := by
  unfold spanL
  simp only
  generalize (if ((wordsL t).length : Int) < b then ((wordsL t).length : Int) else b) = to
  split
  · simp
  · exact join_sublist_len t ((List.take_sublist _ _).trans (List.drop_sublist _ _))

/-- One word's text is cut into that word. -/
theorem words_one {w : Str} (h : okW w = true) : wordsL w = [w] := by
  have := words_join [w] (by simpa using h)
  simpa [joinL] using this

theorem told_one (g : Str → Str × Bool) {w : Str} (h : okW w = true) : toldL g w = if (g w).2 then (g w).1 else [] := by
  rw [told_eq, words_one h]
  simp only [List.flatMap_cons, List.flatMap_nil, List.append_nil, keepL]
  split <;> simp [joinL]

/-! ### Sorted -/
theorem of_sort (t : Str) (h : t.length ≤ 1000) : ofL [115, 111, 114, 116] [t] = joinL [32] (sortU (wordsL t)) := by
  have hl := sort_len t
  have e : ansL [115, 111, 114, 116] [t] = (joinL [32] (sortU (wordsL t)), true) := by simp [ansL, oneL]
  rw [ofL, ofL_ans (by decide) rfl (by rw [e]) (by rw [e]; show (joinL [32] (sortU (wordsL t))).length ≤ 4000; omega), e]

theorem words_sort (t : Str) : wordsL (joinL [32] (sortU (wordsL t))) = sortU (wordsL t) :=
  words_join _ fun w hw => wordsL_okW t w ((sortU_mem _ _).1 hw)

end Go.Proofs.YtaignnlnmffiaaaGreatDoor.Ex

/- Laws on what a call answers. -/
namespace Go.Proofs.YtaignnlnmffiaaaGreatDoor.Ex
open Go

theorem of_eq {name : Str} {args : List Str} {r : Str} (h0 : manyL name ≠ 0) (h1 : args.length = manyL name) (h2 : ansL name args = (r, true)) (h3 : r.length ≤ 4000) : ofL name args = r := by
  rw [ofL, ofL_ans h0 h1 (by rw [h2]) (by rw [h2]; exact h3), h2]

/-! ### Filters -/
theorem fil_eq (ps : List Str) (k : Bool) (t : Str) : toldL (gFil ps k) t = joinL [32] ((wordsL t).filter fun w => anyL ps w == k) := by
  rw [told_eq]
  show joinL [32] ((wordsL t).flatMap (keepL fun w => (w, anyL ps w == k))) = _
  rw [keep_filter]
theorem fil_len (ps : List Str) (k : Bool) (t : Str) : (toldL (gFil ps k) t).length ≤ t.length := by
  rw [fil_eq]; exact join_sublist_len t List.filter_sublist
theorem words_fil (ps : List Str) (k : Bool) (t : Str) : wordsL (toldL (gFil ps k) t) = (wordsL t).filter fun w => anyL ps w == k := by
  rw [fil_eq]; exact words_join _ fun w hw => wordsL_okW t w (List.mem_filter.1 hw).1
theorem of_filter (p t : Str) (h : t.length ≤ 4000) : ofL [102, 105, 108, 116, 101, 114] [p, t] = toldL (gFil (wordsL p) true) t :=
  of_eq (by decide) rfl (by simp [ansL, twoL]) (Nat.le_trans (fil_len _ _ _) h)
theorem of_filterOut (p t : Str) (h : t.length ≤ 4000) : ofL [102, 105, 108, 116, 101, 114, 45, 111, 117, 116] [p, t] = toldL (gFil (wordsL p) false) t :=
  of_eq (by decide) rfl (by simp [ansL, twoL]) (Nat.le_trans (fil_len _ _ _) h)
theorem fil_one (ps : List Str) (k : Bool) {w : Str} (h : okW w = true) : toldL (gFil ps k) w = if (anyL ps w == k) = true then w else [] := told_one _ h
theorem of_filter_one (p : Str) {w : Str} (h : okW w = true) (hl : w.length ≤ 4000) : ofL [102, 105, 108, 116, 101, 114] [p, w] = if anyL (wordsL p) w = true then w else [] := by
  rw [of_filter p w hl, fil_one _ _ h]; simp

/-! ### Pieces -/
theorem baseL_join (w : Str) : (baseL w).1 ++ ((baseL w).2.1 ++ (baseL w).2.2) = w := by
  unfold baseL
  split
  · simp
  · rw [List.take_append_drop, List.take_append_drop]
theorem of_part (name : Str) {w : Str} (hm : manyL name = 1) (ho : oneL name w = toldL (gPart name) w) (h : okW w = true) (hl : w.length ≤ 1000) : ofL name [w] = partL name w := by
  have e : toldL (gPart name) w = partL name w := by
    rw [told_one _ h]
    show (if (partL name w != []) = true then partL name w else []) = partL name w
    by_cases hp : partL name w = []
    · rw [hp]; rfl
    · rw [if_pos (by simpa using hp)]
  refine of_eq (by omega) hm.symm (r := partL name w) ?_ ?_
  · simp only [ansL, ho, e]
  · have l := partL_len name w; omega
theorem of_dir {w : Str} (h : okW w = true) (hl : w.length ≤ 1000) : ofL [100, 105, 114] [w] = if (baseL w).1 = [] then [46, 47] else (baseL w).1 := by
  rw [of_part _ (by decide) (by simp [oneL]) h hl]; simp [partL]
theorem of_notdir {w : Str} (h : okW w = true) (hl : w.length ≤ 1000) : ofL [110, 111, 116, 100, 105, 114] [w] = (baseL w).2.1 ++ (baseL w).2.2 := by
  rw [of_part _ (by decide) (by simp [oneL]) h hl]; simp [partL]
theorem of_suffix {w : Str} (h : okW w = true) (hl : w.length ≤ 1000) : ofL [115, 117, 102, 102, 105, 120] [w] = (baseL w).2.2 := by
  rw [of_part _ (by decide) (by simp [oneL]) h hl]; simp [partL]
theorem of_basename {w : Str} (h : okW w = true) (hl : w.length ≤ 1000) : ofL [98, 97, 115, 101, 110, 97, 109, 101] [w] = (baseL w).1 ++ (baseL w).2.1 := by
  rw [of_part _ (by decide) (by simp [oneL]) h hl]; simp [partL]

/-! ### Counts -/
theorem isDig_nbl {c : UInt8} (h : isDig c = true) : isBl c = false := by
  obtain ⟨h1, h2⟩ := isDig_toNat h
  simp only [isBl, Bool.or_eq_false_iff, beq_eq_false_iff_ne, ne_eq]
  constructor <;> (intro e; subst e; simp at h1)
theorem dropWhile_id {s : Str} (h : ∀ c ∈ s, isBl c = false) : s.dropWhile isBl = s := by
  cases s with
  | nil => rfl
  | cons c r => simp [h c (by simp)]
theorem trimB_id {s : Str} (h : ∀ c ∈ s, isBl c = false) : trimB s = s := by
  rw [trimB, dropWhile_id h, trimR, dropWhile_id (fun c hc => h c (by simpa using hc)), List.reverse_reverse]
theorem trim_dec (n : Nat) : trimB (decL n) = decL n :=
  trimB_id fun c hc => isDig_nbl (List.all_eq_true.1 (decL_dig n) c hc)
theorem number_dec {n : Nat} (h : n < 1000000000) (least : Int) : numberL (decL n) least = (n, decide (least ≤ n)) := by
  simp [numberL, trim_dec, numP, num_dec h]

theorem spanL_at (ws : List Str) (i : Nat) (h : i < ws.length) : spanL ws ((i + 1 : Nat) : Int) ((i + 1 : Nat) : Int) = ws[i] := by
  have h1 : ¬ ((ws.length : Int) < ((i + 1 : Nat) : Int)) := by omega
  have h2 : ¬ (((i + 1 : Nat) : Int) < 1 ∨ ((i + 1 : Nat) : Int) < ((i + 1 : Nat) : Int)) := by omega
  simp only [spanL, h1, if_false, h2]
  have e1 : (((i + 1 : Nat) : Int) - 1).toNat = i := by omega
  have e2 : (((i + 1 : Nat) : Int)).toNat = i + 1 := by omega
  rw [e1, e2, show i + 1 - i = 1 by omega, List.drop_eq_getElem_cons h]
  rfl
theorem spanL_past (ws : List Str) : spanL ws ((ws.length + 1 : Nat) : Int) ((ws.length + 1 : Nat) : Int) = [] := by
  have h1 : (ws.length : Int) < ((ws.length + 1 : Nat) : Int) := by omega
  simp only [spanL, if_pos h1]
  rw [if_pos (.inr h1)]
theorem spanL_take (ws : List Str) (k : Nat) (h : k ≤ ws.length) : spanL ws 1 (k : Int) = joinL [32] (ws.take k) := by
  have h1 : ¬ ((ws.length : Int) < (k : Int)) := by omega
  simp only [spanL, h1, if_false]
  cases k with
  | zero => rw [if_pos (.inr (by decide))]; rfl
  | succ k =>
    have h2 : ¬ ((1 : Int) < 1 ∨ ((k + 1 : Nat) : Int) < 1) := by omega
    rw [if_neg h2]
    simp
theorem spanL_drop (ws : List Str) (k : Nat) (h : k ≤ ws.length) : spanL ws ((k + 1 : Nat) : Int) (ws.length : Int) = joinL [32] (ws.drop k) := by
  have h1 : ¬ ((ws.length : Int) < (ws.length : Int)) := by omega
  simp only [spanL, h1, if_false]
  by_cases hk : k = ws.length
  · subst hk
    have h2 : (((ws.length + 1 : Nat) : Int) < 1 ∨ (ws.length : Int) < ((ws.length + 1 : Nat) : Int)) := by omega
    rw [if_pos h2]; simp [joinL]
  · have h2 : ¬ (((k + 1 : Nat) : Int) < 1 ∨ (ws.length : Int) < ((k + 1 : Nat) : Int)) := by omega
    rw [if_neg h2]
    have e1 : (((k + 1 : Nat) : Int) - 1).toNat = k := by omega
    rw [e1, List.take_of_length_le (by simp)]
theorem spanL_last (ws : List Str) : spanL ws (ws.length : Int) (ws.length : Int) = if h : ws = [] then [] else ws[ws.length - 1]'(by have := List.length_pos_iff.2 h; omega) := by
  split
  · rename_i h; subst h; simp [spanL]
  · rename_i h
    have hp := List.length_pos_iff.2 h
    have := spanL_at ws (ws.length - 1) (by omega)
    rw [show ws.length - 1 + 1 = ws.length by omega] at this
    exact this
theorem spanL_first (ws : List Str) : spanL ws 1 1 = ws.head?.getD [] := by
  cases ws with
  | nil => simp [spanL]
  | cons x r =>
    have := spanL_at (x :: r) 0 (by simp)
    simpa using this

theorem of_words (t : Str) (h : t.length ≤ 100000) : ofL [119, 111, 114, 100, 115] [t] = decL (wordsL t).length := by
  refine of_eq (by decide) rfl (by simp [ansL, oneL]) ?_
  have h1 := wordsL_len t
  have := decL_len 8 (wordsL t).length (by simp; omega)
  omega
theorem of_word (t : Str) (n : Nat) (h : t.length ≤ 4000) (h1 : 1 ≤ n) (hn : n < 1000000000) : ofL [119, 111, 114, 100] [decL n, t] = spanL (wordsL t) n n := by
  have hd : decide ((1 : Int) ≤ n) = true := by simpa using (by omega : (1 : Int) ≤ n)
  refine of_eq (by decide) rfl ?_ (Nat.le_trans (spanL_words_len t _ _) h)
  simp only [ansL, twoL, number_dec hn, hd]
  simp
theorem of_wordlist (t : Str) (n m : Nat) (h : t.length ≤ 4000) (h1 : 1 ≤ n) (hn : n < 1000000000) (hm : m < 1000000000) : ofL [119, 111, 114, 100, 108, 105, 115, 116] [decL n, decL m, t] = spanL (wordsL t) n m := by
  have hd : decide ((1 : Int) ≤ n) = true := by simpa using (by omega : (1 : Int) ≤ n)
  have hd2 : decide ((0 : Int) ≤ m) = true := by simp
  refine of_eq (by decide) rfl ?_ (Nat.le_trans (spanL_words_len t _ _) h)
  simp only [ansL, threeL, number_dec hn, number_dec hm, hd, hd2]
  simp
theorem of_firstword (t : Str) (h : t.length ≤ 4000) : ofL [102, 105, 114, 115, 116, 119, 111, 114, 100] [t] = spanL (wordsL t) 1 1 :=
  of_eq (by decide) rfl (by simp [ansL, oneL]) (Nat.le_trans (spanL_words_len t _ _) h)
theorem of_lastword (t : Str) (h : t.length ≤ 4000) : ofL [108, 97, 115, 116, 119, 111, 114, 100] [t] = spanL (wordsL t) (wordsL t).length (wordsL t).length :=
  of_eq (by decide) rfl (by simp [ansL, oneL]) (Nat.le_trans (spanL_words_len t _ _) h)
theorem of_strip (t : Str) (h : t.length ≤ 4000) : ofL [115, 116, 114, 105, 112] [t] = joinL [32] (wordsL t) :=
  of_eq (by decide) rfl (by simp [ansL, oneL]) (Nat.le_trans (join_words_len t) h)
theorem words_take (t : Str) (k : Nat) : wordsL (joinL [32] ((wordsL t).take k)) = (wordsL t).take k := words_join _ fun w hw => wordsL_okW t w (List.mem_of_mem_take hw)
theorem words_drop (t : Str) (k : Nat) : wordsL (joinL [32] ((wordsL t).drop k)) = (wordsL t).drop k := words_join _ fun w hw => wordsL_okW t w (List.mem_of_mem_drop hw)

/-! ### Joins -/
theorem okW_app {a w : Str} (h1 : okW a = true) (h2 : okW w = true) : okW (a ++ w) = true := by
  obtain ⟨g1, g2⟩ := okW_iff.1 h1
  obtain ⟨g3, g4⟩ := okW_iff.1 h2
  refine okW_iff.2 ⟨by simp [g1], fun c hc => ?_⟩
  rcases List.mem_append.1 hc with h | h
  · exact g2 c h
  · exact g4 c h
theorem of_addprefix (a t : Str) (h : (a.length + 1) * (wordsL t).length + t.length ≤ 4000) : ofL [97, 100, 100, 112, 114, 101, 102, 105, 120] [a, t] = joinL [32] ((wordsL t).map (a ++ ·)) := by
  have e : toldL (gPre a) t = joinL [32] ((wordsL t).map (a ++ ·)) := by rw [told_eq, keep_all _ (fun _ => rfl)]; rfl
  rw [← e]
  refine of_eq (by decide) rfl (by simp [ansL, twoL]) ?_
  have := told_len (gPre a) t a.length (fun w _ => by simp [gPre]; omega)
  rw [Nat.add_mul] at h; omega
theorem of_addsuffix (a t : Str) (h : (a.length + 1) * (wordsL t).length + t.length ≤ 4000) : ofL [97, 100, 100, 115, 117, 102, 102, 105, 120] [a, t] = joinL [32] ((wordsL t).map (· ++ a)) := by
  have e : toldL (gSuf a) t = joinL [32] ((wordsL t).map (· ++ a)) := by rw [told_eq, keep_all _ (fun _ => rfl)]; rfl
  rw [← e]
  refine of_eq (by decide) rfl (by simp [ansL, twoL]) ?_
  have := told_len (gSuf a) t a.length (fun w _ => by simp [gSuf])
  rw [Nat.add_mul] at h; omega
theorem zip_self : ∀ l : List Str, zipAdd l l = l.map fun w => w ++ w
  | [] => rfl
  | x :: r => by simp [zipAdd, zip_self r]
theorem zip_sum : ∀ a b : List Str, sumLen (zipAdd a b) + (zipAdd a b).length ≤ sumLen a + a.length + sumLen b + b.length
  | [], [] => by simp [zipAdd, sumLen]
  | x :: a, [] => by simp [zipAdd, sumLen]
  | [], y :: b => by simp [zipAdd, sumLen]
  | x :: a, y :: b => by
    have := zip_sum a b
    simp only [zipAdd, sumLen, List.length_append, List.length_cons]
    omega
theorem of_join (a t : Str) (h : a.length + t.length ≤ 3000) : ofL [106, 111, 105, 110] [a, t] = joinL [32] (zipAdd (wordsL a) (wordsL t)) := by
  refine of_eq (by decide) rfl (by simp [ansL, twoL]) ?_
  have h1 := zip_sum (wordsL a) (wordsL t)
  have h2 := wordsL_sum a
  have h3 := wordsL_sum t
  have h4 := join_length_le (zipAdd (wordsL a) (wordsL t))
  omega
theorem of_subst (a b t : Str) (ha : a ≠ []) (h : (repL a b t).length ≤ 4000) : ofL [115, 117, 98, 115, 116] [a, b, t] = repL a b t :=
  of_eq (by decide) rfl (by simp [ansL, threeL, ha]) h
theorem of_subst_nil (b t : Str) (h : t.length ≤ 4000) : ofL [115, 117, 98, 115, 116] [[], b, t] = t :=
  of_eq (by decide) rfl (by simp [ansL, threeL]) h
theorem of_subst_long (a b t : Str) (ha : a ≠ []) (h : 4000 < (repL a b t).length) : ofL [115, 117, 98, 115, 116] [a, b, t] = [] := by
  have e : ansL [115, 117, 98, 115, 116] [a, b, t] = (repL a b t, true) := by simp [ansL, threeL, ha]
  have e1 : ¬ manyL [115, 117, 98, 115, 116] = 0 := by decide
  have e2 : ¬ ([a, b, t].length ≠ manyL [115, 117, 98, 115, 116]) := by
    show ¬ (3 ≠ manyL [115, 117, 98, 115, 116]); decide
  rw [ofL, callL, if_neg e1, if_neg e2, e]
  simp [h]
theorem of_findstring (a t : Str) (h : a.length ≤ 4000) : ofL [102, 105, 110, 100, 115, 116, 114, 105, 110, 103] [a, t] = if hasSub a t = true then a else [] := by
  cases hs : hasSub a t with
  | true => exact of_eq (by decide) rfl (by simp [ansL, twoL, hs]) h
  | false => exact of_eq (by decide) rfl (by simp [ansL, twoL, hs]) (by simp)

/-! ### Patterns, word by word -/
theorem substL_len2 (p q w : Str) : (substL p q w).length ≤ w.length + q.length := by
  have h1 := matchL_len p w
  unfold substL fillL
  split
  · split
    · rename_i ho
      have hc : (cutL q).1.length + (cutL q).2.1.length ≤ q.length := by
        unfold cutL; split <;> simp; omega
      simp only [List.length_append]; omega
    · omega
  · omega
theorem of_patsubst (p q t : Str) (h : t.length + q.length * (wordsL t).length ≤ 4000) : ofL [112, 97, 116, 115, 117, 98, 115, 116] [p, q, t] = joinL [32] ((wordsL t).map (substL p q)) := by
  have e : toldL (gSub p q) t = joinL [32] ((wordsL t).map (substL p q)) := by rw [told_eq, keep_all _ (fun _ => rfl)]; rfl
  rw [← e]
  refine of_eq (by decide) rfl (by simp [ansL, threeL]) ?_
  have := told_len (gSub p q) t q.length (fun w _ => substL_len2 p q w)
  omega
theorem of_patsubst_one (p q : Str) {w : Str} (hw : okW w = true) (h : w.length + q.length ≤ 4000) : ofL [112, 97, 116, 115, 117, 98, 115, 116] [p, q, w] = substL p q w := by
  rw [of_patsubst p q w (by rw [words_one hw]; simpa using h), words_one hw]
  simp [joinL]
theorem of_patsubst_ans (p q t : Str) : ofL [112, 97, 116, 115, 117, 98, 115, 116] [p, q, t] = if 4000 < (joinL [32] ((wordsL t).map (substL p q))).length then [] else joinL [32] ((wordsL t).map (substL p q)) := by
  have e : ansL [112, 97, 116, 115, 117, 98, 115, 116] [p, q, t] = (joinL [32] ((wordsL t).map (substL p q)), true) := by
    have : toldL (gSub p q) t = joinL [32] ((wordsL t).map (substL p q)) := by rw [told_eq, keep_all _ (fun _ => rfl)]; rfl
    simp [ansL, threeL, this]
  have e1 : ¬ manyL [112, 97, 116, 115, 117, 98, 115, 116] = 0 := by decide
  have e2 : ¬ ([p, q, t].length ≠ manyL [112, 97, 116, 115, 117, 98, 115, 116]) := by
    show ¬ (3 ≠ manyL [112, 97, 116, 115, 117, 98, 115, 116]); decide
  rw [ofL, callL, if_neg e1, if_neg e2, e]
  simp only [Bool.true_eq_false, if_false]
  split <;> rfl

end Go.Proofs.YtaignnlnmffiaaaGreatDoor.Ex

/- How many arguments; the call. -/
namespace Go.Proofs.YtaignnlnmffiaaaGreatDoor.Ex
open Go

theorem cp16 [XX] (n : Nat) (name : Str) : CP (F (n + 1)) 16 [.str name] (.int .i64 (manyL name)) := by
  by_cases a0 : name = [115, 116, 114, 105, 112]
  · subst a0
    rw [show manyL [115, 116, 114, 105, 112] = 1 by decide]
    refine F_cp (rs := [.int .i64 1]) (S := []) rfl rfl ?_
    rw [F_fn rfl rfl Tryz.func16 rfl]
    simp [runFn, Tryz.f16]
  by_cases a1 : name = [115, 111, 114, 116]
  · subst a1
    rw [show manyL [115, 111, 114, 116] = 1 by decide]
    refine F_cp (rs := [.int .i64 1]) (S := []) rfl rfl ?_
    rw [F_fn rfl rfl Tryz.func16 rfl]
    simp [runFn, Tryz.f16]
  by_cases a2 : name = [119, 111, 114, 100, 115]
  · subst a2
    rw [show manyL [119, 111, 114, 100, 115] = 1 by decide]
    refine F_cp (rs := [.int .i64 1]) (S := []) rfl rfl ?_
    rw [F_fn rfl rfl Tryz.func16 rfl]
    simp [runFn, Tryz.f16]
  by_cases a3 : name = [102, 105, 114, 115, 116, 119, 111, 114, 100]
  · subst a3
    rw [show manyL [102, 105, 114, 115, 116, 119, 111, 114, 100] = 1 by decide]
    refine F_cp (rs := [.int .i64 1]) (S := []) rfl rfl ?_
    rw [F_fn rfl rfl Tryz.func16 rfl]
    simp [runFn, Tryz.f16]
  by_cases a4 : name = [108, 97, 115, 116, 119, 111, 114, 100]
  · subst a4
    rw [show manyL [108, 97, 115, 116, 119, 111, 114, 100] = 1 by decide]
    refine F_cp (rs := [.int .i64 1]) (S := []) rfl rfl ?_
    rw [F_fn rfl rfl Tryz.func16 rfl]
    simp [runFn, Tryz.f16]
  by_cases a5 : name = [100, 105, 114]
  · subst a5
    rw [show manyL [100, 105, 114] = 1 by decide]
    refine F_cp (rs := [.int .i64 1]) (S := []) rfl rfl ?_
    rw [F_fn rfl rfl Tryz.func16 rfl]
    simp [runFn, Tryz.f16]
  by_cases a6 : name = [110, 111, 116, 100, 105, 114]
  · subst a6
    rw [show manyL [110, 111, 116, 100, 105, 114] = 1 by decide]
    refine F_cp (rs := [.int .i64 1]) (S := []) rfl rfl ?_
    rw [F_fn rfl rfl Tryz.func16 rfl]
    simp [runFn, Tryz.f16]
  by_cases a7 : name = [115, 117, 102, 102, 105, 120]
  · subst a7
    rw [show manyL [115, 117, 102, 102, 105, 120] = 1 by decide]
    refine F_cp (rs := [.int .i64 1]) (S := []) rfl rfl ?_
    rw [F_fn rfl rfl Tryz.func16 rfl]
    simp [runFn, Tryz.f16]
  by_cases a8 : name = [98, 97, 115, 101, 110, 97, 109, 101]
  · subst a8
    rw [show manyL [98, 97, 115, 101, 110, 97, 109, 101] = 1 by decide]
    refine F_cp (rs := [.int .i64 1]) (S := []) rfl rfl ?_
    rw [F_fn rfl rfl Tryz.func16 rfl]
    simp [runFn, Tryz.f16]
  by_cases a9 : name = [102, 105, 110, 100, 115, 116, 114, 105, 110, 103]
  · subst a9
    rw [show manyL [102, 105, 110, 100, 115, 116, 114, 105, 110, 103] = 2 by decide]
    refine F_cp (rs := [.int .i64 2]) (S := []) rfl rfl ?_
    rw [F_fn rfl rfl Tryz.func16 rfl]
    simp [runFn, Tryz.f16]
  by_cases a10 : name = [102, 105, 108, 116, 101, 114]
  · subst a10
    rw [show manyL [102, 105, 108, 116, 101, 114] = 2 by decide]
    refine F_cp (rs := [.int .i64 2]) (S := []) rfl rfl ?_
    rw [F_fn rfl rfl Tryz.func16 rfl]
    simp [runFn, Tryz.f16]
  by_cases a11 : name = [102, 105, 108, 116, 101, 114, 45, 111, 117, 116]
  · subst a11
    rw [show manyL [102, 105, 108, 116, 101, 114, 45, 111, 117, 116] = 2 by decide]
    refine F_cp (rs := [.int .i64 2]) (S := []) rfl rfl ?_
    rw [F_fn rfl rfl Tryz.func16 rfl]
    simp [runFn, Tryz.f16]
  by_cases a12 : name = [119, 111, 114, 100]
  · subst a12
    rw [show manyL [119, 111, 114, 100] = 2 by decide]
    refine F_cp (rs := [.int .i64 2]) (S := []) rfl rfl ?_
    rw [F_fn rfl rfl Tryz.func16 rfl]
    simp [runFn, Tryz.f16]
  by_cases a13 : name = [97, 100, 100, 115, 117, 102, 102, 105, 120]
  · subst a13
    rw [show manyL [97, 100, 100, 115, 117, 102, 102, 105, 120] = 2 by decide]
    refine F_cp (rs := [.int .i64 2]) (S := []) rfl rfl ?_
    rw [F_fn rfl rfl Tryz.func16 rfl]
    simp [runFn, Tryz.f16]
  by_cases a14 : name = [97, 100, 100, 112, 114, 101, 102, 105, 120]
  · subst a14
    rw [show manyL [97, 100, 100, 112, 114, 101, 102, 105, 120] = 2 by decide]
    refine F_cp (rs := [.int .i64 2]) (S := []) rfl rfl ?_
    rw [F_fn rfl rfl Tryz.func16 rfl]
    simp [runFn, Tryz.f16]
  by_cases a15 : name = [106, 111, 105, 110]
  · subst a15
    rw [show manyL [106, 111, 105, 110] = 2 by decide]
    refine F_cp (rs := [.int .i64 2]) (S := []) rfl rfl ?_
    rw [F_fn rfl rfl Tryz.func16 rfl]
    simp [runFn, Tryz.f16]
  by_cases a16 : name = [115, 117, 98, 115, 116]
  · subst a16
    rw [show manyL [115, 117, 98, 115, 116] = 3 by decide]
    refine F_cp (rs := [.int .i64 3]) (S := []) rfl rfl ?_
    rw [F_fn rfl rfl Tryz.func16 rfl]
    simp [runFn, Tryz.f16]
  by_cases a17 : name = [112, 97, 116, 115, 117, 98, 115, 116]
  · subst a17
    rw [show manyL [112, 97, 116, 115, 117, 98, 115, 116] = 3 by decide]
    refine F_cp (rs := [.int .i64 3]) (S := []) rfl rfl ?_
    rw [F_fn rfl rfl Tryz.func16 rfl]
    simp [runFn, Tryz.f16]
  by_cases a18 : name = [119, 111, 114, 100, 108, 105, 115, 116]
  · subst a18
    rw [show manyL [119, 111, 114, 100, 108, 105, 115, 116] = 3 by decide]
    refine F_cp (rs := [.int .i64 3]) (S := []) rfl rfl ?_
    rw [F_fn rfl rfl Tryz.func16 rfl]
    simp [runFn, Tryz.f16]
  have hm : manyL name = 0 := by simp [manyL, ones, twos, threes, a0, a1, a2, a3, a4, a5, a6, a7, a8, a9, a10, a11, a12, a13, a14, a15, a16, a17, a18]
  have b0 : (name == [115, 116, 114, 105, 112]) = false := by simp [a0]
  have b1 : (name == [115, 111, 114, 116]) = false := by simp [a1]
  have b2 : (name == [119, 111, 114, 100, 115]) = false := by simp [a2]
  have b3 : (name == [102, 105, 114, 115, 116, 119, 111, 114, 100]) = false := by simp [a3]
  have b4 : (name == [108, 97, 115, 116, 119, 111, 114, 100]) = false := by simp [a4]
  have b5 : (name == [100, 105, 114]) = false := by simp [a5]
  have b6 : (name == [110, 111, 116, 100, 105, 114]) = false := by simp [a6]
  have b7 : (name == [115, 117, 102, 102, 105, 120]) = false := by simp [a7]
  have b8 : (name == [98, 97, 115, 101, 110, 97, 109, 101]) = false := by simp [a8]
  have b9 : (name == [102, 105, 110, 100, 115, 116, 114, 105, 110, 103]) = false := by simp [a9]
  have b10 : (name == [102, 105, 108, 116, 101, 114]) = false := by simp [a10]
  have b11 : (name == [102, 105, 108, 116, 101, 114, 45, 111, 117, 116]) = false := by simp [a11]
  have b12 : (name == [119, 111, 114, 100]) = false := by simp [a12]
  have b13 : (name == [97, 100, 100, 115, 117, 102, 102, 105, 120]) = false := by simp [a13]
  have b14 : (name == [97, 100, 100, 112, 114, 101, 102, 105, 120]) = false := by simp [a14]
  have b15 : (name == [106, 111, 105, 110]) = false := by simp [a15]
  have b16 : (name == [115, 117, 98, 115, 116]) = false := by simp [a16]
  have b17 : (name == [112, 97, 116, 115, 117, 98, 115, 116]) = false := by simp [a17]
  have b18 : (name == [119, 111, 114, 100, 108, 105, 115, 116]) = false := by simp [a18]
  rw [hm]
  refine F_cp (rs := [.int .i64 0]) (S := []) rfl rfl ?_
  rw [F_fn rfl rfl Tryz.func16 rfl]
  simp [runFn, Tryz.f16, b0, b1, b2, b3, b4, b5, b6, b7, b8, b9, b10, b11, b12, b13, b14, b15, b16, b17, b18]

theorem cp17 [XX] (n : Nat) (name : Str) : CP (F (n + 1)) 17 [.str name] (.int .i64 (manyL name)) := by
  by_cases a0 : name = [115, 116, 114, 105, 112]
  · subst a0
    rw [show manyL [115, 116, 114, 105, 112] = 1 by decide]
    refine F_cp (rs := [.int .i64 1]) (S := []) rfl rfl ?_
    rw [F_fn rfl rfl Tryz.func17 rfl]
    simp [runFn, Tryz.f17]
  by_cases a1 : name = [115, 111, 114, 116]
  · subst a1
    rw [show manyL [115, 111, 114, 116] = 1 by decide]
    refine F_cp (rs := [.int .i64 1]) (S := []) rfl rfl ?_
    rw [F_fn rfl rfl Tryz.func17 rfl]
    simp [runFn, Tryz.f17]
  by_cases a2 : name = [119, 111, 114, 100, 115]
  · subst a2
    rw [show manyL [119, 111, 114, 100, 115] = 1 by decide]
    refine F_cp (rs := [.int .i64 1]) (S := []) rfl rfl ?_
    rw [F_fn rfl rfl Tryz.func17 rfl]
    simp [runFn, Tryz.f17]
  by_cases a3 : name = [102, 105, 114, 115, 116, 119, 111, 114, 100]
  · subst a3
    rw [show manyL [102, 105, 114, 115, 116, 119, 111, 114, 100] = 1 by decide]
    refine F_cp (rs := [.int .i64 1]) (S := []) rfl rfl ?_
    rw [F_fn rfl rfl Tryz.func17 rfl]
    simp [runFn, Tryz.f17]
  by_cases a4 : name = [108, 97, 115, 116, 119, 111, 114, 100]
  · subst a4
    rw [show manyL [108, 97, 115, 116, 119, 111, 114, 100] = 1 by decide]
    refine F_cp (rs := [.int .i64 1]) (S := []) rfl rfl ?_
    rw [F_fn rfl rfl Tryz.func17 rfl]
    simp [runFn, Tryz.f17]
  by_cases a5 : name = [100, 105, 114]
  · subst a5
    rw [show manyL [100, 105, 114] = 1 by decide]
    refine F_cp (rs := [.int .i64 1]) (S := []) rfl rfl ?_
    rw [F_fn rfl rfl Tryz.func17 rfl]
    simp [runFn, Tryz.f17]
  by_cases a6 : name = [110, 111, 116, 100, 105, 114]
  · subst a6
    rw [show manyL [110, 111, 116, 100, 105, 114] = 1 by decide]
    refine F_cp (rs := [.int .i64 1]) (S := []) rfl rfl ?_
    rw [F_fn rfl rfl Tryz.func17 rfl]
    simp [runFn, Tryz.f17]
  by_cases a7 : name = [115, 117, 102, 102, 105, 120]
  · subst a7
    rw [show manyL [115, 117, 102, 102, 105, 120] = 1 by decide]
    refine F_cp (rs := [.int .i64 1]) (S := []) rfl rfl ?_
    rw [F_fn rfl rfl Tryz.func17 rfl]
    simp [runFn, Tryz.f17]
  by_cases a8 : name = [98, 97, 115, 101, 110, 97, 109, 101]
  · subst a8
    rw [show manyL [98, 97, 115, 101, 110, 97, 109, 101] = 1 by decide]
    refine F_cp (rs := [.int .i64 1]) (S := []) rfl rfl ?_
    rw [F_fn rfl rfl Tryz.func17 rfl]
    simp [runFn, Tryz.f17]
  by_cases a9 : name = [102, 105, 110, 100, 115, 116, 114, 105, 110, 103]
  · subst a9
    rw [show manyL [102, 105, 110, 100, 115, 116, 114, 105, 110, 103] = 2 by decide]
    refine F_cp (rs := [.int .i64 2]) (S := []) rfl rfl ?_
    rw [F_fn rfl rfl Tryz.func17 rfl]
    simp [runFn, Tryz.f17]
  by_cases a10 : name = [102, 105, 108, 116, 101, 114]
  · subst a10
    rw [show manyL [102, 105, 108, 116, 101, 114] = 2 by decide]
    refine F_cp (rs := [.int .i64 2]) (S := []) rfl rfl ?_
    rw [F_fn rfl rfl Tryz.func17 rfl]
    simp [runFn, Tryz.f17]
  by_cases a11 : name = [102, 105, 108, 116, 101, 114, 45, 111, 117, 116]
  · subst a11
    rw [show manyL [102, 105, 108, 116, 101, 114, 45, 111, 117, 116] = 2 by decide]
    refine F_cp (rs := [.int .i64 2]) (S := []) rfl rfl ?_
    rw [F_fn rfl rfl Tryz.func17 rfl]
    simp [runFn, Tryz.f17]
  by_cases a12 : name = [119, 111, 114, 100]
  · subst a12
    rw [show manyL [119, 111, 114, 100] = 2 by decide]
    refine F_cp (rs := [.int .i64 2]) (S := []) rfl rfl ?_
    rw [F_fn rfl rfl Tryz.func17 rfl]
    simp [runFn, Tryz.f17]
  by_cases a13 : name = [97, 100, 100, 115, 117, 102, 102, 105, 120]
  · subst a13
    rw [show manyL [97, 100, 100, 115, 117, 102, 102, 105, 120] = 2 by decide]
    refine F_cp (rs := [.int .i64 2]) (S := []) rfl rfl ?_
    rw [F_fn rfl rfl Tryz.func17 rfl]
    simp [runFn, Tryz.f17]
  by_cases a14 : name = [97, 100, 100, 112, 114, 101, 102, 105, 120]
  · subst a14
    rw [show manyL [97, 100, 100, 112, 114, 101, 102, 105, 120] = 2 by decide]
    refine F_cp (rs := [.int .i64 2]) (S := []) rfl rfl ?_
    rw [F_fn rfl rfl Tryz.func17 rfl]
    simp [runFn, Tryz.f17]
  by_cases a15 : name = [106, 111, 105, 110]
  · subst a15
    rw [show manyL [106, 111, 105, 110] = 2 by decide]
    refine F_cp (rs := [.int .i64 2]) (S := []) rfl rfl ?_
    rw [F_fn rfl rfl Tryz.func17 rfl]
    simp [runFn, Tryz.f17]
  by_cases a16 : name = [115, 117, 98, 115, 116]
  · subst a16
    rw [show manyL [115, 117, 98, 115, 116] = 3 by decide]
    refine F_cp (rs := [.int .i64 3]) (S := []) rfl rfl ?_
    rw [F_fn rfl rfl Tryz.func17 rfl]
    simp [runFn, Tryz.f17]
  by_cases a17 : name = [112, 97, 116, 115, 117, 98, 115, 116]
  · subst a17
    rw [show manyL [112, 97, 116, 115, 117, 98, 115, 116] = 3 by decide]
    refine F_cp (rs := [.int .i64 3]) (S := []) rfl rfl ?_
    rw [F_fn rfl rfl Tryz.func17 rfl]
    simp [runFn, Tryz.f17]
  by_cases a18 : name = [119, 111, 114, 100, 108, 105, 115, 116]
  · subst a18
    rw [show manyL [119, 111, 114, 100, 108, 105, 115, 116] = 3 by decide]
    refine F_cp (rs := [.int .i64 3]) (S := []) rfl rfl ?_
    rw [F_fn rfl rfl Tryz.func17 rfl]
    simp [runFn, Tryz.f17]
  have hm : manyL name = 0 := by simp [manyL, ones, twos, threes, a0, a1, a2, a3, a4, a5, a6, a7, a8, a9, a10, a11, a12, a13, a14, a15, a16, a17, a18]
  have b0 : (name == [115, 116, 114, 105, 112]) = false := by simp [a0]
  have b1 : (name == [115, 111, 114, 116]) = false := by simp [a1]
  have b2 : (name == [119, 111, 114, 100, 115]) = false := by simp [a2]
  have b3 : (name == [102, 105, 114, 115, 116, 119, 111, 114, 100]) = false := by simp [a3]
  have b4 : (name == [108, 97, 115, 116, 119, 111, 114, 100]) = false := by simp [a4]
  have b5 : (name == [100, 105, 114]) = false := by simp [a5]
  have b6 : (name == [110, 111, 116, 100, 105, 114]) = false := by simp [a6]
  have b7 : (name == [115, 117, 102, 102, 105, 120]) = false := by simp [a7]
  have b8 : (name == [98, 97, 115, 101, 110, 97, 109, 101]) = false := by simp [a8]
  have b9 : (name == [102, 105, 110, 100, 115, 116, 114, 105, 110, 103]) = false := by simp [a9]
  have b10 : (name == [102, 105, 108, 116, 101, 114]) = false := by simp [a10]
  have b11 : (name == [102, 105, 108, 116, 101, 114, 45, 111, 117, 116]) = false := by simp [a11]
  have b12 : (name == [119, 111, 114, 100]) = false := by simp [a12]
  have b13 : (name == [97, 100, 100, 115, 117, 102, 102, 105, 120]) = false := by simp [a13]
  have b14 : (name == [97, 100, 100, 112, 114, 101, 102, 105, 120]) = false := by simp [a14]
  have b15 : (name == [106, 111, 105, 110]) = false := by simp [a15]
  have b16 : (name == [115, 117, 98, 115, 116]) = false := by simp [a16]
  have b17 : (name == [112, 97, 116, 115, 117, 98, 115, 116]) = false := by simp [a17]
  have b18 : (name == [119, 111, 114, 100, 108, 105, 115, 116]) = false := by simp [a18]
  rw [hm]
  refine F_cp (rs := [.int .i64 0]) (S := []) rfl rfl ?_
  rw [F_fn rfl rfl Tryz.func17 rfl]
  simp [runFn, Tryz.f17, b0, b1, b2, b3, b4, b5, b6, b7, b8, b9, b10, b11, b12, b13, b14, b15, b16, b17, b18]

end Go.Proofs.YtaignnlnmffiaaaGreatDoor.Ex

/- The call. -/
namespace Go.Proofs.YtaignnlnmffiaaaGreatDoor.Ex
open Go

def gOne : List AV → Option (List AV)
  | [.str name, .str t] => if t.length ≤ 100000 then some [.str (oneL name t), .bool true] else none
  | _ => none

/-- Both are not walked. -/
def Full [XX] : Prop := XX.x = some gOne ∧ XX.y = some gJoined

theorem cp26B [XX] (hX : Full) (n : Nat) (name t : Str) (ht : t.length ≤ 100000) : CP (F (n + 1)) 26 [.str name, .str t] (.tup [.str (oneL name t), .bool true]) :=
  F_ext (f := 26) (g := gOne) (rs := [.str (oneL name t), .bool true]) hX.1 rfl rfl (by simp [gOne, ht])

/-- An answer, and whether it is one: what the call makes of it. -/
def finL (r : Str) (ok : Bool) : Str × Nat := if ok = false then ([], 1) else if 4000 < r.length then ([], 3) else (r, 0)

section
variable [XX] {n : Nat} {name : Str}

theorem call14_none (args : List Str) (h16 : CP (F n) 16 [.str name] (.int .i64 0)) : CP (F (n + 1)) 14 [.str name, .sl 1 (args.map .str)] (.tup [.str [], .int .i64 4]) := by
  simp only [CP] at h16
  refine F_cp (rs := [.str [], .int .i64 4]) (S := []) (by simp [noBoxL, noBox]) rfl ?_
  rw [F_fn rfl rfl Tryz.func14 rfl]
  simp [runFn, Tryz.f14, h16]

theorem call14_arg (args : List Str) (k : Nat) (hk : k ≠ 0) (hl : args.length ≠ k) (h16 : CP (F n) 16 [.str name] (.int .i64 k)) : CP (F (n + 1)) 14 [.str name, .sl 1 (args.map .str)] (.tup [.str [], .int .i64 1]) := by
  simp only [CP] at h16
  refine F_cp (rs := [.str [], .int .i64 1]) (S := []) (by simp [noBoxL, noBox]) rfl ?_
  rw [F_fn rfl rfl Tryz.func14 rfl]
  have e1 : ((k : Int) == 0) = false := by simpa using hk
  have e2 : ((args.length : Int) != (k : Int)) = true := by simpa using (by omega : ¬ (args.length : Int) = k)
  simp [runFn, Tryz.f14, h16, e1, e2]

theorem call14_1 {t r : Str} {ok : Bool} (h16 : CP (F n) 16 [.str name] (.int .i64 1)) (h : CP (F n) 26 [.str name, .str t] (.tup [.str r, .bool ok])) :
    CP (F (n + 1)) 14 [.str name, .sl 1 [.str t]] (.tup [.str (finL r ok).1, .int .i64 (finL r ok).2]) := by
  simp only [CP] at h16 h
  refine F_cp (rs := [.str (finL r ok).1, .int .i64 (finL r ok).2]) (S := []) rfl rfl ?_
  rw [F_fn rfl rfl Tryz.func14 rfl]
  cases ok with
  | false => simp [runFn, Tryz.f14, h16, h, finL]
  | true =>
    by_cases hl : 4000 < r.length
    · have e : (4000 : Int) < (r.length : Int) := by omega
      simp [runFn, Tryz.f14, h16, h, finL, hl, e]
    · have e : ¬ (4000 : Int) < (r.length : Int) := by omega
      simp [runFn, Tryz.f14, h16, h, finL, hl, e]

theorem call14_2 {a t r : Str} {ok : Bool} (h16 : CP (F n) 16 [.str name] (.int .i64 2)) (h : CP (F n) 27 [.str name, .str a, .str t] (.tup [.str r, .bool ok])) :
    CP (F (n + 1)) 14 [.str name, .sl 1 [.str a, .str t]] (.tup [.str (finL r ok).1, .int .i64 (finL r ok).2]) := by
  simp only [CP] at h16 h
  refine F_cp (rs := [.str (finL r ok).1, .int .i64 (finL r ok).2]) (S := []) rfl rfl ?_
  rw [F_fn rfl rfl Tryz.func14 rfl]
  cases ok with
  | false => simp [runFn, Tryz.f14, h16, h, finL]
  | true =>
    by_cases hl : 4000 < r.length
    · have e : (4000 : Int) < (r.length : Int) := by omega
      simp [runFn, Tryz.f14, h16, h, finL, hl, e]
    · have e : ¬ (4000 : Int) < (r.length : Int) := by omega
      simp [runFn, Tryz.f14, h16, h, finL, hl, e]

theorem call14_3 {a b t r : Str} {ok : Bool} (h16 : CP (F n) 16 [.str name] (.int .i64 3)) (h : CP (F n) 28 [.str name, .str a, .str b, .str t] (.tup [.str r, .bool ok])) :
    CP (F (n + 1)) 14 [.str name, .sl 1 [.str a, .str b, .str t]] (.tup [.str (finL r ok).1, .int .i64 (finL r ok).2]) := by
  simp only [CP] at h16 h
  refine F_cp (rs := [.str (finL r ok).1, .int .i64 (finL r ok).2]) (S := []) rfl rfl ?_
  rw [F_fn rfl rfl Tryz.func14 rfl]
  cases ok with
  | false => simp [runFn, Tryz.f14, h16, h, finL]
  | true =>
    by_cases hl : 4000 < r.length
    · have e : (4000 : Int) < (r.length : Int) := by omega
      simp [runFn, Tryz.f14, h16, h, finL, hl, e]
    · have e : ¬ (4000 : Int) < (r.length : Int) := by omega
      simp [runFn, Tryz.f14, h16, h, finL, hl, e]
end

theorem many_le (name : Str) : manyL name ≤ 3 := by
  unfold manyL
  repeat' split
  all_goals omega

theorem callL_fin {name : Str} {args : List Str} (h0 : manyL name ≠ 0) (h1 : args.length = manyL name) : callL name args = finL (ansL name args).1 (ansL name args).2 := by
  simp [callL, finL, h0, h1]

theorem cp14 [XX] (hX : Full) (m : Nat) (name : Str) (args : List Str) (ha : ∀ a ∈ args, a.length ≤ 100000) (hm : ∀ a ∈ args, a.length < m) :
    CP (F (m + 20)) 14 [.str name, .sl 1 (args.map .str)] (.tup [.str (callL name args).1, .int .i64 (callL name args).2]) := by
  have h16 := cp16 (m + 18) name
  by_cases h0 : manyL name = 0
  · rw [h0] at h16
    have := call14_none args h16
    simpa [callL, h0] using this
  by_cases h1 : args.length = manyL name
  · rw [callL_fin h0 h1]
    have h3 := many_le name
    rw [← h1] at h16 h3 h0
    match args, h0, h3 with
    | [t], _, _ => exact call14_1 h16 (cp26B hX (m + 18) name t (ha t (by simp)))
    | [a, t], _, _ => exact call14_2 h16 (cp27 (m + 1) t (ha t (by simp)) (by have := hm t (by simp); omega) hX.2 name a (ha a (by simp)) (by have := hm a (by simp); omega))
    | [a, b, t], _, _ => exact call14_3 h16 (cp28 (m + 1) name a b t (ha t (by simp)) (by have := hm t (by simp); omega) (ha a (by simp)) (ha b (by simp)))
    | [], h0, _ => exact absurd rfl h0
    | _ :: _ :: _ :: _ :: _, _, h3 => simp at h3
  · have := call14_arg args (manyL name) h0 h1 h16
    simpa [callL, h0, h1] using this

theorem cp18 [XX] (hX : Full) (m : Nat) (name : Str) (args : List Str) (ha : ∀ a ∈ args, a.length ≤ 100000) (hm : ∀ a ∈ args, a.length < m) :
    CP (F (m + 21)) 18 [.str name, .sl 1 (args.map .str)] (.str (ofL name args)) := by
  have h14 := cp14 hX m name args ha hm
  simp only [CP] at h14
  refine F_cp (rs := [.str (ofL name args)]) (S := []) (by simp [noBoxL, noBox]) rfl ?_
  rw [F_fn rfl rfl Tryz.func18 rfl]
  simp [runFn, Tryz.f18, h14, ofL]

end Go.Proofs.YtaignnlnmffiaaaGreatDoor.Ex
