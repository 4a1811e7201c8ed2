/- Part 2 of the proof: what is walked and what is not, the pure interpreter over the code and its soundness, plain laws. -/
import Derived.Test.YtmcfnnpihlediaaGreatDoorVr1
import Derived.Lib.SlTrimSet
import Derived.Lib.Strings
import Derived.Lib.IndexMore
import Derived.Lib.LastIndexByte
import Derived.Lib.Replace
import Derived.Lib.ItoaNum
import Derived.Lib.Join
import Derived.Lib.IndexAny
import Derived.Lib.ParseIntB
import Derived.Lib.SlicesCompact
set_option linter.unusedSimpArgs false
set_option linter.unusedVariables false
set_option linter.unusedSectionVars false

/- Operations on objects, done. -/
namespace Go.Proofs.YtmcfnnpihlediaaGreatDoor.Ex
open Go Go.RowKit

section
variable {LOK : LoopA → Prop} {P : Program} {C : Gee} {own : FuncId → Bool} {call : CallT} {R : Reads} {w w' : World} {a : Act} {pf : PF} {bl : BL} {S S' : Obs} {D : List Nat} {B : Base}
  {nt : Nat} {E E' : Env} {ro : Option Nat} {n : Nat} {next : Act → World → Prop} {Q : Exit → Act → World → Prop} {ops : Array Oper} {M : List Nat}

theorem VRs.take {vs : List Value} {xs : List AV} (h : VRs R M vs xs) (k : Nat) : VRs R M (vs.take k) (xs.take k) := by
  refine ⟨by simp [h.1], fun i h1 h2 => ?_⟩
  simp only [List.getElem_take]
  exact h.2 i _ _
theorem VRs.drop {vs : List Value} {xs : List AV} (h : VRs R M vs xs) (k : Nat) : VRs R M (vs.drop k) (xs.drop k) := by
  refine ⟨by simp [h.1], fun i h1 h2 => ?_⟩
  simp only [List.getElem_drop]
  exact h.2 _ _ _

theorem obCells_sound (hsr : SR LOK R bl w S) {id : Nat} {p : Nat × List Nat} (hp : bl[id]? = some p) {cs : List AV} (h : obCells S[id]? = some cs) :
    (∀ a u, R a u → a.block ≠ p.1) ∧ p.1 ∈ p.2 ∧ p.2.Nodup ∧ ∃ vals e, w.heap[p.1]? = some (.cells vals e (0, 0)) ∧ cs.length ≤ vals.size ∧
      (∀ j (h1 : j < vals.size) (h2 : j < cs.length), VR R (mains bl) vals[j] cs[j] ∧ vals[j].oneCell' = true) ∧
      (∀ (W : World) (vals' : Array Value) (cs' : List AV), W.heap[p.1]? = some (.cells vals' e (0, 0)) → vals'.size = vals.size → cs'.length = cs.length →
        (∀ j (h1 : j < vals'.size) (h2 : j < cs'.length), VR R (mains bl) vals'[j] cs'[j] ∧ vals'[j].oneCell' = true) → ObR LOK R (mains bl) W (p.1, [p.1]) (putOb S[id]? cs')) ∧
      (∀ cs1, cs.length = 1 → cs1 = cs → vals.size = 1 ∨ ∃ rid, S[id]? = some (.rowo rid cs)) := by
  have hnd : p.2.Nodup := by
    obtain ⟨l1, l2, k1, k2⟩ := set_split hp
    have hn := hsr.nodup
    rw [k1] at hn
    simp only [fp_append, fp_cons] at hn
    obtain ⟨n1, n2, n3⟩ := List.nodup_append.1 hn
    exact (List.nodup_append.1 n2).1
  cases hS : S[id]? with
  | none => rw [hS] at h; cases h
  | some ob =>
    rw [hS] at h
    have ho := hsr.obj id p ob hp hS
    cases ob with
    | cells cs' =>
      simp only [obCells] at h
      injection h with h; subst h
      obtain ⟨g1, g2, vals, e, g3, g4, g5⟩ := ho
      exact ⟨g2, by rw [g1]; simp, hnd, vals, e, g3, by omega, g5, fun W vals' cs' k1 k2 k3 k4 => ⟨rfl, g2, vals', e, k1, by omega, k4⟩, fun _ h _ => .inl (by omega)⟩
    | acc sz xs =>
      simp only [obCells] at h
      injection h with h; subst h
      obtain ⟨q, g1, g2, v, e, g3, g4, g5, g6, g7⟩ := ho
      refine ⟨g2, by rw [g1]; simp, hnd, #[v], e, g3, by simp, fun j j1 j2 => ?_, fun W vals' cs' k1 k2 k3 k4 => ⟨rfl, g2, vals', e, k1, by simp at k2 k3; omega, k4⟩, fun _ h _ => .inl rfl⟩
      have : j = 0 := by simpa using j2
      subst this
      exact ⟨by simpa using g5, by simpa using g4⟩
    | rowo rid cs' =>
      simp only [obCells] at h
      injection h with h; subst h
      obtain ⟨g1, g0, g2, vals, e, k, g3, g4, g5, g6, g7⟩ := ho
      exact ⟨g2, by rw [g1]; simp, hnd, vals, e, g3, g6, g7, fun W vals' cs' k1 k2 k3 k4 => ⟨rfl, g0, g2, vals', e, k, k1, g4, by omega, by omega, k4⟩, fun _ _ _ => .inr ⟨rid, rfl⟩⟩
    | loop r => cases h
    | dfr => cases h
    | bld tb te s => cases h
    | gone => cases h
    | mapo es => cases h

theorem ObR.ofCells {b : Nat} (hno : ∀ a u, R a u → a.block ≠ b) {vals : List Value} {e : TypeId} (hb : w.heap[b]? = some (.cells vals.toArray e (0, 0))) {cs : List AV} (hv : VRs R M vals cs) (h1 : ∀ v ∈ vals, v.oneCell' = true) :
    ObR LOK R M w (b, [b]) (.cells cs) := by
  refine ⟨rfl, hno, vals.toArray, e, hb, by simpa using hv.1, fun j k1 k2 => ⟨?_, ?_⟩⟩
  · have := hv.2 j (by simpa using k1) k2; simpa using this
  · have hj : j < vals.length := by simpa using k1
    simpa using h1 vals[j] (List.getElem_mem hj)

/-- A new object, by an operation. -/
theorem new_step (hrel : Rel LOK B nt E pf S D a w R bl) {o : Oper} (hnd : ∀ c, o.op ≠ .defer c) (hd : ∀ d, o.dst = some d → d < nt) {ob : Obj} {x : Ob}
    (hrun : (execOp a.eval o).run P w = .ok (.value (.pointer (some ⟨w.heap.size, 0, none⟩))) (w.alloc ob))
    (hob : ObR LOK R (mains (bl ++ [(w.heap.size, [w.heap.size])])) (w.alloc ob) (w.heap.size, [w.heap.size]) x)
    (hn : ∀ a' w' R' bl', Rel LOK B nt (delO E o.dst) (updO pf o.dst (.box S.length 0)) (S ++ [x]) D a' w' R' bl' → next a' w') : o.wpIn (fen ro) n P a w next Q := by
  have hstp := hrel.stp.push hrel.sr.lt ob
  have hsr := hrel.sr.push hrel.stab ob hob
  refine wpIn_value hnd hrun (hn _ _ R _ (hrel.put_plain hstp (fun _ _ h => h) (fun i b hb => ?_) hsr ?_ hd fun s g hsg b hb => ?_))
  · rw [mains_append, List.getElem?_append_left (List.getElem?_eq_some_iff.1 hb).1]; exact hb
  · refine .box _ _ _ ?_
    rw [mains_append, ← hrel.sr.len, List.getElem?_append_right (by simp [mains])]
    simp [mains]
  · obtain ⟨sz, xs, _, h5⟩ := hrel.own s g hsg
    have hlt := (h5.lt hb).2
    refine ⟨?_, fun q u hq => .inl hq, fun hf => ?_⟩
    · show (w.heap.push ob)[b]? = _
      rw [Array.getElem?_push, if_neg (by omega)]
    · rw [fp_append] at hf
      rcases List.mem_append.1 hf with hf | hf
      · exact (hrel.mine s g hsg b hb).2 hf
      · simp [fp] at hf; omega

theorem alloc_new (w : World) (o : Obj) : (w.alloc o).heap[w.heap.size]? = some o := by
  show (w.heap.push o)[w.heap.size]? = some o
  simp

theorem noR_new (hs : Stab R w) : ∀ a u, R a u → a.block ≠ w.heap.size := fun a u hr e => by
  have := cell_lt (hs a u hr).1; omega

/-- A row that an object owns is handed to a slot. -/
theorem take_step (hrel : Rel LOK B nt E pf S D a w R bl) {o : Oper} {t : TypeId} {y : Operand} (hop : o.op = .load t y) {d : Nat} (hds : o.dst = some d) (hd : d < nt) {ty : Ty} (ht : tyOf P t = some ty) (hagg : ty.agg = false)
    {id sz : Nat} {xs : List AV} (hy : opv pf y = some (.box id 0)) (hS : S[id]? = some (.acc sz xs))
    (hn : ∀ a' w' R' bl', Rel LOK B nt ((d, freshE E) :: delE E d) (updO pf (some d) (.sl sz xs)) (S.set id (.cells [.sl sz xs])) D a' w' R' bl' → next a' w') : o.wpIn (fen ro) n P a w next Q := by
  obtain ⟨i, dd, hi, hdd, h1, h2, h3, h4, h5⟩ := tyOf_u ht
  have hv := opv_sound hrel.fr hy
  have hp : ∃ b, a.eval y = .pointer (some ⟨b, 0, none⟩) ∧ (mains bl)[id]? = some b := by
    generalize a.eval y = u at hv
    cases hv with
    | box _ _ b hb => exact ⟨b, rfl, hb⟩
  obtain ⟨b, hA, hb⟩ := hp
  obtain ⟨p, hp, rfl⟩ := mains_inv hb
  have ho := hrel.sr.obj id p _ hp hS
  obtain ⟨qq, g1, g2, v, e, g3, g4, g5, g6, g7⟩ := ho
  have hpm : p.1 ∈ p.2 := by rw [g1]; simp
  have hc : w.cell? ⟨p.1, 0, none⟩ = some v := by rw [cells_of_block g3]; rfl
  have hrun : (execOp a.eval o).run P w = .ok (.value v) w := by
    obtain ⟨dst, op, type, pos, after, guard⟩ := o
    simp only at hop
    subst hop
    simp [execOp, hA, Instr.loadAt, Instr.sureAddr, loadVar, run_isAgg hdd, ← h3, hagg, run_load, hc]
  have hob : ObR LOK R (mains bl) w (p.1, [p.1]) (.cells [.sl sz xs]) := ObR.ofCells (vals := [v]) g2 g3 ⟨rfl, fun i k1 k2 => by
    have : i = 0 := by simpa using k1
    subst this; simpa using g5⟩ (by simpa using g4)
  have hpf := fp_at hp _ hpm
  have hstp := hrel.stp.upd (w' := w) hp hpm (q := [p.1]) (by simp [hpf]) rfl rfl rfl rfl (fun _ _ => rfl) (.inr rfl)
  have hsr := hrel.sr.upd (w' := w) hp hpm (q := [p.1]) (by simp) (by simp [hpm]) (by simpa using hrel.sr.lt _ hpf) (Nat.le_refl _) (fun _ _ => rfl) hob
  have hsub : ∀ k, k ∈ fp (bl.set id (p.1, [p.1])) → k ∈ fp bl := fun k hk => by
    rcases fp_set hp hk with h | h
    · exact h
    · simp at h; rw [h]; exact hpf
  have g8 : ∀ b, blockOf v = some b → b ∈ p.2 := fun b hb => by rw [g1]; exact List.mem_cons_of_mem _ (g7 b hb)
  refine wpIn_value (by rw [hop]; simp) hrun (hn _ _ R (bl.set id (p.1, [p.1])) ?_)
  rw [hds]
  refine hrel.put_fresh hstp (fun _ _ h => h) (fun i b hb => by rw [mains_set hp]; exact hb) hsr (by rw [mains_set hp]; exact g5) hd (fun s g hsg b hb => ⟨rfl, fun q u hq => .inl hq, fun hf => ?_⟩) rfl g6 (fun b hb => ⟨?_, fun hf => ?_⟩) (fun b hb s g hsg hb' => ?_)
  · exact (hrel.mine s g hsg b hb).2 (hsub b hf)
  · rcases hrel.stp.foot b (fp_at hp b (g8 b hb)) with h6 | h6
    · exact .inr h6
    · exact .inl h6
  · -- its block is no object's any more
    obtain ⟨l1, l2, k1, k2⟩ := set_split hp
    rw [k2] at hf
    have hn := hrel.sr.nodup
    rw [k1] at hn
    simp only [fp_append, fp_cons] at hn hf
    have hbp := g8 b hb
    obtain ⟨n1, n2, n3⟩ := List.nodup_append.1 hn
    obtain ⟨m1, m2, m3⟩ := List.nodup_append.1 n2
    rcases List.mem_append.1 hf with hf | hf
    · exact n3 b hf b (by simp [hbp]) rfl
    · rcases List.mem_append.1 hf with hf | hf
      · have : b = p.1 := by simpa using hf
        subst this
        rw [g1] at m1
        exact (List.nodup_cons.1 m1).1 (g7 _ hb)
      · exact m3 b (by simp [hbp]) b hf rfl
  · exact (hrel.mine s g hsg b hb').2 (fp_at hp b (g8 b hb))

/-- A store to an object. -/
theorem store_step (hrel : Rel LOK B nt E pf S D a w R bl) {o : Oper} (hd : ∀ d, o.dst = some d → d < nt) {t : TypeId} {y z : Operand} (hop : o.op = .store t y z) {ty : Ty} (ht : tyOf P t = some ty) {id off : Nat} {v : AV} {cs : List AV}
    (hy : opv pf y = some (.box id off)) (hz : opv pf z = some v) (hS : obCells S[id]? = some cs) (h1 : v.cells.length = ty.size) (h2 : v.cells.all flatAV = true) (h3 : off + v.cells.length ≤ cs.length)
    (hn1 : ∀ a' w' R' bl', Rel LOK B nt (delO E o.dst) (updO pf o.dst .undef) (S.set id (putOb S[id]? (cs.take off ++ v.cells ++ cs.drop (off + v.cells.length)))) D a' w' R' bl' → next a' w')
    : o.wpIn (fen ro) n P a w next Q := by
  obtain ⟨i, dd, hi, hdd, k1, k2, k3, k4, k5⟩ := tyOf_u ht
  have hv := opv_sound hrel.fr hy
  have hu := opv_sound hrel.fr hz
  have hp : ∃ b, a.eval y = .pointer (some ⟨b, off, none⟩) ∧ (mains bl)[id]? = some b := by
    generalize a.eval y = u at hv
    cases hv with
    | box _ _ b hb => exact ⟨b, rfl, hb⟩
  obtain ⟨b, hA, hb⟩ := hp
  obtain ⟨p, hp, rfl⟩ := mains_inv hb
  obtain ⟨g2, hpm, hpn, vals, e, g3, g4, g5, g6, _⟩ := obCells_sound hrel.sr hp hS
  have hpf := fp_at hp _ hpm
  obtain ⟨hc1, hc2⟩ := hu.cells
  have hone : ∀ u ∈ (a.eval z).cells.toList, u.oneCell' = true := by
    intro u hu'
    obtain ⟨j, hj, rfl⟩ := List.getElem_of_mem hu'
    have hj' : j < (a.eval z).cells.size := by simpa using hj
    have := (hc2 j hj' (by omega)).flat (List.all_eq_true.1 h2 _ (List.getElem_mem (by omega)))
    simpa using this
  have hlen : (a.eval z).cells.toList.length = v.cells.length := by simpa using hc1
  have hrun := run_storeCells_at (P := P) p.1 off e (a.eval z).cells.toList 0 vals w g3 (by simp; omega) hone
  have hrun2 : (execOp a.eval o).run P w = .ok .skip (w.setRow p.1 (vals.toList.take off ++ (a.eval z).cells.toList ++ vals.toList.drop (off + v.cells.length)).toArray) := by
    obtain ⟨dst, op, type, pos, after, guard⟩ := o
    simp only at hop
    subst hop
    rw [Nat.add_zero, hlen] at hrun
    have hsz : (a.eval z).cells.size = i.size := by omega
    simp [execOp, hA, Instr.storeAt, Instr.sureAddr, storeVar, run_size hi, hsz, hrun]
  generalize hW : (w.setRow p.1 (vals.toList.take off ++ (a.eval z).cells.toList ++ vals.toList.drop (off + v.cells.length)).toArray) = W at hrun2
  have hnew : W.heap[p.1]? = some (.cells (vals.toList.take off ++ (a.eval z).cells.toList ++ vals.toList.drop (off + v.cells.length)).toArray e (0, 0)) := by
    rw [← hW]; exact setRow_heap w p.1 vals _ e (0, 0) g3
  have hoth : ∀ k, k ≠ p.1 → W.heap[k]? = w.heap[k]? := fun k hk => by rw [← hW]; exact setRow_other w p.1 k _ hk
  have hsz : W.heap.size = w.heap.size := by rw [← hW]; simp [World.setRow]
  have hob : ObR LOK R (mains bl) W (p.1, [p.1]) (putOb S[id]? (cs.take off ++ v.cells ++ cs.drop (off + v.cells.length))) := by
    refine g6 W _ _ hnew (by simp; omega) (by simp; omega) fun j j1 j2 => ?_
    have hov : off + v.cells.length ≤ vals.size := by omega
    have hle : (a.eval z).cells.size = v.cells.length := hc1
    simp only [List.getElem_toArray]
    by_cases q1 : j < off
    · have j3 : j < vals.size := by omega
      have j4 : j < cs.length := by omega
      have e1 : (vals.toList.take off ++ (a.eval z).cells.toList ++ vals.toList.drop (off + v.cells.length))[j]'(by simpa using j1) = vals[j] := by
        rw [List.getElem_append_left (by simp; omega), List.getElem_append_left (by simp; omega)]; simp
      have e2 : (cs.take off ++ v.cells ++ cs.drop (off + v.cells.length))[j]'j2 = cs[j] := by
        rw [List.getElem_append_left (by simp; omega), List.getElem_append_left (by simp; omega)]; simp
      rw [e1, e2]; exact g5 j j3 j4
    · by_cases q2 : j < off + v.cells.length
      · have j3 : j - off < (a.eval z).cells.size := by omega
        have j4 : j - off < v.cells.length := by omega
        have e1 : (vals.toList.take off ++ (a.eval z).cells.toList ++ vals.toList.drop (off + v.cells.length))[j]'(by simpa using j1) = (a.eval z).cells[j - off] := by
          rw [List.getElem_append_left (by simp; omega), List.getElem_append_right (by simp; omega)]
          simp only [Array.getElem_toList, List.length_take, Array.length_toList]
          congr 1; omega
        have e2 : (cs.take off ++ v.cells ++ cs.drop (off + v.cells.length))[j]'j2 = v.cells[j - off] := by
          rw [List.getElem_append_left (by simp; omega), List.getElem_append_right (by simp; omega)]
          simp only [List.length_take]
          congr 1; omega
        rw [e1, e2]
        exact ⟨hc2 _ j3 j4, hone _ (by simp)⟩
      · have j3 : j < vals.size := by simp at j1; omega
        have j4 : j < cs.length := by simp at j2; omega
        have e1 : (vals.toList.take off ++ (a.eval z).cells.toList ++ vals.toList.drop (off + v.cells.length))[j]'(by simpa using j1) = vals[j] := by
          rw [List.getElem_append_right (by simp; omega)]
          simp only [List.getElem_drop, Array.getElem_toList, List.length_append, List.length_take, Array.length_toList]
          congr 1; omega
        have e2 : (cs.take off ++ v.cells ++ cs.drop (off + v.cells.length))[j]'j2 = cs[j] := by
          rw [List.getElem_append_right (by simp; omega)]
          simp only [List.getElem_drop, List.length_append, List.length_take]
          congr 1; omega
        rw [e1, e2]; exact g5 j j3 j4
  have hstp := hrel.stp.upd (w' := W) hp hpm (q := [p.1]) (by simp [hpf]) hsz (by rw [← hW]; rfl) (by rw [← hW]; rfl) (by rw [← hW]; rfl) hoth (.inl g2)
  have hsr := hrel.sr.upd (w' := W) hp hpm (q := [p.1]) (by simp) (by simp [hpm]) (by simpa using hrel.sr.lt _ hpf) (by omega) hoth hob
  refine wpIn_skipv (by rw [hop]; simp) hrun2 (hn1 _ _ R (bl.set id (p.1, [p.1])) ?_)
  refine hrel.put_plain hstp (fun _ _ h => h) (fun i b hb => by rw [mains_set hp]; exact hb) hsr .undef hd fun s g hsg b hb => ?_
  have hm := (hrel.mine s g hsg b hb).2
  refine ⟨hoth b fun e => hm (by rw [e]; exact hpf), fun q u hq => .inl hq, fun hf => ?_⟩
  rcases fp_set hp hf with h | h
  · exact hm h
  · simp at h; subst h; exact hm hpf

/-- A store that hands a row over to an object. -/
theorem give_step (hrel : Rel LOK B nt E pf S D a w R bl) {o : Oper} (hdn : o.dst = none) {t : TypeId} {y : Operand} {z g : Nat} (hop : o.op = .store t y (.tmp z)) {ty : Ty} (ht : tyOf P t = some ty) {id off sz : Nat} {xs cs : List AV}
    (hg : findE E z = some g) (hy : opv pf y = some (.box id off)) (hz : pf z = .sl sz xs) (hS : obCells S[id]? = some cs) (hnr : ∀ rid cs', S[id]? ≠ some (.rowo rid cs')) (hcs : cs.length = 1) (h1 : 1 = ty.size) (h3 : off + 1 ≤ cs.length)
    (hn1 : ∀ a' w' R' bl', Rel LOK B nt (dropG E g) (updO pf o.dst .undef) (S.set id (.acc sz xs)) D a' w' R' bl' → next a' w')
    : o.wpIn (fen ro) n P a w next Q := by
  obtain ⟨i, dd, hi, hdd, k1, k2, k3, k4, k5⟩ := tyOf_u ht
  have hoff : off = 0 := by omega
  subst hoff
  have hm := findE_mem hg
  have hv := opv_sound hrel.fr hy
  have hu := hrel.fr z
  rw [hz] at hu
  obtain ⟨sz', xs', h6, h7⟩ := hrel.own z g hm
  rw [hz] at h6
  injection h6 with e1 e2
  subst e1 e2
  have hmine := hrel.mine z g hm
  have hp : ∃ b, a.eval y = .pointer (some ⟨b, 0, none⟩) ∧ (mains bl)[id]? = some b := by
    generalize a.eval y = u at hv
    cases hv with
    | box _ _ b hb => exact ⟨b, rfl, hb⟩
  obtain ⟨b, hA, hb⟩ := hp
  obtain ⟨p, hp, rfl⟩ := mains_inv hb
  obtain ⟨g2, hpm, hpn, vals, e, g3, g4, g5, _, g9⟩ := obCells_sound hrel.sr hp hS
  have hpf := fp_at hp _ hpm
  have hdist := hrel.dist z g
  have hez : a.eval (.tmp z) = a.tmps.getD z Go.undef := rfl
  generalize hV : a.tmps.getD z Go.undef = V at hu h7 hmine hdist hez
  have hone : V.oneCell' = true := hu.flat rfl
  obtain ⟨A, m, c, rfl, hm1, hm2⟩ := hu.slice_inv
  have hvs : vals.size = 1 := by
    rcases g9 cs hcs rfl with h | ⟨rid, h⟩
    · exact h
    · exact absurd h (hnr _ _)
  have hrun := run_storeCells_at (P := P) p.1 0 e [.slice A m c] 0 vals w g3 (by simp; omega) (by simpa using hone)
  have hrow : (vals.toList.take (0 + 0) ++ [Value.slice A m c] ++ vals.toList.drop (0 + 0 + [Value.slice A m c].length)).toArray = #[Value.slice A m c] := by
    have : vals.toList.drop 1 = [] := List.drop_eq_nil_of_le (by rw [Array.length_toList]; omega)
    simp [this]
  rw [hrow] at hrun
  have hrun2 : (execOp a.eval o).run P w = .ok .skip (w.setRow p.1 #[.slice A m c]) := by
    obtain ⟨dst, op, type, pos, after, guard⟩ := o
    simp only at hop
    subst hop
    have hsz : i.size = 1 := by omega
    simp [execOp, hA, hez, Instr.storeAt, Instr.sureAddr, storeVar, run_size hi, hsz, Value.cells, hrun]
  generalize hW : (w.setRow p.1 #[.slice A m c]) = W at hrun2
  have hnew : W.heap[p.1]? = some (.cells #[.slice A m c] e (0, 0)) := by
    rw [← hW]; exact setRow_heap w p.1 vals _ e (0, 0) g3
  have hoth : ∀ k, k ≠ p.1 → W.heap[k]? = w.heap[k]? := fun k hk => by rw [← hW]; exact setRow_other w p.1 k _ hk
  have hsz : W.heap.size = w.heap.size := by rw [← hW]; simp [World.setRow]
  let q : List Nat := match blockOf (.slice A m c) with | some b => [b] | none => []
  have hq : ∀ k, k ∈ q ↔ blockOf (.slice A m c) = some k := by
    intro k
    show k ∈ (match blockOf (.slice A m c) with | some b => [b] | none => []) ↔ _
    cases blockOf (.slice A m c) with
    | none => simp
    | some b => simp [eq_comm]
  have hqn : q.Nodup := by
    show (match blockOf (.slice A m c) with | some b => [b] | none => []).Nodup
    cases blockOf (.slice A m c) <;> simp
  have hne : ∀ k ∈ q, k ≠ p.1 := fun k hk e => (hmine k ((hq k).1 hk)).2 (by rw [e]; exact hpf)
  have hob : ObR LOK R (mains bl) W (p.1, p.1 :: q) (.acc sz xs) := by
    refine ⟨q, rfl, g2, _, e, hnew, hone, hu, h7.keep (fun q u hq => .inl hq) (fun b hb => hoth b (hne b ((hq b).2 hb))), fun b hb => (hq b).2 hb⟩
  have hstp := hrel.stp.upd (w' := W) hp hpm (q := p.1 :: q) (fun k hk => by
    rcases List.mem_cons.1 hk with rfl | hk
    · exact .inl hpf
    · exact .inr (hmine k ((hq k).1 hk)).1) hsz (by rw [← hW]; rfl) (by rw [← hW]; rfl) (by rw [← hW]; rfl) hoth (.inl g2)
  have hsr := hrel.sr.upd (w' := W) hp hpm (q := p.1 :: q) (List.nodup_cons.2 ⟨fun h => hne _ h rfl, hqn⟩) (fun k hk => by
    rcases List.mem_cons.1 hk with rfl | hk
    · exact .inl hpm
    · exact .inr (hmine k ((hq k).1 hk)).2) (fun k hk => by
    rcases List.mem_cons.1 hk with rfl | hk
    · exact hrel.sr.lt _ hpf
    · exact (h7.lt ((hq k).1 hk)).2) (by omega) hoth hob
  refine wpIn_skipv (by rw [hop]; simp) hrun2 (hn1 _ _ R (bl.set id (p.1, p.1 :: q)) ?_)
  rw [hdn]
  refine hrel.put hstp (fun _ _ h => h) (fun i b hb => by rw [mains_set hp]; exact hb) hsr .undef (by simp) (fun s g' hsg => .inl ?_) (by simp)
  obtain ⟨hs1, hs2⟩ := mem_dropG.1 hsg
  refine ⟨by simp, hs1, fun b hb => ⟨?_, fun q u hq => .inl hq, fun hf => ?_⟩⟩
  · exact hoth b fun e => (hrel.mine s g' hs1 b hb).2 (by rw [e]; exact hpf)
  · rcases fp_set hp hf with h | h
    · exact (hrel.mine s g' hs1 b hb).2 h
    rcases List.mem_cons.1 h with rfl | h
    · exact (hrel.mine s g' hs1 _ hb).2 hpf
    · exact hdist s g' hm hs1 (Ne.symm hs2) b ((hq b).1 h) hb

end
end Go.Proofs.YtmcfnnpihlediaaGreatDoor.Ex

/- One operation, whichever, done; regions in the text's order. -/
namespace Go.Proofs.YtmcfnnpihlediaaGreatDoor.Ex
open Go Go.RowKit

def wantA (ops : Array Oper) (pf : PF) (o : Oper) : Option Bool :=
  match o.guard with
  | none => some true
  | some (j, b) =>
    match (ops[j]?).bind (·.dst) with
    | some d => (match pf d with | .bool t => some (t == b) | .undef => some false | _ => none)
    | none => some false

def rgn (P : Program) (own : FuncId → Bool) (call : CallT) (ops : Array Oper) : List Oper → PF → Obs → Option (PF × Obs)
  | [], pf, S => some (pf, S)
  | o :: r, pf, S =>
    match wantA ops pf o with
    | some true => (match evOp P own call ops o pf S with | some (x, S') => rgn P own call ops r (updO pf o.dst x) S' | none => none)
    | some false => rgn P own call ops r (updO pf o.dst .undef) S
    | none => none

/-- A region that ends in a panic: with what. -/
def rgnP (P : Program) (own : FuncId → Bool) (call : CallT) (ops : Array Oper) : List Oper → PF → Obs → Option (AV × Obs)
  | [], _, _ => none
  | o :: r, pf, S =>
    match wantA ops pf o with
    | some true => (match evOp P own call ops o pf S with | some (x, S') => rgnP P own call ops r (updO pf o.dst x) S' | none => evPan call o pf S)
    | some false => rgnP P own call ops r (updO pf o.dst .undef) S
    | none => none

def transL (own : FuncId → Bool) (ops : Array Oper) : List Oper → Env → Option Env
  | [], E => some E
  | o :: r, E => match trans own ops E o with | some E' => transL own ops r E' | none => none

def dstsOk (nt : Nat) (ops : List Oper) : Bool := ops.all fun o => match o.dst with | some d => d < nt | none => true

section
variable {LOK : LoopA → Prop} {P : Program} {C : Gee} {own : FuncId → Bool} {call : CallT} {R : Reads} {w w' : World} {a : Act} {pf : PF} {bl : BL} {S S' : Obs} {D : List Nat} {B : Base}
  {nt : Nat} {E E' : Env} {ro : Option Nat} {n : Nat} {next : Act → World → Prop} {Q : Exit → Act → World → Prop} {ops : Array Oper} {M : List Nat}

theorem trans_plain {o : Oper} (hg : givesOp own ops o.op = none) (ha : isApp o.op = false) (hl : (∀ t y, o.op ≠ .load t y) ∨ takes own ops o.dst = false) (ho : ownOp own o.op = false)
    (hmv : ∀ y, o.op ≠ .move y ∧ o.op ≠ .assign y) (h : trans own ops E o = some E') : E' = delO E o.dst := by
  rcases trans_D hg ha hl h with h | ⟨d, _, _, h⟩ | ⟨d, t, g, _, h, _⟩
  · exact h
  · rw [ho] at h; cases h
  · rcases h with h | h
    · exact absurd h (hmv _).1
    · exact absurd h (hmv _).2

theorem trans_take {o : Oper} {t : TypeId} {y : Operand} (hop : o.op = .load t y) (hl : takes own ops o.dst = true) (h : trans own ops E o = some E') : ∃ d, o.dst = some d ∧ E' = (d, freshE E) :: delE E d := by
  unfold trans at h
  rw [hop] at h
  simp only [givesOp] at h
  split at h
  · rename_i hd; rw [hd] at hl; cases hl
  · rename_i d hd
    rw [hd] at hl
    refine ⟨d, hd, ?_⟩
    simp only [hl, isApp, Bool.or_true, if_true] at h
    split at h
    · cases h
    · injection h with h; exact h.symm

theorem step_obj (hrel : Rel LOK B nt E pf S D a w R bl) {o : Oper} {x : AV} (hd : ∀ d, o.dst = some d → d < nt)
    (hev : evObj P own ops o pf S = some (x, S')) (hlt : ∀ t y, o.op = .load t y → takes own ops o.dst = true) (htr : trans own ops E o = some E')
    (hn : ∀ a' w' R' bl', Rel LOK B nt E' (updO pf o.dst x) S' D a' w' R' bl' → next a' w') : o.wpIn (fen ro) n P a w next Q := by
  obtain ⟨dst, op, type, pos, after, guard⟩ := o
  cases op <;> try (simp [evObj] at hev; done)
  case alloc t =>
    have hE := trans_plain (o := ⟨dst, .alloc t, type, pos, after, guard⟩) rfl rfl (.inl (by simp)) rfl (fun y => ⟨by simp, by simp⟩) htr
    subst hE
    simp only [evObj] at hev
    split at hev
    · rename_i e hb
      injection hev with hev; injection hev with h1 h2; subst h1 h2
      unfold bldTy at hb
      split at hb
      case h_2 => cases hb
      rename_i _ _ _ tp ts z ht
      split at hb
      case h_2 => cases hb
      split at hb
      case isFalse => cases hb
      rename_i hc
      obtain ⟨i, u, hi, hu, k1, k2, k3, k4, k5⟩ := tyOf_u ht
      have hrun : (execOp a.eval ⟨dst, .alloc t, type, pos, after, guard⟩).run P w = .ok (.value (.pointer (some ⟨w.heap.size, 0, none⟩))) (w.alloc (.cells z.cells t)) := by
        have hiz : i.zero = some z := by rw [← k5]
        simp only [execOp, Instr.alloc, zeroValue, newVar, newRow, Sem.run_bind, run_info hi, hiz, Result.andThen_ok, Sem.run_pure, run_newObj_alloc]
      have hz2 : z.cells = #[.pointer none, .slice none 0 0] := by
        apply Array.toList_inj.1
        have h2 := hc.2
        unfold zerosOk at h2
        simp only [Bool.and_eq_true, beq_iff_eq] at h2
        obtain ⟨h3, h4⟩ := h2
        match hzl : z.cells.toList, h3, h4 with
        | [x, y], _, h4 =>
          simp only [List.zip_cons_cons, List.zip_nil_right, List.all_cons, List.all_nil, Bool.and_true, Bool.and_eq_true] at h4
          obtain ⟨h5, h6⟩ := h4
          have e1 : x = .pointer none := by unfold zOk at h5; split at h5 <;> simp_all
          have e2 : y = .slice none 0 0 := by unfold zOk at h6; split at h6 <;> simp_all
          rw [e1, e2]
      rw [hz2] at hrun
      refine new_step hrel (x := .bld t e []) (by simp) hd hrun ⟨[], rfl, fun a u hr => ⟨noR_new hrel.stab a u hr, by simp⟩, .pointer none, .slice none 0 0, .inl rfl, alloc_new w _, World.ownsRow_nil _ _ _ _, by simp [Value.ownBlock], by simp [Value.ownBlock]⟩ hn
    split at hev
    case h_2 => cases hev
    rename_i ty ht
    split at hev
    case h_2 => cases hev
    rename_i z hz
    obtain ⟨i, u, hi, hu, k1, k2, k3, k4, k5⟩ := tyOf_u ht
    have hrun : (execOp a.eval ⟨dst, .alloc t, type, pos, after, guard⟩).run P w = .ok (.value (.pointer (some ⟨w.heap.size, 0, none⟩))) (w.alloc (.cells z.cells t)) := by
      have hiz : i.zero = some z := by rw [← k5]; exact hz
      simp only [execOp, Instr.alloc, zeroValue, newVar, newRow, Sem.run_bind, run_info hi, hiz, Result.andThen_ok, Sem.run_pure, run_newObj_alloc]
    split at hev
    · rename_i e hue
      split at hev
      · split at hev
        case isFalse => cases hev
        rename_i hzo
        injection hev with hev; injection hev with h1 h2; subst h1 h2
        have hzv : z = .slice none 0 0 := by
          unfold zOk at hzo
          split at hzo <;> first | rfl | (simp_all; done)
        subst hzv
        exact new_step hrel (by simp) hd hrun (ObR.ofCells (vals := [.slice none 0 0]) (noR_new hrel.stab) (alloc_new w _) ⟨rfl, fun j k1 k2 => by
          have : j = 0 := by simpa using k1
          subst this; exact .nils⟩ (fun v hv => by simp at hv; subst hv; rfl)) hn
      split at hev
      case h_2 => cases hev
      rename_i te hte
      split at hev
      case isFalse => cases hev
      rename_i hzo
      injection hev with hev; injection hev with h1 h2; subst h1 h2
      have hzv : z = .slice none 0 0 := by
        unfold zOk at hzo
        split at hzo <;> first | rfl | (simp_all; done)
      subst hzv
      refine new_step hrel (x := .acc te.size []) (by simp) hd hrun ⟨[], rfl, noR_new hrel.stab, _, t, alloc_new w _, rfl, .slnil _, .inl rfl, by simp [blockOf]⟩ hn
    · have plainz : ∀ zs, zerosOk z.cells.toList zs = true → (∀ a' w' R' bl', Rel LOK B nt (delO E dst) (updO pf dst (.box S.length 0)) (S ++ [.cells zs]) D a' w' R' bl' → next a' w') → (⟨dst, .alloc t, type, pos, after, guard⟩ : Oper).wpIn (fen ro) n P a w next Q := by
        intro zs hzo hn
        have hz2 := fun M => zerosOk_sound (R := R) (M := M) hzo
        refine new_step hrel (by simp) hd hrun (ObR.ofCells (vals := z.cells.toList) (noR_new hrel.stab) (by rw [Array.toArray_toList]; exact alloc_new w _) ⟨(hz2 []).1, fun j k1 k2 => ((hz2 _).2 j k1 k2).1⟩ (fun v hv => ?_)) hn
        obtain ⟨j, hj, rfl⟩ := List.getElem_of_mem hv
        exact ((hz2 []).2 j hj (by have := (hz2 []).1; omega)).2
      split at hev
      · split at hev
        case h_2 => cases hev
        rename_i zs hzs
        split at hev
        case isFalse => cases hev
        rename_i hzo
        injection hev with hev; injection hev with h1 h2; subst h1 h2
        exact plainz _ hzo hn
      split at hev
      case h_2 => cases hev
      rename_i zs hzs
      split at hev
      case isFalse => cases hev
      rename_i hzo
      injection hev with hev; injection hev with h1 h2; subst h1 h2
      have hz2 := fun M => zerosOk_sound (R := R) (M := M) hzo
      refine new_step hrel (by simp) hd hrun (ObR.ofCells (vals := z.cells.toList) (noR_new hrel.stab) (by rw [Array.toArray_toList]; exact alloc_new w _) ⟨(hz2 []).1, fun j k1 k2 => ((hz2 _).2 j k1 k2).1⟩ (fun v hv => ?_)) hn
      obtain ⟨j, hj, rfl⟩ := List.getElem_of_mem hv
      exact ((hz2 []).2 j hj (by have := (hz2 []).1; omega)).2
  case box t y =>
    have hE := trans_plain (o := ⟨dst, .box t y, type, pos, after, guard⟩) rfl rfl (.inl (by simp)) rfl (fun y => ⟨by simp, by simp⟩) htr
    subst hE
    have hrun : (execOp a.eval ⟨dst, .box t y, type, pos, after, guard⟩).run P w = .ok (.value (.pointer (some ⟨w.heap.size, 0, none⟩))) (w.alloc (.cells (a.eval y).cells t)) := by
      simp only [execOp, Instr.box, newVar, newRow, Sem.run_bind, Result.andThen_ok, Sem.run_pure, run_newObj_alloc]
    simp only [evObj] at hev
    split at hev
    · rename_i hy
      split at hev
      case h_2 => cases hev
      rename_i sz _ hnil
      injection hev with hev; injection hev with h1 h2; subst h1 h2
      have hv := opv_sound hrel.fr hy
      have hyv : a.eval y = .slice none 0 0 := by
        generalize a.eval y = u at hv
        cases hv; rfl
      rw [hyv] at hrun
      refine new_step hrel (x := .acc sz []) (by simp) hd hrun ⟨[], rfl, noR_new hrel.stab, _, t, alloc_new w _, rfl, .slnil _, .inl rfl, by simp [blockOf]⟩ hn
    · rename_i v hvn hy
      split at hev
      case isFalse => cases hev
      rename_i hflat
      injection hev with hev; injection hev with h1 h2; subst h1 h2
      have hv := opv_sound hrel.fr hy
      obtain ⟨hc1, hc2⟩ := hv.cells
      refine new_step hrel (by simp) hd hrun (ObR.ofCells (vals := (a.eval y).cells.toList) (noR_new hrel.stab) (by rw [Array.toArray_toList]; exact alloc_new w _) ⟨by simpa using hc1, fun j k1 k2 => ?_⟩ (fun u hu => ?_)) hn
      · have := hc2 j (by simpa using k1) k2
        have hM : ∀ (i b : Nat), (mains bl)[i]? = some b → (mains (bl ++ [(w.heap.size, [w.heap.size])]))[i]? = some b := fun i b hb => by
          rw [mains_append, List.getElem?_append_left (List.getElem?_eq_some_iff.1 hb).1]; exact hb
        simpa using this.monoM (fun _ _ h => h) hM
      · obtain ⟨j, hj, rfl⟩ := List.getElem_of_mem hu
        have hj' : j < (a.eval y).cells.size := by simpa using hj
        have := (hc2 j hj' (by omega)).flat (List.all_eq_true.1 hflat _ (List.getElem_mem (by omega)))
        simpa using this
    · cases hev
  case load t y =>
    have hl := hlt t y rfl
    obtain ⟨d, hds, hE⟩ := trans_take (o := ⟨dst, .load t y, type, pos, after, guard⟩) rfl hl htr
    simp only at hds hl
    subst hds
    subst hE
    simp only [evObj] at hev
    split at hev
    case h_2 => cases hev
    rename_i ty id off ht hy
    split at hev
    · rename_i sz xs hS
      split at hev
      case isFalse => cases hev
      rename_i hoff
      obtain ⟨rfl, hagg⟩ := hoff
      (try rw [if_pos hl] at hev)
      injection hev with hev; injection hev with h1 h2; subst h1 h2
      exact take_step hrel (o := ⟨some d, .load t y, type, pos, after, guard⟩) rfl rfl (hd d rfl) ht hagg hy hS hn
    · first | (rw [if_pos hl] at hev; cases hev) | cases hev
    · cases hev
  case makeSlice t ln cp =>
    have hE := trans_plain (o := ⟨dst, .makeSlice t ln cp, type, pos, after, guard⟩) rfl rfl (.inl (by simp)) rfl (fun y => ⟨by simp, by simp⟩) htr
    subst hE
    simp only [evObj] at hev
    unfold evMake at hev
    split at hev
    case h_2 => cases hev
    rename_i _ _ _ e _ ht
    obtain ⟨i, u, hi, hu, _, _, _, h6, _⟩ := tyOf_u ht
    have hdd := uOf_slice h6.symm
    subst hdd
    split at hev
    case h_2 => cases hev
    rename_i ty m1 m2 hte hl hc
    obtain ⟨ie, ue, hie, hue, g1, g2, g3, g4, g5⟩ := tyOf_u hte
    split at hev
    case isFalse => cases hev
    rename_i hcond
    obtain ⟨rfl, h0, c3, c4, c5⟩ := hcond
    split at hev
    case h_2 => cases hev
    rename_i z x hz hzs
    split at hev
    case isFalse => cases hev
    rename_i hzo
    injection hev with hev; injection hev with h1 h2; subst h1 h2
    have hlv := (opv_sound hrel.fr hl).int_inv
    have hcv := (opv_sound hrel.fr hc).int_inv
    have hzi : ie.zero = some z := by rw [← g5]; exact hz
    have hle : m1 ≤ m1 * ty.bytes := by
      have h1 : m1 * 1 ≤ m1 * (ty.bytes : Int) := Int.mul_le_mul_of_nonneg_left (by omega) h0
      simpa using h1
    have hr := run_make (P := P) w t e ie z hu hie hzi .i64 .i64 m1 m1 h0 (Int.le_refl _) (by rw [← g2, Int.mul_comm]; omega) (by omega)
    have hz1 : z.cells = #[z] := by
      have := (zOk_sound (R := R) (M := []) hzo).2
      cases z <;> first | rfl | (simp [Value.oneCell'] at this)
    rw [hz1, show m1.toNat * ie.size = m1.toNat by rw [← g1, c3, Nat.mul_one]] at hr
    have hcl : madeCells #[z] m1.toNat = (List.replicate m1.toNat z).toArray := by
      apply Array.toList_inj.1; rw [toList_madeCells_one]
    rw [hcl] at hr
    have hrun : (execOp a.eval ⟨dst, .makeSlice t ln cp, type, pos, after, guard⟩).run P w = .ok (.value (.slice (some ⟨w.heap.size, 0, none⟩) m1.toNat m1.toNat)) (w.alloc (.cells (List.replicate m1.toNat z).toArray e)) := by
      simp [execOp, hlv, hcv, hr]
    have hbl : (mains bl).length = S.length := by rw [← hrel.sr.len]; simp [mains]
    have hold : ∀ k, k ≠ w.heap.size → k < w.heap.size → (w.alloc (.cells (List.replicate m1.toNat z).toArray e)).heap[k]? = w.heap[k]? := fun k _ hk => by
      show (w.heap.push _)[k]? = _
      rw [Array.getElem?_push, if_neg (by omega)]
    have hsz : (w.alloc (.cells (List.replicate m1.toNat z).toArray e)).heap.size = w.heap.size + 1 := Array.size_push ..
    have hnf : w.heap.size ∉ fp bl := fun hf => by have := hrel.sr.lt _ hf; omega
    have hi0 : ∀ j, (none : Option Nat) = some j → ∃ p, bl[j]? = some p := fun j e => by cases e
    refine wpIn_value (by simp) hrun (hn _ _ R (rowBL bl none w.heap.size m1.toNat) ?_)
    refine hrel.put_plain (hrel.stp.row (w' := w.alloc (.cells (List.replicate m1.toNat z).toArray e)) hi0 (.inr (Nat.le_refl _)) (by omega) rfl rfl rfl hold (noR_new hrel.stab)) (fun _ _ h => h) (fun j b hb => ?_) (hrel.sr.row hi0 (.inr hnf) (by omega) (by omega) hold ?_) ?_ hd (fun s g hsg b hb => ?_)
    · rw [mains_rowBL hi0, List.getElem?_append_left (List.getElem?_eq_some_iff.1 hb).1]; exact hb
    · refine ⟨rfl, ?_, noR_new hrel.stab, _, e, m1.toNat, alloc_new w _, ?_, by simp, by simp, fun j k1 k2 => ?_⟩
      · rw [List.getElem?_append_right (by rw [hbl]; exact Nat.le_refl _), hbl]; simp
      · rw [List.getElem?_append_right (by rw [hbl]; omega), hbl]; simp
      · simp only [List.getElem_toArray, List.getElem_replicate]
        exact zOk_sound hzo
    · rw [mains_rowBL hi0]
      refine .row _ _ _ _ _ _ m1.toNat ?_ ?_ (Nat.le_refl _) (by omega) (by unfold maxLen; omega)
      · rw [List.getElem?_append_right (by rw [hbl]; exact Nat.le_refl _), hbl]; simp
      · rw [List.getElem?_append_right (by rw [hbl]; omega), hbl]; simp
    · obtain ⟨sz, xs, _, h5⟩ := hrel.own s g hsg
      have hlt := (h5.lt hb).2
      refine ⟨hold b (by omega) hlt, fun q u hq => .inl hq, fun hf => ?_⟩
      rcases fp_rowBL hi0 hf with hf | hf
      · exact (hrel.mine s g hsg b hb).2 hf
      · omega
  case store t y z =>
    simp only [evObj] at hev
    split at hev
    case h_2 => cases hev
    rename_i ty id off v ht hy hz
    split at hev
    case h_2 => cases hev
    rename_i cs hS
    split at hev
    case isFalse => cases hev
    rename_i hcond
    obtain ⟨h1, h2, h3⟩ := hcond
    by_cases hg : gives own ops z = true
    · unfold trans at htr
      simp only [givesOp, hg, if_true] at htr
      split at htr
      case h_2 => cases htr
      rename_i zt
      split at htr
      case h_2 => cases htr
      rename_i g hfg
      injection htr with htr; subst htr
      have hm := findE_mem hfg
      obtain ⟨sz, xs, h4, h5⟩ := hrel.own zt g hm
      have hzv : v = .sl sz xs := by
        simp only [opv] at hz; injection hz with hz; rw [← hz, h4]
      subst hzv
      simp only [hg, true_and] at hev
      split at hev
      · rename_i hcs
        injection hev with hev; injection hev with e1 e2; subst e1 e2
        exact give_step hrel (o := ⟨none, .store t y (.tmp zt), type, pos, after, none⟩) rfl rfl ht hfg hy h4 hS (fun rid cs' h => by rw [h] at hcs; simp [isRowo] at hcs) hcs.1 h1 h3 hn
      · injection hev with hev; injection hev with e1 e2; subst e1 e2
        refine store_step hrel (o := ⟨none, .store t y (.tmp zt), type, pos, after, none⟩) hd rfl ht hy hz hS h1 h2 h3 fun a' w' R' bl' hr => hn a' w' R' bl' ?_
        exact ⟨hr.size, hr.defers, hr.fr, hr.sr, hr.stp, fun s g' hs => hr.own s g' (mem_dropG.1 hs).1, fun s g' hs => hr.mine s g' (mem_dropG.1 hs).1, fun s g' s' g'' k1 k2 => hr.dist s g' s' g'' (mem_dropG.1 k1).1 (mem_dropG.1 k2).1⟩
    · have hE := trans_plain (own := own) (o := ⟨dst, .store t y z, type, pos, after, guard⟩) (by simp [givesOp, hg]) rfl (.inl (by simp)) rfl (fun y => ⟨by simp, by simp⟩) htr
      subst hE
      rw [if_neg (by intro h; exact hg h.1)] at hev
      injection hev with hev; injection hev with e1 e2; subst e1 e2
      exact store_step hrel (o := ⟨dst, .store t y z, type, pos, after, guard⟩) hd rfl ht hy hz hS h1 h2 h3 hn

/-- A nil row that is told apart; a struct of such. -/
theorem nil_step (hrel : Rel LOK B nt E pf S D a w R bl) {o : Oper} {x : AV} (hd : ∀ d, o.dst = some d → d < nt) (hev : evNil P own o.op o.type pf = some x) (htr : trans own ops E o = some E')
    (hn : ∀ a' w' R' bl', Rel LOK B nt E' (updO pf o.dst x) S D a' w' R' bl' → next a' w') : o.wpIn (fen ro) n P a w next Q := by
  obtain ⟨dst, op, type, pos, after, guard⟩ := o
  have fin : ∀ v, (execOp a.eval ⟨dst, op, type, pos, after, guard⟩).run P w = .ok (.value v) w → (∀ c, op ≠ .defer c) → VR R (mains bl) v x → E' = delO E dst → (⟨dst, op, type, pos, after, guard⟩ : Oper).wpIn (fen ro) n P a w next Q := by
    intro v hr hnd hv hE
    subst hE
    refine wpIn_value hnd hr (hn _ w R bl ?_)
    exact hrel.put_plain hrel.stp (fun _ _ h => h) (fun _ _ h => h) hrel.sr hv hd (fun s g hsg b hb => ⟨rfl, fun q u hq => .inl hq, (hrel.mine s g hsg b hb).2⟩)
  have hmvE : ∀ y, (op = .move y ∨ op = .assign y) → opv pf y = some .nils → nilT own type = true → E' = delO E dst := by
    intro y hop hy ht
    have hyt : ∀ t, y = .tmp t → findE E t = none := by
      rintro t rfl
      cases hf : findE E t with
      | none => rfl
      | some g =>
        obtain ⟨sz, xs, h1, _⟩ := hrel.own t g (findE_mem hf)
        simp only [opv, h1] at hy
        injection hy with hy; cases hy
    unfold trans at htr
    rcases hop with rfl | rfl
    all_goals
      simp only [givesOp, isApp] at htr
      split at htr
      · simp at htr; subst htr; rfl
      · rename_i d
        show E' = delE E d
        split at htr
        · cases htk : takes own ops (some d)
          · simp [htk] at htr; exact htr.symm
          · simp [htk] at htr
        · cases y with
          | tmp t => simp [hyt t rfl] at htr; exact htr.symm
          | const v => simp [ht] at htr; exact htr.symm
          | global g => cases hy
          | func f => simp [opv] at hy
  have hmv : ∀ y, (op = .move y ∨ op = .assign y) → opv pf y = some .nils → nilT own type = true → x = .nils → (⟨dst, op, type, pos, after, guard⟩ : Oper).wpIn (fen ro) n P a w next Q := by
    intro y hop hy ht hx
    subst hx
    exact fin (a.eval y) (by rcases hop with rfl | rfl <;> simp [execOp]) (by rcases hop with rfl | rfl <;> simp) (opv_sound hrel.fr hy) (hmvE y hop hy ht)
  cases op <;> try (simp [evNil] at hev; done)
  case move y =>
    simp only [evNil] at hev
    split at hev
    case h_2 => cases hev
    rename_i hy
    split at hev
    case isFalse => cases hev
    rename_i hc
    injection hev with hev
    exact hmv y (.inl rfl) hy hc hev.symm
  case assign y =>
    simp only [evNil] at hev
    split at hev
    case h_2 => cases hev
    rename_i hy
    split at hev
    case isFalse => cases hev
    rename_i hc
    injection hev with hev
    exact hmv y (.inr rfl) hy hc hev.symm
  case build t parts =>
    have hE := trans_plain (o := ⟨dst, .build t parts, type, pos, after, guard⟩) rfl rfl (.inl (by simp)) rfl (fun y => ⟨by simp, by simp⟩) htr
    simp only [evNil] at hev
    split at hev
    case isFalse => cases hev
    obtain ⟨v, hr, hv⟩ := evBuildN_sound (w := w) (o := ⟨dst, .build t parts, type, pos, after, guard⟩) rfl hrel.fr hev
    exact fin v hr (by simp) hv hE

/-- One operation that is done. -/
theorem op_step (hcall : ∀ c, COK LOK P C own c (call c)) (hcb : ∀ f avs S r, call (.f f) avs S = some r → callable P f = true) (hGB : Gd C B.R B.bl B.w) (hrel : Rel LOK B nt E pf S D a w R bl)
    {o : Oper} {x : AV} (hd : ∀ d, o.dst = some d → d < nt) (hev : evOp P own call ops o pf S = some (x, S')) (htr : trans own ops E o = some E')
    (hn : ∀ a' w' R' bl', Rel LOK B nt E' (updO pf o.dst x) S' D a' w' R' bl' → next a' w') : o.wpIn (fen ro) n P a w next Q := by
  have hnil : evNil P own o.op o.type pf = none ∨ ∃ y, evNil P own o.op o.type pf = some y ∧ x = y ∧ S' = S := by
    unfold evOp at hev
    split at hev
    · rename_i y hy
      injection hev with hev; injection hev with e1 e2
      exact .inr ⟨y, hy, e1.symm, e2.symm⟩
    · rename_i hy; exact .inl hy
  rcases hnil with hnil | ⟨y, hy, rfl, rfl⟩
  case inr => exact nil_step hrel hd hy htr hn
  have plain : (evOpD P call S o pf).map (fun x => (x, S)) = some (x, S') → givesOp own ops o.op = none → isApp o.op = false → ((∀ t y, o.op ≠ .load t y) ∨ takes own ops o.dst = false) → o.wpIn (fen ro) n P a w next Q := by
    intro h hg ha hl
    simp only [Option.map_eq_some_iff] at h
    obtain ⟨x', hx', he⟩ := h
    injection he with e1 e2
    subst e1 e2
    exact opD_val hcall hcb (hGB.rel hrel) hrel.stab hrel.sr hrel.fr hx' fun v w' R' hst hv hO hmv => hn _ w' R' bl (hrel.step_D hd hg ha hl htr hst hv hO hmv)
  obtain ⟨dst, op, type, pos, after, guard⟩ := o
  cases op
  all_goals (unfold evOp at hev; rw [hnil] at hev)
  case alloc t => exact step_obj hrel hd hev (by simp) htr hn
  case box t y => exact step_obj hrel hd hev (by simp) htr hn
  case store t y z => exact step_obj hrel hd hev (by simp) htr hn
  case makeSlice t y z => exact step_obj hrel hd hev (by simp) htr hn
  case load t y =>
    simp only at hev
    split at hev
    · rename_i hl
      exact step_obj hrel hd hev (fun _ _ _ => hl) htr hn
    · rename_i hl
      exact plain hev rfl rfl (.inr (by simpa using hl))
  case call c =>
    obtain ⟨cal, args, tys⟩ := c
    cases cal with
    | value fo =>
      simp only at hev
      split at hev
      · rename_i k fs cs avs hk ha
        split at hev
        · rename_i v hv
          refine plain ?_ rfl rfl (.inl (by simp))
          simp only [evOpD, hk, ha, hv]
          exact hev
        · simp only [okRes, Option.bind_eq_some_iff] at hev
          obtain ⟨p, hp, he⟩ := hev
          split at he
          · cases he
          · rename_i hnp
            injection he with he
            injection he with e1 e2
            subst e1 e2
            exact call_step hcall hcb hGB hrel hd hk ha hp (by simpa using hnp) htr hn
      · cases hev
    | invoke r m => exact plain hev rfl rfl (.inl (by simp))
    | builtin b =>
      cases b
      case append =>
        simp only at hev
        split at hev
        · rename_i hrow
          exact rapp_step hrel hd rfl hrow hev htr hn
        · rename_i hrow
          simp only [Option.map_eq_some_iff] at hev
          obtain ⟨x', hx', he⟩ := hev
          injection he with e1 e2
          subst e1 e2
          exact app_step hrel hd rfl (by simpa using hrow) hx' htr hn
      all_goals exact plain hev rfl rfl (.inl (by simp))
  all_goals exact plain hev rfl rfl (.inl (by simp))

theorem VR.undef_inv {v : Value} (h : VR R M v .undef) : v = Go.undef := by cases h; rfl

theorem wantA_sound {o : Oper} {b : Bool} (hf : FrR R M a.tmps pf) (h : wantA ops pf o = some b) : Region.wanted o (yielded ops a.tmps) = b := by
  unfold wantA at h
  unfold Region.wanted
  split at h
  · rename_i hg; injection h with h; subst h; simp [hg]
  · rename_i j c hg
    simp only [hg]
    unfold yielded
    split at h
    · rename_i d hd
      simp only [hd, Option.bind_some]
      have hv := hf d
      split at h
      · rename_i t ht
        injection h with h; subst h
        rw [ht] at hv
        have hv' := hv.bool_inv
        rw [Array.getD_eq_getD_getElem?] at hv'
        cases hx : a.tmps[d]? with
        | none => rw [hx] at hv'; cases hv'
        | some u => rw [hx] at hv'; simp at hv'; subst hv'; cases t <;> cases c <;> rfl
      · rename_i ht
        injection h with h; subst h
        rw [ht] at hv
        have hv' := hv.undef_inv
        rw [Array.getD_eq_getD_getElem?] at hv'
        cases hx : a.tmps[d]? with
        | none => rfl
        | some u => rw [hx] at hv'; simp at hv'; subst hv'; rfl
      · cases h
    · rename_i hd
      injection h with h; subst h
      simp [hd]

theorem trans_skip {o : Oper} (hg : o.guard.isSome = true) (h : trans own ops E o = some E') : E' = delO E o.dst := by
  unfold trans at h
  split at h
  · split at h
    · rename_i hgg _; simp_all
    · cases h
  · split at h
    · rename_i hd
      split at h
      · cases h
      · injection h with h; subst h; simp [delO, hd]
    · rename_i d hd
      rw [if_pos hg] at h
      split at h
      · cases h
      · injection h with h; subst h; simp [delO, hd]

theorem rgn_sound (hcall : ∀ c, COK LOK P C own c (call c)) (hcb : ∀ f avs S r, call (.f f) avs S = some r → callable P f = true) (hGB : Gd C B.R B.bl B.w) :
    ∀ (l : List Oper) {pf pf' : PF} {S S' : Obs} {E E' : Env} {a : Act} {w : World} {R : Reads} {bl : BL},
      rgn P own call ops l pf S = some (pf', S') → transL own ops l E = some E' → dstsOk nt l = true → Rel LOK B nt E pf S D a w R bl →
      (∀ a' w' R' bl', Rel LOK B nt E' pf' S' D a' w' R' bl' → Q .normal a' w') → wpListIn (fen ro) n P ops Q l a w
  | [], pf, pf', S, S', E, E', a, w, R, bl, h, ht, _, hrel, hn => by
    simp only [rgn] at h; injection h with h; injection h with h1 h2; subst h1 h2
    simp only [transL] at ht; injection ht with ht; subst ht
    exact hn a w R bl hrel
  | o :: r, pf, pf', S, S', E, E', a, w, R, bl, h, ht, hd, hrel, hn => by
    simp only [transL] at ht
    split at ht
    case h_2 => cases ht
    rename_i E1 hE1
    simp only [dstsOk, List.all_cons, Bool.and_eq_true] at hd
    have hdo : ∀ d, o.dst = some d → d < nt := fun d hd' => by have := hd.1; rw [hd'] at this; simpa using this
    simp only [rgn] at h
    unfold wpListIn
    split at h
    · rename_i hw
      rw [if_pos (wantA_sound hrel.fr hw)]
      split at h
      · rename_i x S1 hx
        refine op_step hcall hcb hGB hrel hdo hx hE1 fun a' w' R' bl' hrel' => ?_
        exact rgn_sound hcall hcb hGB r h ht hd.2 hrel' hn
      · cases h
    · rename_i hw
      rw [if_neg (by rw [wantA_sound hrel.fr hw]; simp)]
      have hgs : o.guard.isSome = true := by
        unfold wantA at hw
        split at hw
        · cases hw
        · rename_i hg; simp [hg]
      have hE := trans_skip hgs hE1
      subst hE
      refine ⟨fun _ _ => trivial, rgn_sound hcall hcb hGB r h ht hd.2 (a := a.put o.dst Go.undef) (w := w) (R := R) (bl := bl) ?_ hn⟩
      exact hrel.put_plain hrel.stp (fun _ _ h => h) (fun _ _ h => h) hrel.sr .undef hdo fun s g hsg b hb => ⟨rfl, fun q u hq => .inl hq, (hrel.mine s g hsg b hb).2⟩
    · cases h

theorem Rel.weak0 (hrel : Rel LOK B nt E pf S D a w R bl) : Rel LOK B nt [] pf S D a w R bl :=
  ⟨hrel.size, hrel.defers, hrel.fr, hrel.sr, hrel.stp, by simp, by simp, by simp⟩

theorem rgnP_sound (hcall : ∀ c, COK LOK P C own c (call c)) (hcb : ∀ f avs S r, call (.f f) avs S = some r → callable P f = true) (hGB : Gd C B.R B.bl B.w) :
    ∀ (l : List Oper) {pf : PF} {x : AV} {S S' : Obs} {E E' : Env} {a : Act} {w : World} {R : Reads} {bl : BL},
      rgnP P own call ops l pf S = some (x, S') → transL own ops l E = some E' → dstsOk nt l = true → Rel LOK B nt E pf S D a w R bl →
      (∀ u a' w' R' bl' pf', VR R' (mains bl') u x → Rel LOK B nt [] pf' S' D a' w' R' bl' → Q (.panic [{ v := u, recovered := false }]) a' w') → wpListIn (fen ro) n P ops Q l a w
  | [], pf, x, S, S', E, E', a, w, R, bl, h, ht, _, hrel, hn => by cases h
  | o :: r, pf, x, S, S', E, E', a, w, R, bl, h, ht, hd, hrel, hn => by
    simp only [transL] at ht
    split at ht
    case h_2 => cases ht
    rename_i E1 hE1
    simp only [dstsOk, List.all_cons, Bool.and_eq_true] at hd
    have hdo : ∀ d, o.dst = some d → d < nt := fun d hd' => by have := hd.1; rw [hd'] at this; simpa using this
    simp only [rgnP] at h
    unfold wpListIn
    split at h
    · rename_i hw
      rw [if_pos (wantA_sound hrel.fr hw)]
      split at h
      · rename_i x1 S1 hx
        refine op_step hcall hcb hGB hrel hdo hx hE1 fun a' w' R' bl' hrel' => ?_
        exact rgnP_sound hcall hcb hGB r h ht hd.2 hrel' hn
      · exact pan_step hcall hcb hGB hrel h fun u w' R' bl' hu hrel' => hn u a w' R' bl' _ hu hrel'.weak0
    · rename_i hw
      rw [if_neg (by rw [wantA_sound hrel.fr hw]; simp)]
      have hgs : o.guard.isSome = true := by
        unfold wantA at hw
        split at hw
        · cases hw
        · rename_i hg; simp [hg]
      have hE := trans_skip hgs hE1
      subst hE
      refine ⟨fun _ _ => trivial, rgnP_sound hcall hcb hGB r h ht hd.2 (a := a.put o.dst Go.undef) (w := w) (R := R) (bl := bl) ?_ hn⟩
      exact hrel.put_plain hrel.stp (fun _ _ h => h) (fun _ _ h => h) hrel.sr .undef hdo fun s g hsg b hb => ⟨rfl, fun q u hq => .inl hq, (hrel.mine s g hsg b hb).2⟩
    · cases h

end
end Go.Proofs.YtmcfnnpihlediaaGreatDoor.Ex

/- A region that draws its order comes to what the text's order comes to. -/
namespace Go.Proofs.YtmcfnnpihlediaaGreatDoor.Ex
open Go Go.RowKit

/-- What may change objects, by a table; what may but lay new ones behind. -/
def effF (own : FuncId → Bool) (f : FuncId) : Bool := own (f + 1000000)
def extF (own : FuncId → Bool) (f : FuncId) : Bool := own (f + 2000000)
def isEff (own : FuncId → Bool) : Op → Bool
  | .alloc _ => true
  | .box _ _ => true
  | .store _ _ _ => true
  | .call c => (match c.callee with | .value (.func f) => effF own f | _ => false)
  | _ => false
def isExt (own : FuncId → Bool) : Op → Bool
  | .alloc _ => true
  | .box _ _ => true
  | .call c => (match c.callee with | .value (.func f) => extF own f | _ => false)
  | _ => false
def isLoad : Op → Bool
  | .load _ _ => true
  | _ => false

open Classical in
noncomputable def keepS (b : Bool) (S : Obs) (p : AV × Obs) : Option (AV × Obs) :=
  match b with
  | true => if p.2.take S.length = S then some p else none
  | false => some p

/-- A store into none of the objects that are read by whoever does not surely stand ahead. -/
def softOk (ops : Array Oper) (o : Oper) (pf : PF) : Bool :=
  match o.op with
  | .store _ x _ =>
    (match opv pf x with
    | some (.box id _) => ops.toList.zipIdx.all fun p =>
        (match p.1.op with
        | .load _ y => (o.after.toList.any fun ed => Region.binds .any ed && ed.on == p.2) || (match opv pf y with | some (.box id' _) => id' != id | _ => true)
        | _ => true)
    | _ => true)
  | _ => true

/-- May a load not be ordered with a store? Where it stands ahead, and its slot is not written any more. -/
def softPair (ops : Array Oper) (i j : Nat) : Op → Op → Bool
  | .store _ _ _, .load _ (.tmp s) => decide (i < j) && (List.range ops.size).all fun k => decide (k < i) || (match ops[k]? with | some ok => ok.dst != some s | none => true)
  | _, _ => false

noncomputable def evX (P : Program) (own : FuncId → Bool) (call : CallT) (ops : Array Oper) (S : Obs) (o : Oper) (pf : PF) : Option (AV × Obs) :=
  match isEff own o.op with
  | true => (match softOk ops o pf with | true => (evOp P own call ops o pf S).bind (keepS (isExt own o.op) S) | false => none)
  | false => (evOpD P call S o pf).map fun x => (x, S)

noncomputable def rgnD (P : Program) (own : FuncId → Bool) (call : CallT) (ops : Array Oper) : List Oper → PF → Obs → Option (PF × Obs)
  | [], pf, S => some (pf, S)
  | o :: r, pf, S =>
    match wantA ops pf o with
    | some true => (match evX P own call ops S o pf with | some p => rgnD P own call ops r (updO pf o.dst p.1) p.2 | none => none)
    | some false => rgnD P own call ops r (updO pf o.dst .undef) S
    | none => none

section
variable {LOK : LoopA → Prop} {P : Program} {C : Gee} {own : FuncId → Bool} {call : CallT} {R : Reads} {w w' : World} {a : Act} {pf : PF} {bl : BL} {S S' : Obs} {D : List Nat} {B : Base}
  {nt : Nat} {E E' : Env} {ro : Option Nat} {n : Nat}

/-! ### A region that draws its order -/
theorem opv_congr {pf pf' : PF} {x : Operand} (h : ∀ t, x = .tmp t → pf t = pf' t) : opv pf x = opv pf' x := by
  cases x with
  | tmp t => simp [opv, h t rfl]
  | _ => rfl

theorem opvs_congr {pf pf' : PF} : ∀ {xs : List Operand}, (∀ t, .tmp t ∈ xs → pf t = pf' t) → opvs pf xs = opvs pf' xs
  | [], _ => rfl
  | x :: r, h => by
    simp only [opvs]
    rw [opv_congr (pf := pf) (pf' := pf') (x := x) fun t ht => h t (by simp [ht]), opvs_congr (xs := r) fun t ht => h t (by simp [ht])]

theorem evBuiltin_congr {pf pf' : PF} {b : Builtin} {xs : List Operand} {tys : List TypeId} (h : ∀ t, .tmp t ∈ xs → pf t = pf' t) : evBuiltin P b xs tys pf = evBuiltin P b xs tys pf' := by
  unfold evBuiltin
  split
  · rename_i x t
    rw [opv_congr (pf := pf) (pf' := pf') (x := x) fun t ht => h t (by simp [ht])]
  · rename_i _ x y
    rw [opv_congr (pf := pf) (pf' := pf') (x := x) fun t ht => h t (by simp [ht]), opv_congr (pf := pf) (pf' := pf') (x := y) fun t ht => h t (by simp [ht])]
  · rename_i _ x y
    rw [opv_congr (pf := pf) (pf' := pf') (x := x) fun t ht => h t (by simp [ht]), opv_congr (pf := pf) (pf' := pf') (x := y) fun t ht => h t (by simp [ht])]
  · rfl

theorem evPlain_congr {pf pf' : PF} {o : Oper} (hnc : ∀ c, o.op ≠ .call c) (h : ∀ t, .tmp t ∈ o.op.operands → pf t = pf' t) : evPlain P o.op o.type pf = evPlain P o.op o.type pf' := by
  obtain ⟨dst, op, type, pos, after, guard⟩ := o
  cases op <;> simp only [evPlain, Op.operands] at h ⊢ <;> try (first | rfl | (rw [opv_congr (pf := pf) (pf' := pf') fun t ht => h t (by simp [ht])]; done))
  case pick c y z =>
    rw [opv_congr (pf := pf) (pf' := pf') (x := c) fun t ht => h t (by simp [ht]), opv_congr (pf := pf) (pf' := pf') (x := y) fun t ht => h t (by simp [ht]), opv_congr (pf := pf) (pf' := pf') (x := z) fun t ht => h t (by simp [ht])]
  case binOp op T y z T2 =>
    rw [opv_congr (pf := pf) (pf' := pf') (x := y) fun t ht => h t (by simp [ht]), opv_congr (pf := pf) (pf' := pf') (x := z) fun t ht => h t (by simp [ht])]
  case index t y z =>
    rw [opv_congr (pf := pf) (pf' := pf') (x := y) fun t ht => h t (by simp [ht]), opv_congr (pf := pf) (pf' := pf') (x := z) fun t ht => h t (by simp [ht])]
  case indexAddr t y z =>
    rw [opv_congr (pf := pf) (pf' := pf') (x := y) fun t ht => h t (by simp [ht]), opv_congr (pf := pf) (pf' := pf') (x := z) fun t ht => h t (by simp [ht])]
  case slice t y lo hi mx =>
    have hl : lo.mapM (opv pf) = lo.mapM (opv pf') := by
      cases lo with
      | none => rfl
      | some lo => simp; rw [opv_congr (pf := pf) (pf' := pf') (x := lo) fun t ht => h t (by simp [ht])]
    have hh : hi.mapM (opv pf) = hi.mapM (opv pf') := by
      cases hi with
      | none => rfl
      | some hi => simp; rw [opv_congr (pf := pf) (pf' := pf') (x := hi) fun t ht => h t (by simp [ht])]
    rw [hl, hh, opv_congr (pf := pf) (pf' := pf') (x := y) fun t ht => h t (by simp [ht])]
  case call c => exact absurd rfl (hnc c)

theorem putPart_congr {pf pf' : PF} {fs : List (TypeId × Nat)} : ∀ {parts : List (Nat × Operand)} {cs : List AV}, (∀ t, .tmp t ∈ parts.map (·.2) → pf t = pf' t) → putPart P fs pf parts cs = putPart P fs pf' parts cs
  | [], cs, h => rfl
  | (i, x) :: r, cs, h => by
    simp only [putPart]
    rw [opv_congr (pf := pf) (pf' := pf') (x := x) fun t ht => h t (by simp [ht])]
    simp only [putPart_congr (parts := r) fun t ht => h t (by simp only [List.map_cons, List.mem_cons]; exact .inr ht)]

theorem evPlace_congr {pf pf' : PF} {op : Op} (h : ∀ t, .tmp t ∈ op.operands → pf t = pf' t) : evPlace P op pf = evPlace P op pf' := by
  cases op <;> simp only [evPlace, Op.operands] at h ⊢ <;> try (first | rfl | (rw [opv_congr (pf := pf) (pf' := pf') fun t ht => h t (by simp [ht])]; done))
  case build t parts =>
    unfold evBuild
    simp only [putPart_congr (pf := pf) (pf' := pf') (parts := parts.toList) fun t ht => h t (by
      simp only [List.mem_map] at ht
      obtain ⟨p, hp, he⟩ := ht
      simp only [List.mem_toArray, List.mem_map]
      exact ⟨p, hp, he⟩)]
  case makeFunc fn first caps =>
    rw [opvs_congr (pf := pf) (pf' := pf') (xs := first.toList) fun t ht => h t (by simp; left; simpa using ht), opvs_congr (pf := pf) (pf' := pf') (xs := caps.toList) fun t ht => h t (by simp; right; simpa using ht)]

theorem calleeAV_congr {pf pf' : PF} {x : Operand} (h : ∀ t, x = .tmp t → pf t = pf' t) : calleeAV pf x = calleeAV pf' x := by
  cases x with
  | tmp t => simp only [calleeAV]; rw [h t rfl]
  | _ => rfl

theorem evOp_congr {pf pf' : PF} {o : Oper} (happ : isApp o.op = false) (h : ∀ t, .tmp t ∈ o.op.operands → pf t = pf' t) : evOpD P call S o pf = evOpD P call S o pf' := by
  obtain ⟨dst, op, type, pos, after, guard⟩ := o
  have plain : (∀ c, op ≠ .call c) → evPlain P op type pf = evPlain P op type pf' := fun hnc => evPlain_congr (o := ⟨dst, op, type, pos, after, guard⟩) hnc h
  have place : evPlace P op pf = evPlace P op pf' := evPlace_congr h
  cases op
  case load t y =>
    simp only [evOpD]
    rw [opv_congr (pf := pf) (pf' := pf') (x := y) fun t ht => h t (by simp [Op.operands, ht])]
  case fieldAddr t y f => exact place
  case nilCheck y => exact place
  case makeFunc fn first caps => exact place
  case build t parts => exact place
  case alloc t => rfl
  case box t y => rfl
  case store t y z => rfl
  case buildSlice t n parts =>
    simp only [evOpD]
    unfold evBS
    rw [opvs_congr (pf := pf) (pf' := pf') fun t ht => h t ?_]
    simp only [List.mem_map] at ht
    obtain ⟨p, hp, he⟩ := ht
    simp only [Op.operands, List.mem_toArray, List.mem_map]
    exact ⟨p, hp, he⟩
  case call c =>
    obtain ⟨cal, args, tys⟩ := c
    have hargs : ∀ t, .tmp t ∈ args.toList → pf t = pf' t := fun t ht => h t (by simp [Op.operands, Call.operands]; exact .inr (by simpa using ht))
    cases cal with
    | value fo =>
      simp only [evOpD]
      rw [opvs_congr hargs, calleeAV_congr (pf := pf) (pf' := pf') fun t ht => h t (by simp [Op.operands, Call.operands, ht])]
    | invoke r m => rfl
    | builtin b => cases b <;> first | (cases happ; done) | (simp only [evOpD]; first | done | (rw [evBuiltin_congr hargs]; done))
  all_goals exact plain (by simp)

theorem evOp_congrE {pf pf' : PF} {ops : Array Oper} {o : Oper} (he : isEff own o.op = true) (h : ∀ t, .tmp t ∈ o.op.operands → pf t = pf' t) : evOp P own call ops o pf S = evOp P own call ops o pf' S := by
  obtain ⟨dst, op, type, pos, after, guard⟩ := o
  cases op with
  | alloc t => rfl
  | box t y =>
    have e : opv pf y = opv pf' y := opv_congr fun t ht => h t (by simp [Op.operands, ht])
    simp only [evOp, evNil, evObj, e]
  | store t y z =>
    have e1 : opv pf y = opv pf' y := opv_congr fun t ht => h t (by simp [Op.operands, ht])
    have e2 : opv pf z = opv pf' z := opv_congr fun t ht => h t (by simp [Op.operands, ht])
    simp only [evOp, evNil, evObj, e1, e2]
  | call c =>
    obtain ⟨cal, args, tys⟩ := c
    cases cal with
    | value x =>
      have e1 : calleeAV pf x = calleeAV pf' x := calleeAV_congr fun t ht => h t (by simp [Op.operands, Call.operands, ht])
      have e2 : opvs pf args.toList = opvs pf' args.toList := opvs_congr fun t ht => h t (by simp [Op.operands, Call.operands]; exact .inr (by simpa using ht))
      simp only [evOp, evNil, e1, e2]
    | invoke r m => cases he
    | builtin b => cases he
  | _ => cases he

theorem rgnD_append {ops : Array Oper} : ∀ (l1 l2 : List Oper) (pf : PF) (S : Obs), rgnD P own call ops (l1 ++ l2) pf S = (rgnD P own call ops l1 pf S).bind fun p => rgnD P own call ops l2 p.1 p.2
  | [], l2, pf, S => rfl
  | o :: r, l2, pf, S => by
    simp only [List.cons_append, rgnD]
    split
    · split
      · exact rgnD_append r l2 _ _
      · rfl
    · exact rgnD_append r l2 _ _
    · rfl

theorem updO_other {pf : PF} {d : Option Nat} {x : AV} {t : Nat} (h : d ≠ some t) : updO pf d x t = pf t := by
  cases d with
  | none => rfl
  | some d => simp only [updO, upd]; rw [if_neg]; intro e; exact h (by rw [e])

theorem rgnD_other {ops : Array Oper} : ∀ (l : List Oper) {pf : PF} {S : Obs} {p : PF × Obs} {t : Nat}, rgnD P own call ops l pf S = some p → (∀ o ∈ l, o.dst ≠ some t) → p.1 t = pf t
  | [], pf, S, p, t, h, _ => by simp only [rgnD] at h; injection h with h; rw [← h]
  | o :: r, pf, S, p, t, h, hd => by
    simp only [rgnD] at h
    have h0 := hd o (by simp)
    have hr := fun o' ho' => hd o' (List.mem_cons_of_mem _ ho')
    split at h
    · split at h
      · rw [rgnD_other r h hr, updO_other h0]
      · cases h
    · rw [rgnD_other r h hr, updO_other h0]
    · cases h

/-- The operations that surely stand ahead, of each. -/
def insL (l : List Nat) (x : Nat) : List Nat := if l.contains x then l else x :: l
def befs (ops : List Oper) : List (List Nat) :=
  ops.foldl (fun acc o => acc ++ [(o.after.toList.filter (Region.binds .any)).foldl (fun l e => (acc.getD e.on []).foldl insL (insL l e.on)) []]) []

def drawOk (own : FuncId → Bool) (ops : Array Oper) : Bool :=
  let B := befs ops.toList
  (List.range ops.size).all fun j =>
    match ops[j]? with
    | none => true
    | some oj =>
      (!isEff own oj.op || ((givesOp own ops oj.op).isNone && !ownOp own oj.op && !takes own ops oj.dst &&
        (List.range ops.size).all fun i =>
          i == j ||
          match ops[i]? with
          | none => true
          | some oi => !(isEff own oi.op || isLoad oi.op) || (if i < j then (B.getD j []).contains i else (B.getD i []).contains j) || (isExt own oj.op && !isEff own oi.op) || softPair ops i j oj.op oi.op)) &&
      (!isApp oj.op && (oj.after.toList.all fun e => !Region.binds .any e || e.on < j)) &&
      (List.range ops.size).all fun i =>
        i == j ||
        match (ops[i]?).bind (·.dst) with
        | none => true
        | some d => oj.dst != some d && (!(oj.looksAt ops).contains d || (if i < j then (B.getD j []).contains i else (B.getD i []).contains j))

theorem mem_insL {l : List Nat} {x y : Nat} (h : y ∈ insL l x) : y = x ∨ y ∈ l := by
  unfold insL at h
  split at h
  · exact .inr h
  · simpa using h

theorem mem_foldl_insL : ∀ {xs l : List Nat} {y : Nat}, y ∈ xs.foldl insL l → y ∈ xs ∨ y ∈ l
  | [], l, y, h => .inr h
  | x :: r, l, y, h => by
    rcases mem_foldl_insL (xs := r) h with h | h
    · exact .inl (by simp [h])
    · rcases mem_insL h with h | h
      · exact .inl (by simp [h])
      · exact .inr h

theorem befs_sound {ops : List Oper} {S : Nat → Prop} (hS : ∀ k o, ops[k]? = some o → S k → ∀ e ∈ o.after, Region.binds .any e = true → S e.on) :
    ∀ k i, S k → i ∈ (befs ops).getD k [] → S i := by
  have key : ∀ (l1 l2 : List Oper) (acc : List (List Nat)), ops = l1 ++ l2 → acc.length = l1.length → (∀ k i, S k → i ∈ acc.getD k [] → S i) →
      ∀ k i, S k → i ∈ (l2.foldl (fun acc o => acc ++ [(o.after.toList.filter (Region.binds .any)).foldl (fun l e => (acc.getD e.on []).foldl insL (insL l e.on)) []]) acc).getD k [] → S i := by
    intro l1 l2
    induction l2 generalizing l1 with
    | nil => intro acc _ _ h; exact h
    | cons o r ih =>
      intro acc ho hl h
      simp only [List.foldl_cons]
      refine ih (l1 ++ [o]) _ (by simp [ho]) (by simp [hl]) fun k i hk hi => ?_
      rw [List.getD_eq_getElem?_getD] at hi
      rcases Nat.lt_trichotomy k acc.length with hlt | heq | hgt
      · rw [List.getElem?_append_left hlt] at hi
        exact h k i hk (by rw [List.getD_eq_getElem?_getD]; exact hi)
      · subst heq
        rw [List.getElem?_append_right (Nat.le_refl _)] at hi
        simp only [Nat.sub_self, List.getElem?_cons_zero, Option.getD_some] at hi
        have hok : ops[acc.length]? = some o := by rw [ho, List.getElem?_append_right (by omega), hl]; simp
        have hall := hS _ o hok hk
        have key2 : ∀ (es : List Edge) (l : List Nat), (∀ e ∈ es, S e.on) → (∀ y ∈ l, S y) →
            ∀ y ∈ es.foldl (fun l e => (acc.getD e.on []).foldl insL (insL l e.on)) l, S y := by
          intro es
          induction es with
          | nil => intro l _ hl y hy; exact hl y hy
          | cons e es ih2 =>
            intro l he hl y hy
            simp only [List.foldl_cons] at hy
            refine ih2 _ (fun e' h' => he e' (List.mem_cons_of_mem _ h')) (fun z hz => ?_) y hy
            rcases mem_foldl_insL hz with hz | hz
            · exact h _ _ (he e (by simp)) hz
            · rcases mem_insL hz with hz | hz
              · rw [hz]; exact he e (by simp)
              · exact hl z hz
        refine key2 _ [] (fun e he => ?_) (by simp) i hi
        simp only [List.mem_filter] at he
        exact hall e (by simpa using he.1) he.2
      · rw [List.getElem?_eq_none (by simp; omega)] at hi
        simp at hi
  exact key [] ops [] rfl rfl (by simp)

theorem mem_insL_of {l : List Nat} {x y : Nat} (h : y = x ∨ y ∈ l) : y ∈ insL l x := by
  unfold insL
  split
  · rename_i hc
    rcases h with rfl | h
    · simpa using hc
    · exact h
  · simpa using h

theorem mem_foldl_insL_of : ∀ {xs l : List Nat} {y : Nat}, y ∈ xs ∨ y ∈ l → y ∈ xs.foldl insL l
  | [], l, y, h => by simpa using h
  | x :: r, l, y, h => by
    refine mem_foldl_insL_of (xs := r) ?_
    rcases h with h | h
    · rcases List.mem_cons.1 h with rfl | h
      · exact .inr (mem_insL_of (.inl rfl))
      · exact .inl h
    · exact .inr (mem_insL_of (.inr h))

theorem befs_get (ops : List Oper) : (befs ops).length = ops.length ∧ ∀ k o, ops[k]? = some o → ∀ e ∈ o.after, Region.binds .any e = true → e.on < k → e.on ∈ (befs ops).getD k [] := by
  have key : ∀ (l1 l2 : List Oper) (acc : List (List Nat)), acc.length = l1.length →
      (∀ k o, l1[k]? = some o → ∀ e ∈ o.after, Region.binds .any e = true → e.on < k → e.on ∈ acc.getD k []) →
      let r := l2.foldl (fun acc o => acc ++ [(o.after.toList.filter (Region.binds .any)).foldl (fun l e => (acc.getD e.on []).foldl insL (insL l e.on)) []]) acc
      r.length = (l1 ++ l2).length ∧ ∀ k o, (l1 ++ l2)[k]? = some o → ∀ e ∈ o.after, Region.binds .any e = true → e.on < k → e.on ∈ r.getD k [] := by
    intro l1 l2
    induction l2 generalizing l1 with
    | nil => intro acc hl h; simpa using ⟨hl, h⟩
    | cons o r ih =>
      intro acc hl h
      simp only [List.foldl_cons]
      have := ih (l1 ++ [o]) (acc ++ [(o.after.toList.filter (Region.binds .any)).foldl (fun l e => (acc.getD e.on []).foldl insL (insL l e.on)) []]) (by simp [hl]) (by
        intro k o' hk e he hb hlt
        rw [List.getD_eq_getElem?_getD]
        rcases Nat.lt_or_ge k l1.length with hk1 | hk1
        · rw [List.getElem?_append_left hk1] at hk
          rw [List.getElem?_append_left (by omega), ← List.getD_eq_getElem?_getD]
          exact h k o' hk e he hb hlt
        · rw [List.getElem?_append_right hk1] at hk
          have hk0 : k - l1.length = 0 := by
            have := (List.getElem?_eq_some_iff.1 hk).1
            simp at this; omega
          rw [hk0] at hk
          simp at hk
          subst hk
          rw [List.getElem?_append_right (by omega), show k - acc.length = 0 by omega]
          simp only [List.getElem?_cons_zero, Option.getD_some]
          have key2 : ∀ (es : List Edge) (l : List Nat) (y : Nat), (y ∈ l ∨ ∃ e ∈ es, e.on = y) → y ∈ es.foldl (fun l e => (acc.getD e.on []).foldl insL (insL l e.on)) l := by
            intro es
            induction es with
            | nil => intro l y hy; rcases hy with hy | ⟨e, he, _⟩; exact hy; simp at he
            | cons e' es ih2 =>
              intro l y hy
              simp only [List.foldl_cons]
              refine ih2 _ y ?_
              rcases hy with hy | ⟨e2, he2, hy⟩
              · exact .inl (mem_foldl_insL_of (.inr (mem_insL_of (.inr hy))))
              · rcases List.mem_cons.1 he2 with rfl | he2
                · exact .inl (mem_foldl_insL_of (.inr (mem_insL_of (.inl hy.symm))))
                · exact .inr ⟨e2, he2, hy⟩
          exact key2 _ [] e.on (.inr ⟨e, by simp only [List.mem_filter]; exact ⟨by simpa using he, hb⟩, rfl⟩))
      simpa using this
  exact key [] ops [] rfl (by simp)

theorem befs_direct {ops : List Oper} {k : Nat} {o : Oper} (hk : ops[k]? = some o) (e : Edge) (he : e ∈ o.after) (hb : Region.binds .any e = true) (hlt : e.on < k) : e.on ∈ (befs ops).getD k [] :=
  (befs_get ops).2 k o hk e he hb hlt

theorem cnt_lt {p p' : Nat → Bool} : ∀ {l : List Nat} {x : Nat}, (∀ y, p' y = true → p y = true) → x ∈ l → p x = true → p' x = false → l.countP p' < l.countP p
  | [], _, _, h, _, _ => by cases h
  | y :: r, x, hp, h, h1, h2 => by
    have mono : r.countP p' ≤ r.countP p := List.countP_mono_left fun z _ hz => hp z hz
    rcases List.mem_cons.1 h with rfl | h
    · simp only [List.countP_cons, h1, h2, if_true, Bool.false_eq_true, if_false]; omega
    · have := cnt_lt hp h h1 h2
      simp only [List.countP_cons]
      by_cases hy' : p' y = true
      · rw [if_pos hy', if_pos (hp y hy')]; omega
      · rw [if_neg hy']; split <;> omega

open Classical in
/-- Between two operations: who is done has his final answer. -/
noncomputable def pfL (ops : Array Oper) (listed : Array Bool) (pf0 pfE : PF) : PF := fun t =>
  if ∃ i, listed.getD i false = true ∧ (ops[i]?).bind (·.dst) = some t then pfE t else pf0 t

theorem Rel.weaken (h : Rel LOK B nt E pf S D a w R bl) (hE : ∀ s g, (s, g) ∈ E' → (s, g) ∈ E) : Rel LOK B nt E' pf S D a w R bl :=
  ⟨h.size, h.defers, h.fr, h.sr, h.stp, fun s g hs => h.own s g (hE s g hs), fun s g hs => h.mine s g (hE s g hs), fun s g s' g' h1 h2 => h.dist s g s' g' (hE s g h1) (hE s' g' h2)⟩

theorem rgnD_mid {ops : Array Oper} {pf0 : PF} {S : Obs} {p : PF × Obs} (h : rgnD P own call ops ops.toList pf0 S = some p) {j : Nat} {oj : Oper} (hj : ops[j]? = some oj) :
    ∃ pfm Sm b x S', rgnD P own call ops (ops.toList.take j) pf0 S = some (pfm, Sm) ∧ wantA ops pfm oj = some b ∧ (b = true → evX P own call ops Sm oj pfm = some (x, S')) ∧ (b = false → x = .undef ∧ S' = Sm) ∧
      rgnD P own call ops (ops.toList.drop (j + 1)) (updO pfm oj.dst x) S' = some p ∧ rgnD P own call ops (ops.toList.take (j + 1)) pf0 S = some (updO pfm oj.dst x, S') := by
  have hj' : ops.toList[j]? = some oj := by simpa using hj
  obtain ⟨hlt, he⟩ := List.getElem?_eq_some_iff.1 hj'
  have hsplit : ops.toList = ops.toList.take j ++ oj :: ops.toList.drop (j + 1) := by
    rw [← he, List.getElem_cons_drop, List.take_append_drop]
  have htake : ops.toList.take (j + 1) = ops.toList.take j ++ [oj] := by
    rw [List.take_succ_eq_append_getElem hlt, he]
  rw [hsplit, rgnD_append] at h
  rw [Option.bind_eq_some_iff] at h
  obtain ⟨⟨pfm, Sm⟩, h1, h2⟩ := h
  simp only [rgnD] at h2
  split at h2
  · rename_i hw
    split at h2
    · rename_i q hx
      exact ⟨pfm, Sm, true, q.1, q.2, h1, hw, fun _ => hx, by simp, h2, by rw [htake, rgnD_append, h1]; simp [rgnD, hw, hx]⟩
    · cases h2
  · rename_i hw
    exact ⟨pfm, Sm, false, .undef, Sm, h1, hw, by simp, fun _ => ⟨rfl, rfl⟩, h2, by rw [htake, rgnD_append, h1]; simp [rgnD, hw]⟩
  · cases h2

/-- The objects ahead of each operation, in the text's order. -/
noncomputable def Sat (P : Program) (own : FuncId → Bool) (call : CallT) (ops : Array Oper) (pf0 : PF) (S : Obs) (j : Nat) : Obs :=
  match rgnD P own call ops (ops.toList.take j) pf0 S with
  | some p => p.2
  | none => S

theorem Sat_of {ops : Array Oper} {pf0 : PF} {S : Obs} {j : Nat} {p : PF × Obs} (h : rgnD P own call ops (ops.toList.take j) pf0 S = some p) : Sat P own call ops pf0 S j = p.2 := by
  unfold Sat; rw [h]

theorem Sat_step {ops : Array Oper} {pf0 : PF} {S : Obs} {p : PF × Obs} (h : rgnD P own call ops ops.toList pf0 S = some p) {j : Nat} {oj : Oper} (hj : ops[j]? = some oj) :
    (isEff own oj.op = false → Sat P own call ops pf0 S (j + 1) = Sat P own call ops pf0 S j) ∧
    (isExt own oj.op = true → ∃ T, Sat P own call ops pf0 S (j + 1) = Sat P own call ops pf0 S j ++ T) := by
  obtain ⟨pfm, Sm, b, x, S', h1, h2, h3, h4, h5, h6⟩ := rgnD_mid h hj
  rw [Sat_of h1, Sat_of h6]
  cases b with
  | false => rw [(h4 rfl).2]; exact ⟨fun _ => rfl, fun _ => ⟨[], by simp⟩⟩
  | true =>
    have h3 := h3 rfl
    unfold evX at h3
    cases he : isEff own oj.op with
    | false =>
      rw [he] at h3
      simp only [Option.map_eq_some_iff] at h3
      obtain ⟨x', _, hx⟩ := h3
      injection hx with _ hx
      exact ⟨fun _ => hx.symm, fun _ => ⟨[], by simp [hx]⟩⟩
    | true =>
      rw [he] at h3
      refine ⟨fun h => absurd h (by simp), fun hx => ?_⟩
      simp only at h3
      split at h3
      case h_2 => cases h3
      simp only [Option.bind_eq_some_iff] at h3
      obtain ⟨q, _, hq⟩ := h3
      rw [hx] at hq
      simp only [keepS] at hq
      split at hq
      · rename_i ht
        injection hq with hq
        rw [hq] at ht
        refine ⟨S'.drop Sm.length, ?_⟩
        have e1 := (List.take_append_drop Sm.length S').symm
        simp only at ht ⊢
        rw [ht] at e1
        exact e1
      · cases hq

/-- A store touches one object, and none that is read by whoever does not surely stand ahead. -/
theorem Sat_store {ops : Array Oper} {pf0 : PF} {S : Obs} {p : PF × Obs} (h : rgnD P own call ops ops.toList pf0 S = some p) {e : Nat} {oe : Oper} (he : ops[e]? = some oe) {t : TypeId} {x y : Operand} (hop : oe.op = .store t x y) :
    ∃ pfm Sm, rgnD P own call ops (ops.toList.take e) pf0 S = some (pfm, Sm) ∧ (Sat P own call ops pf0 S (e + 1) = Sat P own call ops pf0 S e ∨
      ∃ id off ob, opv pfm x = some (.box id off) ∧ softOk ops oe pfm = true ∧ Sat P own call ops pf0 S (e + 1) = (Sat P own call ops pf0 S e).set id ob) := by
  obtain ⟨pfm, Sm, b, x', S', h1, h2, h3, h4, h5, h6⟩ := rgnD_mid h he
  refine ⟨pfm, Sm, h1, ?_⟩
  rw [Sat_of h1, Sat_of h6]
  cases b with
  | false => exact .inl (h4 rfl).2
  | true =>
    right
    have h3 := h3 rfl
    unfold evX at h3
    rw [show isEff own oe.op = true by rw [hop]; rfl, show isExt own oe.op = false by rw [hop]; rfl] at h3
    simp only at h3
    split at h3
    case h_2 => cases h3
    rename_i hs
    simp only [Option.bind_eq_some_iff, keepS] at h3
    obtain ⟨q, hq, he2⟩ := h3
    injection he2 with he2
    subst he2
    simp only [evOp, evNil, hop, evObj] at hq
    split at hq
    case h_2 => cases hq
    rename_i ty id off v _ hx _
    refine ⟨id, off, ?_⟩
    split at hq
    case h_2 => cases hq
    split at hq
    case isFalse => cases hq
    split at hq
    · split at hq
      · injection hq with hq; injection hq with _ hq
        exact ⟨_, hx, hs, hq.symm⟩
      · cases hq
    · injection hq with hq; injection hq with _ hq
      exact ⟨_, hx, hs, hq.symm⟩

theorem Sat_same {ops : Array Oper} {pf0 : PF} {S : Obs} {p : PF × Obs} (h : rgnD P own call ops ops.toList pf0 S = some p) {a : Nat} :
    ∀ b, a ≤ b → b ≤ ops.size → (∀ e oe, a ≤ e → e < b → ops[e]? = some oe → isEff own oe.op = false) → Sat P own call ops pf0 S b = Sat P own call ops pf0 S a := by
  intro b hab
  obtain ⟨k, rfl⟩ := Nat.exists_eq_add_of_le hab
  induction k with
  | zero => intro _ _; rfl
  | succ k ih =>
    intro hb hno
    have hab : a ≤ a + k := by omega
    have ih := ih hab
    rw [← Nat.add_assoc] at hb hno ⊢
    generalize hbk : a + k = b at *
    rw [(Sat_step h (Array.getElem?_eq_getElem (show b < ops.size by omega))).1 (hno b _ hab (by omega) (Array.getElem?_eq_getElem (by omega))), ih (by omega) fun e oe h1 h2 h3 => hno e oe h1 (by omega) h3]

theorem Sat_more {ops : Array Oper} {pf0 : PF} {S : Obs} {p : PF × Obs} (h : rgnD P own call ops ops.toList pf0 S = some p) {a : Nat} :
    ∀ b, a ≤ b → b ≤ ops.size → (∀ e oe, a ≤ e → e < b → ops[e]? = some oe → isEff own oe.op = true → isExt own oe.op = true) → ∃ T, Sat P own call ops pf0 S b = Sat P own call ops pf0 S a ++ T := by
  intro b hab
  obtain ⟨k, rfl⟩ := Nat.exists_eq_add_of_le hab
  induction k with
  | zero => intro _ _; exact ⟨[], by simp⟩
  | succ k ih =>
    intro hb hno
    have hab : a ≤ a + k := by omega
    have ih := ih hab
    rw [← Nat.add_assoc] at hb hno ⊢
    generalize hbk : a + k = b at *
    obtain ⟨T, hT⟩ := ih (by omega) fun e oe h1 h2 h3 => hno e oe h1 (by omega) h3
    have hgb := Array.getElem?_eq_getElem (show b < ops.size by omega)
    cases he : isEff own (ops[b]'(by omega)).op with
    | false => rw [(Sat_step h hgb).1 he]; exact ⟨T, hT⟩
    | true =>
      obtain ⟨T', hT'⟩ := (Sat_step h hgb).2 (hno b _ hab (by omega) hgb he)
      exact ⟨T ++ T', by rw [hT', hT, List.append_assoc]⟩

theorem wantA_congr {ops : Array Oper} {o : Oper} {pf pf' : PF} (h : ∀ t ∈ o.looksAt ops, pf t = pf' t) : wantA ops pf o = wantA ops pf' o := by
  unfold wantA
  cases hg : o.guard with
  | none => rfl
  | some gb =>
    obtain ⟨j, b⟩ := gb
    simp only
    cases hd : (ops[j]?).bind (·.dst) with
    | none => rfl
    | some d =>
      simp only
      rw [h d (by simp [Oper.looksAt, hg, hd])]

theorem looksAt_op {ops : Array Oper} {o : Oper} {t : Nat} (h : .tmp t ∈ o.op.operands) : t ∈ o.looksAt ops := by
  simp only [Oper.looksAt, List.mem_append, List.mem_filterMap]
  exact .inl ⟨.tmp t, by simpa using h, rfl⟩

theorem drawOk_spec {ops : Array Oper} (h : drawOk own ops = true) {j : Nat} {oj : Oper} (hj : ops[j]? = some oj) :
    isApp oj.op = false ∧ (∀ e ∈ oj.after, Region.binds .any e = true → e.on < j) ∧
    (∀ i oi d, ops[i]? = some oi → i ≠ j → oi.dst = some d → oj.dst ≠ some d ∧
      (d ∈ oj.looksAt ops → if i < j then i ∈ (befs ops.toList).getD j [] else j ∈ (befs ops.toList).getD i [])) ∧
    (isEff own oj.op = true → givesOp own ops oj.op = none ∧ ownOp own oj.op = false ∧ takes own ops oj.dst = false ∧
      ∀ i oi, ops[i]? = some oi → i ≠ j → (isEff own oi.op = true ∨ isLoad oi.op = true) → (if i < j then i ∈ (befs ops.toList).getD j [] else j ∈ (befs ops.toList).getD i []) ∨ (isExt own oj.op = true ∧ isEff own oi.op = false) ∨ softPair ops i j oj.op oi.op = true) := by
  unfold drawOk at h
  simp only [List.all_eq_true, List.mem_range] at h
  have hlt : j < ops.size := (Array.getElem?_eq_some_iff.1 hj).1
  have h1 := h j hlt
  rw [hj] at h1
  simp only [Bool.and_eq_true, Bool.not_eq_true', List.all_eq_true, Bool.or_eq_true, decide_eq_true_eq, List.mem_range, Option.isNone_iff_eq_none] at h1
  obtain ⟨⟨h0, h2, h3⟩, h4⟩ := h1
  refine ⟨h2, fun e he hb => ?_, fun i oi d hi hne hd => ?_, fun hef => ?_⟩
  · rcases h3 e (by simpa using he) with h5 | h5
    · rw [hb] at h5; cases h5
    · exact h5
  · have h5 := h4 i (Array.getElem?_eq_some_iff.1 hi).1
    simp only [beq_iff_eq, hne, false_or, hi, Option.bind_some, hd, Bool.and_eq_true, bne_iff_ne, Bool.or_eq_true, Bool.not_eq_true'] at h5
    refine ⟨h5.1, fun hm => ?_⟩
    rcases h5.2 with h6 | h6
    · rw [List.contains_eq_mem] at h6; simp [hm] at h6
    · split
      · rename_i hlt; rw [if_pos hlt] at h6; simpa using h6
      · rename_i hlt; rw [if_neg hlt] at h6; simpa using h6
  · rcases h0 with h0 | h0
    · rw [hef] at h0; cases h0
    · obtain ⟨⟨⟨k1, k2⟩, k3⟩, k4⟩ := h0
      refine ⟨k1, k2, k3, fun i oi hi hne ho => ?_⟩
      have h5 := k4 i (Array.getElem?_eq_some_iff.1 hi).1
      simp only [beq_iff_eq, hne, false_or, hi, Bool.and_eq_true, Bool.or_eq_true, Bool.not_eq_true'] at h5
      rcases h5 with ((h5 | h5) | h5) | h5
      · rcases ho with ho | ho <;> simp [ho] at h5
      · left
        split
        · rename_i hlt; rw [if_pos hlt] at h5; simpa using h5
        · rename_i hlt; rw [if_neg hlt] at h5; simpa using h5
      · exact .inr (.inl h5)
      · exact .inr (.inr h5)

theorem softPair_spec {ops : Array Oper} {i j : Nat} {x y : Op} (h : softPair ops i j x y = true) :
    ∃ t a b t' s, x = .store t a b ∧ y = .load t' (.tmp s) ∧ i < j ∧ ∀ k ok, ops[k]? = some ok → i ≤ k → ok.dst ≠ some s := by
  unfold softPair at h
  split at h
  · rename_i t a b t' s
    simp only [Bool.and_eq_true, decide_eq_true_eq, List.all_eq_true, List.mem_range, Bool.or_eq_true] at h
    refine ⟨t, a, b, t', s, rfl, rfl, h.1, fun k ok hk hik => ?_⟩
    have := h.2 k (Array.getElem?_eq_some_iff.1 hk).1
    rw [hk] at this
    rcases this with h1 | h1
    · omega
    · simpa using h1
  · cases h

theorem softPair_eff {ops : Array Oper} {i j : Nat} {x y : Op} (h : softPair ops i j x y = true) : isEff own y = false := by
  obtain ⟨t, a, b, t', s, _, rfl, _⟩ := softPair_spec h
  rfl

theorem trans_eff {ops : Array Oper} {o : Oper} (he : isEff own o.op = true) (hg : givesOp own ops o.op = none) (ho : ownOp own o.op = false) (ht : takes own ops o.dst = false) : trans own ops E o = some (delO E o.dst) := by
  obtain ⟨dst, op, type, pos, after, guard⟩ := o
  simp only at hg ho ht he
  unfold trans
  simp only [hg]
  have ha : isApp op = false := by
    cases op with
    | call c => obtain ⟨cal, args, tys⟩ := c; cases cal with
      | builtin b => cases he
      | value x => rfl
      | invoke r m => rfl
    | _ => rfl
  cases dst with
  | none => simp [ha, delO]
  | some d =>
    simp only [ha, ht, Bool.or_false, Bool.false_eq_true, if_false, delO, ite_self]
    cases op with
    | alloc t => simp
    | box t y => simp
    | store t y z => simp
    | call c =>
      obtain ⟨cal, args, tys⟩ := c
      cases cal with
      | value x =>
        cases x with
        | func f => simp only [ownOp] at ho; simp [ho]
        | _ => simp
      | invoke r m => cases he
      | builtin b => cases he
    | _ => cases he

theorem evOpD_S {o : Oper} {S S' : Obs} {pf : PF} (h : isLoad o.op = false) : evOpD P call S o pf = evOpD P call S' o pf := by
  obtain ⟨dst, op, type, pos, after, guard⟩ := o
  cases op <;> first | rfl | (cases h; done)

theorem loadD_S {S S' : Obs} {t : TypeId} {v : Option AV} (h : ∀ id off, v = some (.box id off) → S'[id]? = S[id]?) : loadD P t v S' = loadD P t v S := by
  unfold loadD
  cases tyOf P t with
  | none => rfl
  | some ty =>
    cases v with
    | none => rfl
    | some v =>
      cases v with
      | box id off => simp only [h id off rfl]
      | _ => rfl

theorem if_congr' {c d : Prop} {hc : Decidable c} {hd : Decidable d} {α : Type} {x y : α} (h : c ↔ d) : @ite α c hc x y = @ite α d hd x y := by
  by_cases hc' : c
  · rw [if_pos hc', if_pos (h.1 hc')]
  · rw [if_neg hc', if_neg fun hd' => hc' (h.2 hd')]

/-- Which objects' state is reached: all that change objects ahead of a place are done, and no others. -/
def CutAt (own : FuncId → Bool) (ops : Array Oper) (listed : Array Bool) (c : Nat) : Prop :=
  c ≤ ops.size ∧ ∀ e oe, ops[e]? = some oe → isEff own oe.op = true → (listed.getD e false = true ↔ e < c)

theorem draw_sound (hcall : ∀ c, COK LOK P C own c (call c)) (hcb : ∀ f avs S r, call (.f f) avs S = some r → callable P f = true) (hGB : Gd C B.R B.bl B.w)
    {ops : Array Oper} {Q : Exit → Act → World → Prop} {pf0 pfE : PF} {SE : Obs} (hok : drawOk own ops = true) (hr : rgnD P own call ops ops.toList pf0 S = some (pfE, SE)) (hd : dstsOk nt ops.toList = true)
    (hE : ∀ (j : Nat) (oj : Oper) (d g : Nat), ops[j]? = some oj → oj.dst = some d → (d, g) ∉ E)
    (hn : ∀ a' w' R' bl', Rel LOK B nt E pfE SE D a' w' R' bl' → Q .normal a' w') :
    ∀ (fuel : Nat) (listed : Array Bool) (c : Nat) (a : Act) (w : World) (R : Reads) (bl : BL), listed.size = ops.size →
      (∀ k o, ops[k]? = some o → listed.getD k false = true → ∀ e ∈ o.after, Region.binds .any e = true → listed.getD e.on false = true) →
      (List.range ops.size).countP (fun i => !listed.getD i false) ≤ fuel → CutAt own ops listed c →
      Rel LOK B nt E (pfL ops listed pf0 pfE) (Sat P own call ops pf0 S c) D a w R bl → wpAnyIn (fen ro) n P .any ops Q fuel listed a w := by
  have done : ∀ (listed : Array Bool) (c : Nat) (a : Act) (w : World) (R : Reads) (bl : BL), listed.size = ops.size →
      Region.ready .any ops listed = [] → CutAt own ops listed c → Rel LOK B nt E (pfL ops listed pf0 pfE) (Sat P own call ops pf0 S c) D a w R bl → Q .normal a w := by
    intro listed c a w R bl hsz hready hcut hrel
    have hall : ∀ j, j < ops.size → listed.getD j false = true := by
      intro j
      induction j using Nat.strongRecOn with
      | _ j ih =>
        intro hj
        obtain ⟨oj, hoj⟩ : ∃ oj, ops[j]? = some oj := ⟨ops[j], Array.getElem?_eq_getElem hj⟩
        cases hl : listed.getD j false with
        | true => rfl
        | false =>
          have hin : j ∈ Region.ready .any ops listed := by
            rw [mem_ready]
            refine ⟨?_, oj, hoj, fun e he hb => ?_⟩
            · have hlt : j < listed.size := by omega
              simp [Array.getD_eq_getD_getElem?, Array.getElem?_eq_getElem hlt] at hl ⊢
              exact hl
            · have := (drawOk_spec hok hoj).2.1 e he hb
              exact ih e.on this (by omega)
          rw [hready] at hin
          cases hin
    have heq : pfL ops listed pf0 pfE = pfE := by
      funext t
      unfold pfL
      split
      · rfl
      · rename_i hno
        refine (rgnD_other ops.toList hr fun o ho hdt => hno ?_).symm
        obtain ⟨j, hj, rfl⟩ := List.getElem_of_mem ho
        have hj' : j < ops.size := by simpa using hj
        exact ⟨j, hall j hj', by rw [Array.getElem?_eq_getElem hj']; simpa using hdt⟩
    have hS : Sat P own call ops pf0 S c = SE := by
      rw [← Sat_same hr ops.size hcut.1 (Nat.le_refl _) fun e oe h1 h2 h3 => ?_, Sat_of (j := ops.size) (p := (pfE, SE)) (by rw [show ops.size = ops.toList.length by simp, List.take_length]; exact hr)]
      cases hef : isEff own oe.op with
      | false => rfl
      | true =>
        have := (hcut.2 e oe h3 hef).1 (hall e h2)
        omega
    rw [heq, hS] at hrel
    exact hn a w R bl hrel
  intro fuel
  induction fuel with
  | zero =>
    intro listed c a w R bl hsz hcl hcnt hcut hrel
    have hready : Region.ready .any ops listed = [] := by
      rw [List.eq_nil_iff_forall_not_mem]
      intro j hj
      obtain ⟨h0, oj, hoj, _⟩ := mem_ready.1 hj
      have hlt : j < ops.size := (Array.getElem?_eq_some_iff.1 hoj).1
      have hz := Nat.le_zero.1 hcnt
      rw [List.countP_eq_zero] at hz
      have := hz j (by simpa using hlt)
      have hlt' : j < listed.size := by omega
      simp [Array.getD_eq_getD_getElem?, Array.getElem?_eq_getElem hlt'] at h0 this
      rw [h0] at this; cases this
    exact ⟨hready, done listed c a w R bl hsz hready hcut hrel⟩
  | succ fuel ih =>
    intro listed c a w R bl hsz hcl hcnt hcut hrel
    refine ⟨fun hready => done listed c a w R bl hsz hready hcut hrel, fun j hj => ?_⟩
    obtain ⟨h0, oj, hoj, hedges⟩ := mem_ready.1 hj
    have hjlt : j < ops.size := (Array.getElem?_eq_some_iff.1 hoj).1
    have hjl : j < listed.size := by omega
    have hun : listed.getD j false = false := by
      simp [Array.getD_eq_getD_getElem?, Array.getElem?_eq_getElem hjl] at h0 ⊢
      exact h0
    obtain ⟨happ, hlow, hw, hse⟩ := drawOk_spec hok hoj
    obtain ⟨pfm, Sm, b, x, Sx, hm1, hm2, hm3, hm4, hm5, hm6⟩ := rgnD_mid hr hoj
    -- who stands ahead is done; who stands behind is not
    have hbef : ∀ i, i ∈ (befs ops.toList).getD j [] → i ≠ j → listed.getD i false = true := by
      intro i hi hij
      have := befs_sound (ops := ops.toList) (S := fun k => listed.getD k false = true ∨ k = j) (fun k o hk hS e he hb => by
        rcases hS with hS | hS
        · exact .inl (hcl k o (by simpa using hk) hS e he hb)
        · subst hS
          have : o = oj := by
            have h1 : ops[k]? = some o := by simpa using hk
            rw [hoj] at h1; injection h1 with h1; exact h1.symm
          subst this
          exact .inl (hedges e he hb)) j i (.inr rfl) hi
      rcases this with h | h
      · exact h
      · exact absurd h hij
    have haft : ∀ i, j ∈ (befs ops.toList).getD i [] → listed.getD i false = false := by
      intro i hi
      cases hli : listed.getD i false with
      | false => rfl
      | true =>
        have := befs_sound (ops := ops.toList) (S := fun k => listed.getD k false = true) (fun k o hk hS e he hb => hcl k o (by simpa using hk) hS e he hb) i j hli hi
        rw [hun] at this; cases this
    -- what the operation reads is what it reads in the text's order
    have hread : ∀ t ∈ oj.looksAt ops, pfL ops listed pf0 pfE t = pfm t := by
      intro t ht
      have take_none : (∀ (i : Nat) (oi : Oper), ops[i]? = some oi → oi.dst = some t → j ≤ i) → pfm t = pf0 t := by
        intro hno
        refine rgnD_other _ hm1 fun o ho hdt => ?_
        obtain ⟨i, hi, rfl⟩ := List.getElem_of_mem ho
        have hi2 : i < j := by simp at hi; omega
        have hi3 : i < ops.size := by omega
        have := hno i ops[i] (Array.getElem?_eq_getElem hi3) (by simpa using hdt)
        omega
      by_cases hex : ∃ (i : Nat) (oi : Oper), ops[i]? = some oi ∧ oi.dst = some t
      · obtain ⟨i, oi, hoi, hdi⟩ := hex
        have uniq : ∀ (k : Nat) (ok : Oper), ops[k]? = some ok → ok.dst = some t → k = i := by
          intro k ok hk hdk
          by_cases hki : k = i
          · exact hki
          · exact absurd hdk ((drawOk_spec hok hk).2.2.1 i oi t hoi (Ne.symm hki) hdi).1
        by_cases hij : i < j
        · have hmem := (hw i oi t hoi (by omega) hdi).2 ht
          rw [if_pos hij] at hmem
          have hlisted : listed.getD i false = true := hbef i hmem (by omega)
          have e1 : pfL ops listed pf0 pfE t = pfE t := by
            unfold pfL; rw [if_pos ⟨i, hlisted, by simp [hoi, hdi]⟩]
          rw [e1]
          have e2 := rgnD_other _ hm5 (t := t) fun o ho hdt => by
            obtain ⟨k, hk, rfl⟩ := List.getElem_of_mem ho
            have hk2 : j + 1 + k < ops.size := by simp at hk; omega
            have := uniq (j + 1 + k) _ (Array.getElem?_eq_getElem hk2) (by simpa using hdt)
            omega
          simp only at e2
          rw [e2]
          refine updO_other fun h => ?_
          have := uniq j oj hoj h
          omega
        · have hnl : listed.getD i false = false := by
            by_cases hij2 : i = j
            · rw [hij2]; exact hun
            · have hmem := (hw i oi t hoi hij2 hdi).2 ht
              rw [if_neg hij] at hmem
              cases hli : listed.getD i false with
              | false => rfl
              | true =>
                have := befs_sound (ops := ops.toList) (S := fun k => listed.getD k false = true) (fun k o hk hS e he hb => hcl k o (by simpa using hk) hS e he hb) i j hli hmem
                rw [hun] at this; cases this
          have e1 : pfL ops listed pf0 pfE t = pf0 t := by
            unfold pfL
            rw [if_neg]
            rintro ⟨k, hk1, hk2⟩
            rw [Option.bind_eq_some_iff] at hk2
            obtain ⟨ok, hk3, hk4⟩ := hk2
            have := uniq k ok hk3 hk4
            subst this
            rw [hnl] at hk1; cases hk1
          rw [e1, take_none fun k ok hk hdk => by have := uniq k ok hk hdk; omega]
      · have e1 : pfL ops listed pf0 pfE t = pf0 t := by
          unfold pfL
          rw [if_neg]
          rintro ⟨k, hk1, hk2⟩
          rw [Option.bind_eq_some_iff] at hk2
          obtain ⟨ok, hk3, hk4⟩ := hk2
          exact hex ⟨k, ok, hk3, hk4⟩
        rw [e1, take_none fun k ok hk hdk => absurd ⟨k, ok, hk, hdk⟩ hex]
    -- the frame behind it
    have hsz' : (listed.setIfInBounds j true).size = ops.size := by simpa using hsz
    have hgd : ∀ k, (listed.setIfInBounds j true).getD k false = (if k = j then true else listed.getD k false) := by
      intro k
      by_cases hk : k = j
      · subst hk; simp [Array.getD_eq_getD_getElem?, hjl]
      · simp [Array.getD_eq_getD_getElem?, Array.getElem?_setIfInBounds_ne (Ne.symm hk), hk]
    have hcl' : ∀ k o, ops[k]? = some o → (listed.setIfInBounds j true).getD k false = true → ∀ e ∈ o.after, Region.binds .any e = true → (listed.setIfInBounds j true).getD e.on false = true := by
      intro k o hk hl e he hb
      rw [hgd] at hl ⊢
      split
      · rfl
      · by_cases hkj : k = j
        · subst hkj
          rw [hoj] at hk; injection hk with hk; subst hk
          exact hedges e he hb
        · rw [if_neg hkj] at hl
          exact hcl k o hk hl e he hb
    have hcnt' : (List.range ops.size).countP (fun i => !(listed.setIfInBounds j true).getD i false) ≤ fuel := by
      have := cnt_lt (p := fun i => !listed.getD i false) (p' := fun i => !(listed.setIfInBounds j true).getD i false) (l := List.range ops.size) (x := j)
        (fun y hy => by rw [hgd] at hy; split at hy <;> simp_all) (by simpa using hjlt) (by simp [hun]) (by simp [hgd])
      omega
    have hset : ∀ E', (∀ s g, (s, g) ∈ E → (s, g) ∈ E') → ∀ (a' : Act) (w' : World) (R' : Reads) (bl' : BL) (S' : Obs), Rel LOK B nt E' (updO (pfL ops listed pf0 pfE) oj.dst x) S' D a' w' R' bl' →
        Rel LOK B nt E (pfL ops (listed.setIfInBounds j true) pf0 pfE) S' D a' w' R' bl' := by
      intro E' hEE a' w' R' bl' S' hp
      have heq : pfL ops (listed.setIfInBounds j true) pf0 pfE = updO (pfL ops listed pf0 pfE) oj.dst x := by
        cases hdj : oj.dst with
        | none =>
          funext t
          simp only [updO]
          unfold pfL
          have : (∃ i, (listed.setIfInBounds j true).getD i false = true ∧ (ops[i]?).bind (·.dst) = some t) ↔ ∃ i, listed.getD i false = true ∧ (ops[i]?).bind (·.dst) = some t := by
            constructor
            · rintro ⟨i, h1, h2⟩
              rw [hgd] at h1
              by_cases hij : i = j
              · subst hij; rw [hoj] at h2; simp [hdj] at h2
              · rw [if_neg hij] at h1; exact ⟨i, h1, h2⟩
            · rintro ⟨i, h1, h2⟩
              exact ⟨i, by rw [hgd, h1]; simp, h2⟩
          exact if_congr' this
        | some d =>
          funext t
          simp only [updO]
          by_cases htd : t = d
          · subst htd
            rw [upd_same]
            have e1 : pfL ops (listed.setIfInBounds j true) pf0 pfE t = pfE t := by
              unfold pfL; rw [if_pos ⟨j, by rw [hgd]; simp, by simp [hoj, hdj]⟩]
            rw [e1]
            have e2 := rgnD_other _ hm5 (t := t) fun o ho hdt => by
              obtain ⟨k, hk, rfl⟩ := List.getElem_of_mem ho
              have hk2 : j + 1 + k < ops.size := by simp at hk; omega
              exact absurd hdj ((hw (j + 1 + k) _ t (Array.getElem?_eq_getElem hk2) (by omega) (by simpa using hdt)).1)
            simp only at e2
            rw [e2, hdj]
            simp [updO, upd]
          · rw [upd_ne _ _ htd]
            unfold pfL
            have : (∃ i, (listed.setIfInBounds j true).getD i false = true ∧ (ops[i]?).bind (·.dst) = some t) ↔ ∃ i, listed.getD i false = true ∧ (ops[i]?).bind (·.dst) = some t := by
              constructor
              · rintro ⟨i, h1, h2⟩
                rw [hgd] at h1
                by_cases hij : i = j
                · subst hij; rw [hoj] at h2; simp [hdj] at h2; exact absurd h2.symm htd
                · rw [if_neg hij] at h1; exact ⟨i, h1, h2⟩
              · rintro ⟨i, h1, h2⟩
                exact ⟨i, by rw [hgd, h1]; simp, h2⟩
            exact if_congr' this
      rw [heq]
      exact hp.weaken hEE
    have hdl : ∀ d, oj.dst = some d → d < nt := fun d hdj => by
      have := List.all_eq_true.1 hd oj (by
        have := Array.getElem?_eq_some_iff.1 hoj
        obtain ⟨h1, h2⟩ := this
        rw [← h2]; simp)
      rw [hdj] at this; simpa using this
    have hdel : ∀ s g, (s, g) ∈ E → (s, g) ∈ delO E oj.dst := by
      intro s g hsg
      cases hdj : oj.dst with
      | none => exact hsg
      | some d => exact mem_delE.2 ⟨hsg, fun h => hE j oj d g hoj hdj (h ▸ hsg)⟩
    have hframe : ∀ (v : Value) (w' : World) (R' : Reads), St R w R' w' none → VR R' (mains bl) v x → Rel LOK B nt E (pfL ops (listed.setIfInBounds j true) pf0 pfE) (Sat P own call ops pf0 S c) D (a.put oj.dst v) w' R' bl := by
      intro v w' R' hst hv
      exact hset _ hdel _ _ _ _ _ (hrel.put_plain (hrel.stp.st hst (by simp)) hst.sub (fun _ _ h => h) (hrel.sr.st hst (by simp)) hv (o := oj.dst) hdl (fun s g hsg b hb => hrel.kept_st hst hsg hb (by simp)))
    have hcut0 : isEff own oj.op = false → CutAt own ops (listed.setIfInBounds j true) c := fun hef =>
      ⟨hcut.1, fun e oe he heo => by
        rw [hgd]
        by_cases hej : e = j
        · subst hej; rw [hoj] at he; injection he with he; subst he; rw [hef] at heo; cases heo
        · rw [if_neg hej]; exact hcut.2 e oe he heo⟩
    -- the operation
    have hwant : wantA ops (pfL ops listed pf0 pfE) oj = some b := by rw [wantA_congr hread]; exact hm2
    have hSm : Sat P own call ops pf0 S j = Sm := Sat_of hm1
    -- one that changes objects
    have heff : isEff own oj.op = true → Sat P own call ops pf0 S c = Sm ∧ CutAt own ops (listed.setIfInBounds j true) (j + 1) := by
      intro hef
      obtain ⟨_, _, _, hord⟩ := hse hef
      have hlow : ∀ e oe, ops[e]? = some oe → isEff own oe.op = true → e < j → listed.getD e false = true := fun e oe he heo hej => by
        rcases hord e oe he (by omega) (.inl heo) with h | h | h
        · rw [if_pos hej] at h; exact hbef e h (by omega)
        · rw [heo] at h; cases h.2
        · rw [softPair_eff h] at heo; cases heo
      have hhigh : ∀ e oe, ops[e]? = some oe → isEff own oe.op = true → j < e → listed.getD e false = false := fun e oe he heo hej => by
        rcases hord e oe he (by omega) (.inl heo) with h | h | h
        · rw [if_neg (by omega)] at h; exact haft e h
        · rw [heo] at h; cases h.2
        · rw [softPair_eff h] at heo; cases heo
      have hcj : c ≤ j := by
        rcases Nat.lt_or_ge j c with h | h
        · have := (hcut.2 j oj hoj hef).2 h
          rw [hun] at this; cases this
        · exact h
      refine ⟨?_, by omega, fun e oe he heo => ?_⟩
      · rw [← hSm]
        refine (Sat_same hr j hcj (by omega) fun e oe h1 h2 h3 => ?_).symm
        cases heo : isEff own oe.op with
        | false => rfl
        | true =>
          have := (hcut.2 e oe h3 heo).1 (hlow e oe h3 heo h2)
          omega
      · rw [hgd]
        by_cases hej : e = j
        · subst hej; simp
        · rw [if_neg hej]
          rcases Nat.lt_or_ge e j with h | h
          · simp [hlow e oe he heo h]; omega
          · simp [hhigh e oe he heo (by omega)]; omega
    have hSj1 : Sat P own call ops pf0 S (j + 1) = Sx := Sat_of hm6
    unfold wpOpIn
    simp only [hoj]
    cases b with
    | true =>
      rw [if_pos (wantA_sound hrel.fr hwant)]
      have hx3 := hm3 rfl
      unfold evX at hx3
      cases hef : isEff own oj.op with
      | true =>
        rw [hef] at hx3
        simp only at hx3
        split at hx3
        case h_2 => cases hx3
        simp only [Option.bind_eq_some_iff] at hx3
        obtain ⟨q, hq1, hq2⟩ := hx3
        have hqe : q = (x, Sx) := by
          unfold keepS at hq2
          split at hq2
          · split at hq2
            · injection hq2
            · cases hq2
          · injection hq2
        subst hqe
        obtain ⟨hc1, hc2⟩ := heff hef
        obtain ⟨g1, g2, g3, _⟩ := hse hef
        have hev : evOp P own call ops oj (pfL ops listed pf0 pfE) (Sat P own call ops pf0 S c) = some (x, Sx) := by
          rw [hc1, evOp_congrE (pf' := pfm) hef fun t ht => hread t (looksAt_op ht)]
          exact hq1
        refine op_step hcall hcb hGB hrel hdl hev (trans_eff hef g1 g2 g3) fun a' w' R' bl' hrel' => ?_
        exact ih _ (j + 1) _ _ R' bl' hsz' hcl' hcnt' hc2 (by rw [hSj1]; exact hset _ hdel _ _ _ _ _ hrel')
      | false =>
        rw [hef] at hx3
        simp only [Option.map_eq_some_iff] at hx3
        obtain ⟨x', hx', hxe⟩ := hx3
        injection hxe with e1 e2
        subst e1 e2
        have hev0 : evOpD P call Sm oj (pfL ops listed pf0 pfE) = some x' := by
          rw [evOp_congr (pf' := pfm) happ fun t ht => hread t (looksAt_op ht)]
          exact hx'
        have hev : evOpD P call (Sat P own call ops pf0 S c) oj (pfL ops listed pf0 pfE) = some x' := by
          cases hld : isLoad oj.op with
          | false => rw [evOpD_S (S' := Sm) hld]; exact hev0
          | true =>
            -- between the two places there is but what lays new objects, or writes to others
            have hext : ∀ e oe, ops[e]? = some oe → isEff own oe.op = true → (c ≤ e ∧ e < j ∨ j ≤ e ∧ e < c) → isExt own oe.op = true ∨ (softPair ops j e oe.op oj.op = true ∧ j ∉ (befs ops.toList).getD e []) := by
              intro e oe he heo hb
              obtain ⟨_, _, _, hord⟩ := (drawOk_spec hok he).2.2.2 heo
              have hej : j ≠ e := fun h => by subst h; rw [hoj] at he; injection he with he; subst he; rw [hef] at heo; cases heo
              have hnb : ¬ (if j < e then j ∈ (befs ops.toList).getD e [] else e ∈ (befs ops.toList).getD j []) := by
                intro h
                rcases hb with hb | hb
                · rw [if_neg (by omega)] at h
                  have := (hcut.2 e oe he heo).1 (hbef e h (Ne.symm hej))
                  omega
                · rw [if_pos (by omega)] at h
                  have h1 := haft e h
                  have := (hcut.2 e oe he heo).2 hb.2
                  rw [h1] at this; cases this
              rcases hord j oj hoj hej (.inr hld) with h | h | h
              · exact absurd h hnb
              · exact .inl h.1
              · obtain ⟨_, _, _, _, _, _, _, hlt, _⟩ := softPair_spec h
                rw [if_pos hlt] at hnb
                exact .inr ⟨h, hnb⟩
            obtain ⟨dst, op, type, pos, after, guard⟩ := oj
            cases op <;> first | (cases hld; done) | skip
            rename_i t y
            simp only [evOpD] at hev0 ⊢
            rw [loadD_S (S := Sm) fun id off hid => ?_]
            · exact hev0
            rw [← hSm] at hev0 ⊢
            have hbound : id < (Sat P own call ops pf0 S c).length := by
              rw [← hrel.sr.len]
              cases y with
              | tmp t' =>
                simp only [opv] at hid
                injection hid with hid
                have hv := hrel.fr t'
                rw [hid] at hv
                generalize a.tmps.getD t' Go.undef = v at hv
                cases hv with
                | box _ _ b' hb' =>
                  have := (List.getElem?_eq_some_iff.1 hb').1
                  simpa [mains] using this
              | const v => 
                simp only [opv] at hid
                have := constAV_sound (R := R) (M := []) hid
                generalize v = v' at this
                cases this with
                | box _ _ b' hb' => simp at hb'
              | global g => cases hid
              | func f => simp [opv] at hid
            rcases Nat.le_total c j with hcj | hcj
            · obtain ⟨T, hT⟩ := Sat_more hr j hcj (by omega) fun e oe h1 h2 h3 h4 => by
                rcases hext e oe h3 h4 (.inl ⟨h1, h2⟩) with h | h
                · exact h
                · obtain ⟨_, _, _, _, _, _, _, hlt, _⟩ := softPair_spec h.1
                  omega
              rw [hT, List.getElem?_append_left hbound]
            · have hlt : id < (Sat P own call ops pf0 S j).length := by
                rcases Nat.lt_or_ge id (Sat P own call ops pf0 S j).length with h | h
                · exact h
                · exfalso
                  rw [hid] at hev0
                  unfold loadD at hev0
                  have hnone := List.getElem?_eq_none h
                  cases htt : tyOf P t with
                  | none => rw [htt] at hev0; cases hev0
                  | some ty => rw [htt] at hev0; simp only [hnone] at hev0; cases hev0
              -- step by step
              have key : ∀ k, j + k ≤ c → (Sat P own call ops pf0 S (j + k))[id]? = (Sat P own call ops pf0 S j)[id]? ∧ id < (Sat P own call ops pf0 S (j + k)).length := by
                intro k
                induction k with
                | zero => intro _; exact ⟨rfl, hlt⟩
                | succ k ihk =>
                  intro hk
                  obtain ⟨k1, k2⟩ := ihk (by omega)
                  have hc1 := hcut.1
                  have hge := Array.getElem?_eq_getElem (show j + k < ops.size by omega)
                  generalize hoe : ops[j + k]'(by omega) = oe at hge
                  rw [← Nat.add_assoc]
                  cases heo : isEff own oe.op with
                  | false => rw [(Sat_step hr hge).1 heo]; exact ⟨k1, k2⟩
                  | true =>
                    rcases hext _ oe hge heo (.inr ⟨by omega, by omega⟩) with h | ⟨h, hnb⟩
                    · obtain ⟨T, hT⟩ := (Sat_step hr hge).2 h
                      rw [hT, List.getElem?_append_left k2]
                      exact ⟨k1, by simp; omega⟩
                    · obtain ⟨t1, xa, xb, t2, s, hst, hlo, hje, hnw⟩ := softPair_spec h
                      obtain ⟨pfe, Se, hpe, hse2⟩ := Sat_store hr hge hst
                      rcases hse2 with h2 | ⟨ide, offe, obe, g1, g2, g3⟩
                      · rw [h2]; exact ⟨k1, k2⟩
                      · rw [g3]
                        have hne : id ≠ ide := by
                          intro he
                          subst he
                          injection hlo with hl1 hl2
                          subst hl2
                          -- the slot is what it was
                          have hsl : pfe s = pfm s := by
                            have hsplit : ops.toList.take (j + k) = ops.toList.take j ++ (ops.toList.take (j + k)).drop j := by
                              conv => lhs; rw [← List.take_append_drop j (ops.toList.take (j + k))]
                              rw [List.take_take, Nat.min_eq_left (by omega)]
                            rw [hsplit, rgnD_append, hm1] at hpe
                            have := rgnD_other _ hpe (t := s) fun o ho hdt => by
                              obtain ⟨q, hq, rfl⟩ := List.getElem_of_mem ho
                              have hq2 : j + q < ops.size := by simp at hq; omega
                              refine hnw (j + q) ops[j + q] (Array.getElem?_eq_getElem hq2) (by omega) ?_
                              simpa using hdt
                            exact this
                          have hpl : pfL ops listed pf0 pfE s = pfm s := hread s (by simp [Oper.looksAt, Op.operands])
                          have hbx : pfm s = .box id off := by
                            simp only [opv] at hid
                            injection hid with hid
                            rw [← hpl, hid]
                          unfold softOk at g2
                          rw [hst] at g2
                          simp only [g1, List.all_eq_true] at g2
                          have hmem : ((⟨dst, .load t (.tmp s), type, pos, after, guard⟩ : Oper), j) ∈ ops.toList.zipIdx := by
                            rw [List.mem_zipIdx_iff_getElem?]
                            simpa using hoj
                          have h3 := g2 _ hmem
                          simp only [opv, hsl, hbx, bne_self_eq_false, Bool.or_false, List.any_eq_true, Bool.and_eq_true, beq_iff_eq] at h3
                          obtain ⟨ed, hed1, hed2, hed3⟩ := h3
                          refine hnb ?_
                          have := befs_direct (ops := ops.toList) (k := j + k) (o := oe) (by simpa using hge) ed (by simpa using hed1) hed2 (((drawOk_spec hok hge).2.1 ed (by simpa using hed1) hed2))
                          rw [hed3] at this
                          exact this
                        rw [List.getElem?_set_ne (Ne.symm hne)]
                        exact ⟨k1, by simpa using k2⟩
              obtain ⟨k, rfl⟩ := Nat.exists_eq_add_of_le hcj
              exact (key k (Nat.le_refl _)).1
        refine opD_val hcall hcb (hGB.rel hrel) hrel.stab hrel.sr hrel.fr hev fun v w' R' hst hv _ _ => ?_
        exact ih _ c _ _ R' bl hsz' hcl' hcnt' (hcut0 hef) (hframe v w' R' hst hv)
    | false =>
      rw [if_neg (by rw [wantA_sound hrel.fr hwant]; simp)]
      obtain ⟨hxu, hSu⟩ := hm4 rfl
      subst hxu
      have hfr := hframe _ w R (St.refl hrel.stab _) .undef
      cases hef : isEff own oj.op with
      | false => exact ⟨fun _ _ => trivial, ih _ c _ _ R bl hsz' hcl' hcnt' (hcut0 hef) hfr⟩
      | true =>
        obtain ⟨hc1, hc2⟩ := heff hef
        refine ⟨fun _ _ => trivial, ih _ (j + 1) _ _ R bl hsz' hcl' hcnt' hc2 ?_⟩
        rw [hSj1, hSu, ← hc1]; exact hfr

end
end Go.Proofs.YtmcfnnpihlediaaGreatDoor.Ex

/- Code: what the pure interpreter answers is what the machine comes to. -/
namespace Go.Proofs.YtmcfnnpihlediaaGreatDoor.Ex
open Go Go.RowKit

inductive PX where
  | norm
  | ex (id : Nat)
  | ret
  | pan (x : AV)

/-- The pure state: the slots, the objects, the marks. -/
structure Cfg where
  pf : PF
  S : Obs
  D : List Nat

def iter (F : Cfg → Option (PX × Cfg)) : Nat → Cfg → Option (PX × Cfg)
  | 0, _ => none
  | n + 1, c =>
    match F c with
    | some (.norm, c') => iter F n c'
    | r => r

/-! ### Who owns what, along the code -/
structure Outs where
  norm : Option Env
  ex : List (Nat × Env)
  rets : List Env

def leE (E' E : Env) : Bool :=
  E'.all fun p => E'.all fun q =>
    if p.2 == q.2 then E.any (fun x => x.1 == p.1) else E.any fun x => E.any fun y => x.1 == p.1 && y.1 == q.1 && x.2 != y.2

def meetE (E1 E2 : Env) : Env :=
  let m := E1.filterMap fun p => (findE E2 p.1).map fun g2 => (p.1, p.2 * 1000 + g2)
  if leE m E1 && leE m E2 then m else []

def joinO : Option Env → Option Env → Option Env
  | none, x => x
  | x, none => x
  | some a, some b => some (meetE a b)

def fixE (f : Env → Option Outs) : Nat → Env → Env
  | 0, E => E
  | n + 1, E =>
    match f E with
    | some O => (match O.norm with | some N => if leE E N then E else fixE f n (meetE E N) | none => E)
    | none => E

def exitIds : Code → List Nat
  | .seq a b => exitIds a ++ exitIds b
  | .cond _ x y => exitIds x ++ exitIds y
  | .block _ c => exitIds c
  | .loop c => exitIds c
  | .exit id => [id]
  | .rangeFunc _ _ _ b => exitIds b
  | _ => []

def chk (own : FuncId → Bool) (nt : Nat) : Code → Env → Option Outs
  | .skip, E => some ⟨some E, [], []⟩
  | .region _ ops draw, E =>
    if dstsOk nt ops.toList then
      if draw then
        if drawOk own ops then some ⟨some (E.filter fun p => !ops.toList.any fun o => o.dst == some p.1), [], []⟩ else none
      else (transL own ops ops.toList E).map fun E' => ⟨some E', [], []⟩
    else none
  | .seq a b, E =>
    match chk own nt a E with
    | none => none
    | some O =>
      match O.norm with
      | none => some O
      | some E1 =>
        match chk own nt b E1 with
        | none => none
        | some O2 => some ⟨O2.norm, O.ex ++ O2.ex, O.rets ++ O2.rets⟩
  | .cond _ x y, E =>
    match chk own nt x E, chk own nt y E with
    | some O1, some O2 => some ⟨joinO O1.norm O2.norm, O1.ex ++ O2.ex, O1.rets ++ O2.rets⟩
    | _, _ => none
  | .block id c, E =>
    match chk own nt c E with
    | none => none
    | some O => some ⟨(O.ex.filter fun p => p.1 == id).foldl (fun j p => joinO j (some p.2)) O.norm, O.ex.filter fun p => p.1 != id, O.rets⟩
  | .loop c, E =>
    let H := fixE (chk own nt c) 4 E
    match chk own nt c H with
    | none => none
    | some O =>
      if leE H E && (match O.norm with | some N => leE H N | none => true) then some ⟨none, O.ex, O.rets⟩ else none
  | .exit id, E => some ⟨none, [(id, E)], []⟩
  | .ret, E => some ⟨none, [], [E]⟩
  | .rangeFunc _ ps asg body, E =>
    if (ps.toList.all fun p => p < nt) && (chk own nt asg []).isSome && (chk own nt body []).isSome then some ⟨some E, (exitIds body).map fun i => (i, E), [E]⟩ else none
  | _, _ => none

/-- A loop's record may be run. -/
def lokB (own : FuncId → Bool) (r : LoopA) : Prop := (r.params.all fun p => p < r.nt) = true ∧ (chk own r.nt r.assign []).isSome = true ∧ (chk own r.nt r.body []).isSome = true


/-- The objects of a range over a function, as it is entered. -/
def enterS (rd : Option Nat) (S : Obs) (r : LoopA) : Option Obs :=
  match rd with
  | none => some (S ++ [.dfr] ++ [.loop r])
  | some i => (match S[i]? with | some (.loop _) => some (S ++ [.loop r]) | _ => none)

def enterD (rd : Option Nat) (S : Obs) (D : List Nat) : List Nat :=
  match rd with
  | none => S.length :: D
  | some _ => D

def jumpAV (ids : List Nat) : Option Code → Option PX
  | none => some .norm
  | some .ret => some .ret
  | some (.exit i) => if ids.contains i then some (.ex i) else none
  | _ => none

def leaveS (ids : List Nat) (pf : PF) (D : List Nat) (id : Nat) (S2 : Obs) : Option (PX × Cfg) :=
  match S2[id]? with
  | some (.loop r) =>
    (match r.state with
    | .busy => none
    | _ => (jumpAV ids r.pending).map fun x => (x, ⟨pf, S2.set id .gone, D⟩))
  | _ => none

/-- How a region ends: done, or by a panic. -/
def regX (c : Cfg) (r : Option (PF × Obs)) (q : Option (AV × Obs)) : Option (PX × Cfg) :=
  match r with
  | some p => some (.norm, ⟨p.1, p.2, c.D⟩)
  | none => q.map fun p => (.pan p.1, ⟨c.pf, p.2, c.D⟩)

noncomputable def exec (P : Program) (own : FuncId → Bool) (call : CallT) (n : Nat) (rd : Option Nat) (nt : Nat) : Code → Cfg → Option (PX × Cfg)
  | .skip, c => some (.norm, c)
  | .region _ ops draw, c =>
    if draw then (rgnD P own call ops ops.toList c.pf c.S).map fun p => (.norm, ⟨p.1, p.2, c.D⟩)
    else regX c (rgn P own call ops ops.toList c.pf c.S) (rgnP P own call ops ops.toList c.pf c.S)
  | .seq a b, c =>
    match exec P own call n rd nt a c with
    | some (.norm, c') => exec P own call n rd nt b c'
    | r => r
  | .cond k x y, c =>
    match opv c.pf k with
    | some (.bool t) => if t then exec P own call n rd nt x c else exec P own call n rd nt y c
    | _ => none
  | .block id k, c =>
    match exec P own call n rd nt k c with
    | some (.ex i, c') => if i = id then some (.norm, c') else some (.ex i, c')
    | r => r
  | .loop k, c => iter (exec P own call n rd nt k) n c
  | .exit id, c => some (.ex id, c)
  | .ret, c => some (.ret, c)
  | .rangeFunc g ps asg body, c =>
    match opv c.pf g with
    | some (.fn f fs cs) =>
      (match enterS rd c.S ⟨.ready, none, c.pf, nt, ps.toList, asg, body⟩ with
      | some S1 =>
        (match call (.f f) (fs ++ [.yld (S1.length - 1)] ++ cs) S1 with
        | some (rs, S2) => if isPan rs then none else leaveS (exitIds body) c.pf (enterD rd c.S c.D) (S1.length - 1) S2
        | none => none)
      | none => none)
    | _ => none
  | _, _ => none

def Outs.has (O : Outs) : PX → Env → Prop
  | .norm, E => O.norm = some E
  | .ex id, E => (id, E) ∈ O.ex
  | .ret, E => E ∈ O.rets
  | .pan _, _ => False

def PX.exit : PX → Exit
  | .norm => .normal
  | .ex id => .exit id
  | .ret => .ret
  | .pan _ => .ret

section
variable {LOK : LoopA → Prop} {P : Program} {C : Gee} {own : FuncId → Bool} {call : CallT} {R : Reads} {w w' : World} {a : Act} {pf : PF} {bl : BL} {S S' : Obs} {D : List Nat} {B : Base}
  {nt : Nat} {E E' : Env}

theorem Rel.le (h : Rel LOK B nt E pf S D a w R bl) (hE : leE E' E = true) : Rel LOK B nt E' pf S D a w R bl := by
  have key : ∀ p ∈ E', ∀ q ∈ E', if p.2 == q.2 then E.any (fun x => x.1 == p.1) = true else (E.any fun x => E.any fun y => x.1 == p.1 && y.1 == q.1 && x.2 != y.2) = true := by
    intro p hp q hq
    have := List.all_eq_true.1 (List.all_eq_true.1 hE p hp) q hq
    split <;> simp_all
  refine ⟨h.size, h.defers, h.fr, h.sr, h.stp, fun s g hs => ?_, fun s g hs => ?_, fun s g s' g' h1 h2 hne => ?_⟩
  · have := key _ hs _ hs
    simp only [BEq.rfl, if_true, List.any_eq_true, beq_iff_eq] at this
    obtain ⟨⟨s1, g1⟩, hx, hx1⟩ := this
    simp only at hx1
    subst hx1
    exact h.own _ g1 hx
  · have := key _ hs _ hs
    simp only [BEq.rfl, if_true, List.any_eq_true, beq_iff_eq] at this
    obtain ⟨⟨s1, g1⟩, hx, hx1⟩ := this
    simp only at hx1
    subst hx1
    exact h.mine _ g1 hx
  · have := key _ h1 _ h2
    rw [if_neg (by simpa using hne)] at this
    simp only [List.any_eq_true, Bool.and_eq_true, beq_iff_eq, bne_iff_ne] at this
    obtain ⟨⟨s1, g1⟩, hx, ⟨s2, g2⟩, hy, ⟨e1, e2⟩, e3⟩ := this
    simp only at e1 e2 e3
    subst e1 e2
    exact h.dist _ g1 _ g2 hx hy e3

theorem leE_nil (E : Env) : leE [] E = true := rfl
theorem meetE_le (E1 E2 : Env) : leE (meetE E1 E2) E1 = true ∧ leE (meetE E1 E2) E2 = true := by
  unfold meetE
  simp only
  split
  · rename_i h; simpa using h
  · exact ⟨rfl, rfl⟩

theorem joinO_left {x y : Option Env} {E1 : Env} (h : x = some E1) : ∃ E', joinO x y = some E' ∧ leE E' E1 = true := by
  subst h
  cases y with
  | none => exact ⟨E1, rfl, by
      unfold leE; simp only [List.all_eq_true]; intro p hp q hq; split
      · simp only [List.any_eq_true, beq_iff_eq]; exact ⟨p, hp, rfl⟩
      · rename_i hne; simp only [List.any_eq_true, Bool.and_eq_true, beq_iff_eq, bne_iff_ne]; exact ⟨p, hp, q, hq, ⟨rfl, rfl⟩, by simpa using hne⟩⟩
  | some E2 => exact ⟨_, rfl, (meetE_le E1 E2).1⟩

theorem leE_refl (E : Env) : leE E E = true := by
  unfold leE; simp only [List.all_eq_true]; intro p hp q hq; split
  · simp only [List.any_eq_true, beq_iff_eq]; exact ⟨p, hp, rfl⟩
  · rename_i hne; simp only [List.any_eq_true, Bool.and_eq_true, beq_iff_eq, bne_iff_ne]; exact ⟨p, hp, q, hq, ⟨rfl, rfl⟩, by simpa using hne⟩

theorem joinO_right {x y : Option Env} {E2 : Env} (h : y = some E2) : ∃ E', joinO x y = some E' ∧ leE E' E2 = true := by
  subst h
  cases x with
  | none => exact ⟨E2, rfl, leE_refl E2⟩
  | some E1 => exact ⟨_, rfl, (meetE_le E1 E2).2⟩

end
end Go.Proofs.YtmcfnnpihlediaaGreatDoor.Ex

/- Code: what the pure interpreter answers is what the machine comes to. -/
namespace Go.Proofs.YtmcfnnpihlediaaGreatDoor.Ex
open Go Go.RowKit

/-- The round that is under way, if any. -/
def RdR (bl : BL) : Option Nat → Option Nat → Prop
  | none, none => True
  | some l, some i => (mains bl)[i]? = some l
  | _, _ => False

section
variable {LOK : LoopA → Prop} {P : Program} {C : Gee} {own : FuncId → Bool} {call : CallT} {R : Reads} {w w' : World} {a : Act} {pf : PF} {bl : BL} {S S' : Obs} {D : List Nat} {B : Base}
  {nt : Nat} {E E' : Env}

theorem Rel.push (hrel : Rel LOK B nt E pf S D a w R bl) (ob : Obj) {x : Ob} (hob : ObR LOK R (mains (bl ++ [(w.heap.size, [w.heap.size])])) (w.alloc ob) (w.heap.size, [w.heap.size]) x) :
    Rel LOK B nt E pf (S ++ [x]) D a (w.alloc ob) R (bl ++ [(w.heap.size, [w.heap.size])]) := by
  have := hrel.put_plain (hrel.stp.push hrel.sr.lt ob) (fun _ _ h => h) (fun i b hb => by
    rw [mains_append, List.getElem?_append_left (List.getElem?_eq_some_iff.1 hb).1]; exact hb) (hrel.sr.push hrel.stab ob hob) .undef (o := none) (by simp) (fun s g hsg b hb => ?_)
  · exact this
  · obtain ⟨sz, xs, _, h5⟩ := hrel.own s g hsg
    have hlt := (h5.lt hb).2
    refine ⟨?_, fun q u hq => .inl hq, fun hf => ?_⟩
    · show (w.heap.push ob)[b]? = _
      rw [Array.getElem?_push, if_neg (by omega)]
    · rw [fp_append] at hf
      rcases List.mem_append.1 hf with hf | hf
      · exact (hrel.mine s g hsg b hb).2 hf
      · simp [fp] at hf; omega

theorem noR_loop (hs : Stab R w) {b : Nat} {r : Loop} (h : w.heap[b]? = some (.loop r)) : ∀ a u, R a u → a.block ≠ b := by
  intro a u hr e
  have := (hs a u hr).1
  simp [World.cell?, e, h] at this

theorem noR_dfr (hs : Stab R w) {b : Nat} {r : Option (List Deferred)} (h : w.heap[b]? = some (.deferred r)) : ∀ a u, R a u → a.block ≠ b := by
  intro a u hr e
  have := (hs a u hr).1
  simp [World.cell?, e, h] at this

/-- An object changes, and nothing else. -/
theorem Rel.obj (hrel : Rel LOK B nt E pf S D a w R bl) {i : Nat} {p : Nat × List Nat} (hp : bl[i]? = some p) (hpm : p.1 ∈ p.2) {o : Obj} (hno : ∀ a u, R a u → a.block ≠ p.1) {x : Ob}
    (hob : ObR LOK R (mains bl) (w.putObj p.1 o) (p.1, [p.1]) x) : Rel LOK B nt E pf (S.set i x) D a (w.putObj p.1 o) R (bl.set i (p.1, [p.1])) := by
  have hw : ∀ k, k ≠ p.1 → (w.putObj p.1 o).heap[k]? = w.heap[k]? := fun k hk => World.putObj_heap_other hk
  have hpf := fp_at hp _ hpm
  have := hrel.put_plain (hrel.stp.upd (w' := w.putObj p.1 o) hp hpm (q := [p.1]) (by simp [hpf]) World.putObj_size rfl rfl rfl hw (.inl hno)) (fun _ _ h => h) (fun j b hb => by rw [mains_set hp]; exact hb)
    (hrel.sr.upd (w' := w.putObj p.1 o) hp hpm (q := [p.1]) (by simp) (by simp [hpm]) (by simpa using hrel.sr.lt _ hpf) (Nat.le_of_eq World.putObj_size.symm) hw hob) .undef (o := none) (by simp) (fun s g hsg b hb => ?_)
  · exact this
  · have hm := (hrel.mine s g hsg b hb).2
    refine ⟨hw b fun e => hm (by rw [e]; exact hpf), fun q u hq => .inl hq, fun hf => ?_⟩
    rcases fp_set hp hf with h | h
    · exact hm h
    · simp at h; subst h; exact hm hpf

/-- How code ends: as the pure interpreter says. -/
def FinX (own : FuncId → Bool) (B : Base) (nt : Nat) (O : Outs) (x : PX) (c' : Cfg) (e : Exit) (a' : Act) (w' : World) : Prop :=
  (e = x.exit ∧ ∃ E' R' bl', O.has x E' ∧ Rel (lokB own) B nt E' c'.pf c'.S c'.D a' w' R' bl') ∨
  (∃ v u R' bl', x = .pan v ∧ e = .panic [{ v := u, recovered := false }] ∧ VR R' (mains bl') u v ∧ ∃ pf', Rel (lokB own) B nt [] pf' c'.S c'.D a' w' R' bl')

theorem fn_sound {M : List Nat} {v : Value} {f : FuncId} {fs cs : List AV} (h : VR R M v (.fn f fs cs)) : ∃ first caps : Array Value, v = .func (.func f) first caps ∧ VRs R M first.toList fs ∧ VRs R M caps.toList cs := by
  cases h with
  | fn _ first caps _ _ h1 h2 v1 v2 =>
    refine ⟨first, caps, rfl, ⟨by simpa using h1, fun i k1 k2 => ?_⟩, ⟨by simpa using h2, fun i k1 k2 => ?_⟩⟩
    · simpa using v1 i (by simpa using k1) k2
    · simpa using v2 i (by simpa using k1) k2

theorem run_invoke {f : FuncId} {caps args : Array Value} (hc : callable P f = true) : (invoke (.fn (.func f) caps) args).run P w = .ok (.enter f (args ++ caps)) w := by
  unfold callable at hc
  split at hc
  case h_2 => cases hc
  rename_i fn hfn
  simp only [Bool.and_eq_true, bne_iff_ne] at hc
  obtain ⟨cb, hbody⟩ := Option.isSome_iff_exists.1 hc.2
  simp [invoke, callFunc, program, Sem.run, hfn, hc.1, hbody]

theorem range_inner (hcall : ∀ c, COK (lokB own) P C own c (call c)) (hcb : ∀ f avs S r, call (.f f) avs S = some r → callable P f = true) (hGB : Gd C B.R B.bl B.w)
    {ro : Option Nat} {m : Nat} {pf : PF} {S1 S2 : Obs} {D1 : List Nat} {ids : List Nat} {a1 : Act} {w1 : World} {bl1 : BL} {id l : Nat} {f : FuncId} {fs cs : List AV} {rs : List AV} {z : PX} {c' : Cfg} {first caps : Array Value}
    (hrel : Rel (lokB own) B nt E pf S1 D1 a1 w1 R bl1) (hid : (mains bl1)[id]? = some l) (h1 : VRs R (mains bl1) first.toList fs) (h2 : VRs R (mains bl1) caps.toList cs)
    (hc : call (.f f) (fs ++ [.yld id] ++ cs) S1 = some (rs, S2)) (hnp : isPan rs = false) (hl : leaveS ids pf D1 id S2 = some (z, c')) :
    CallsIn (fen ro) (m - 1) P f (first ++ #[.func (.yield l) #[] #[]] ++ caps) w1
      (rangePost (fen ro) m P l (FinX own B nt ⟨some E, ids.map fun i => (i, E), [E]⟩ z c') a1) := by
  have hvy : VRs R (mains bl1) [Value.func (.yield l) #[] #[]] [AV.yld id] := ⟨rfl, fun i k1 k2 => by
    have : i = 0 := by simpa using k1
    subst this; exact .yld id l hid⟩
  have hk := hcall (.f f) R bl1 w1 S1 (first.toList ++ [Value.func (.yield l) #[] #[]] ++ caps.toList) _ rs S2 (hGB.rel hrel) hrel.stab hrel.sr ((h1.append hvy).append h2) hc
  have hargs : (first.toList ++ [Value.func (.yield l) #[] #[]] ++ caps.toList).toArray = first ++ #[.func (.yield l) #[] #[]] ++ caps := by apply Array.toList_inj.1; simp
  rw [hargs] at hk
  have hk2 : Calls P f (first ++ #[.func (.yield l) #[] #[]] ++ caps) w1 _ := hk
  refine CallsIn.mono (F := fen ro) ((callsIn_wide (n := m - 1)).2 hk2) fun e w' hp => ?_
  rcases hp with ⟨vs, R', bl', rfl, hvs, hst, hsr', _⟩ | ⟨x, u, R', bl', rfl, _⟩
  case inr => simp [isPan, isPan1] at hnp
  have hrel2 : Rel (lokB own) B nt E pf S2 D1 a1 w' R' bl' :=
    hrel.put_plain (hrel.stp.trans hst) hst.sub hst.main hsr' .undef (o := none) (by simp) (fun s g hsg b hb => hrel.kept_stp hst hsg hb)
  unfold leaveS at hl
  split at hl
  case h_2 => cases hl
  rename_i r hS2
  obtain ⟨p, hp, hpl⟩ := mains_inv (hst.main id l hid)
  subst hpl
  obtain ⟨g1, g2, rec, g3, g4, g5, g6⟩ := hrel2.sr.obj id p _ hp hS2
  have hnb : rec.state ≠ .busy ∧ (jumpAV ids r.pending).map (fun x => (x, (⟨pf, S2.set id .gone, D1⟩ : Cfg))) = some (z, c') := by
    rw [g4]
    split at hl
    · cases hl
    · rename_i hne; exact ⟨hne, hl⟩
  obtain ⟨hnb, hl⟩ := hnb
  simp only [Option.map_eq_some_iff] at hl
  obtain ⟨z', hz, he⟩ := hl
  injection he with e1 e2
  subst e1 e2
  have hrel3 := hrel2.obj hp (by rw [g1]; simp) (o := .loop { rec with state := .exhausted }) (noR_loop hrel2.stab g3) (x := .gone) trivial
  refine ⟨_, _, run_endLoop g3 hnb, ?_⟩
  rw [g5] at hrel3 ⊢
  unfold jumpAV at hz
  split at hz
  · rename_i hpd
    rw [hpd] at hrel3 ⊢
    injection hz with hz; subst hz
    exact .inl ⟨rfl, E, R', _, rfl, hrel3⟩
  · rename_i hpd
    rw [hpd] at hrel3 ⊢
    injection hz with hz; subst hz
    exact wpIn_ret (.inl ⟨rfl, E, R', _, by simp [Outs.has], hrel3⟩)
  · rename_i i hpd
    rw [hpd] at hrel3 ⊢
    split at hz
    case isFalse => cases hz
    rename_i hi
    injection hz with hz; subst hz
    exact wpIn_exit (.inl ⟨rfl, E, R', _, by simp only [Outs.has, List.mem_map]; exact ⟨i, by simpa using hi, rfl⟩, hrel3⟩)
  · cases hz

theorem range_sound (hcall : ∀ c, COK (lokB own) P C own c (call c)) (hcb : ∀ f avs S r, call (.f f) avs S = some r → callable P f = true) (hGB : Gd C B.R B.bl B.w)
    {ro rd : Option Nat} (hrd : RdR B.bl ro rd) {m n : Nat} {g : Operand} {ps : Array Tmp} {asg body : Code} {c c' : Cfg} {z : PX} {O : Outs}
    (h : exec P own call n rd nt (.rangeFunc g ps asg body) c = some (z, c')) (hc : chk own nt (.rangeFunc g ps asg body) E = some O) (hrel : Rel (lokB own) B nt E c.pf c.S c.D a w R bl) :
    (Code.rangeFunc g ps asg body).wpIn (fen ro) m P (FinX own B nt O z c') a w := by
  simp only [exec] at h
  split at h
  case h_2 => cases h
  rename_i f fs cs hg
  split at h
  case h_2 => cases h
  rename_i S1 hS1
  split at h
  case h_2 => cases h
  rename_i rs S2 hcl
  split at h
  case isTrue => cases h
  rename_i hnp
  have hnp : isPan rs = false := by simpa using hnp
  simp only [chk] at hc
  split at hc
  case isFalse => cases hc
  rename_i hck
  injection hc with hc; subst hc
  simp only [Bool.and_eq_true] at hck
  obtain ⟨first, caps, hev, hfs, hcs⟩ := fn_sound (opv_sound hrel.fr hg)
  have hcal := hcb f _ _ _ hcl
  have hlok : lokB own ⟨.ready, none, c.pf, nt, ps.toList, asg, body⟩ := ⟨hck.1.1, hck.1.2, hck.2⟩
  have hres : ∀ (l : Nat) (w1 : World), (resolve a.eval (rangeCall g l) 0).run P w1 = .ok { target := .fn (.func f) caps, args := first ++ #[.func (.yield l) #[] #[]] } w1 := by
    intro l w1
    have hcv : a.eval (.const (.func (.yield l) #[] #[])) = .func (.yield l) #[] #[] := rfl
    simp [resolve, rangeCall, hev, Deferred.ofValue, hcv]
  refine wpIn_rangeFunc fun fn _ => ?_
  match ro, rd, hrd with
  | none, none, _ =>
    simp only [enterS, Option.some.injEq] at hS1
    subst hS1
    have hrel1 := hrel.push (.deferred (some [])) (x := .dfr) ⟨rfl, alloc_new w _⟩
    have hrel2 := hrel1.push (.loop { state := .ready, pending := none, fn := fn, tmps := a.tmps, params := ps, assign := asg, body := body, defers := w.heap.size })
      (x := .loop ⟨.ready, none, c.pf, nt, ps.toList, asg, body⟩) ⟨rfl, hlok, _, alloc_new _ _, rfl, rfl, rfl, rfl, rfl, hrel.size, fun t => (hrel1.fr t).monoM (fun _ _ h => h) (fun i b hb => by
        rw [mains_append, List.getElem?_append_left (List.getElem?_eq_some_iff.1 hb).1]; exact hb)⟩
    have hM : ∀ (i b : Nat), (mains bl)[i]? = some b → (mains (bl ++ [(w.heap.size, [w.heap.size])] ++ [((w.alloc (.deferred (some []))).heap.size, [(w.alloc (.deferred (some []))).heap.size])]))[i]? = some b := fun i b hb => by
      rw [mains_append, List.getElem?_append_left (by rw [mains_append]; simp; have := (List.getElem?_eq_some_iff.1 hb).1; omega), mains_append, List.getElem?_append_left (List.getElem?_eq_some_iff.1 hb).1]
      exact hb
    have hsz : (w.alloc (.deferred (some []))).heap.size = w.heap.size + 1 := Array.size_push ..
    have hlen : c.S.length = (mains bl).length := by rw [← hrel.sr.len]; simp [mains]
    let mk : List Deferred := [{ target := .collected w.heap.size, args := #[] }]
    have hrel3 : Rel (lokB own) B nt E c.pf (c.S ++ [.dfr] ++ [.loop ⟨.ready, none, c.pf, nt, ps.toList, asg, body⟩]) (enterD none c.S c.D) { a with defers := mk ++ a.defers }
        ((w.alloc (.deferred (some []))).alloc (.loop { state := .ready, pending := none, fn := fn, tmps := a.tmps, params := ps, assign := asg, body := body, defers := w.heap.size })) R (bl ++ [(w.heap.size, [w.heap.size])] ++ [((w.alloc (.deferred (some []))).heap.size, [(w.alloc (.deferred (some []))).heap.size])]) := by
      refine ⟨hrel2.size, ?_, hrel2.fr, hrel2.sr, hrel2.stp, hrel2.own, hrel2.mine, hrel2.dist⟩
      obtain ⟨bs, d1, d2, d3⟩ := hrel.defers
      refine ⟨w.heap.size :: bs, by simp [mk, d1], by simp [enterD, d2], fun k b i hk hi => ?_⟩
      cases k with
      | zero =>
        simp [enterD] at hk hi
        subst hk hi
        rw [mains_append, mains_append, List.getElem?_append_left (by simp [mains]; rw [hlen]; simp [mains]), List.getElem?_append_right (by rw [hlen]; exact Nat.le_refl _), hlen]
        simp [mains]
      | succ k =>
        simp [enterD] at hk hi
        exact hM i b (d3 k b i hk hi)
    have hidx : (c.S ++ [Ob.dfr] ++ [Ob.loop ⟨.ready, none, c.pf, nt, ps.toList, asg, body⟩]).length - 1 = c.S.length + 1 := by simp
    rw [hidx] at hcl h
    refine ⟨_, mk, _, _, _, f, _, _, run_enterLoop_outer fn a.tmps ps asg body, hres _ _, fun _ _ => trivial, run_invoke hcal, fun hd => by simp [fen, Fence.wide] at hd, ?_⟩
    refine range_inner hcall hcb hGB hrel3 ?_ ?_ ?_ hcl hnp h
    · rw [mains_append, List.getElem?_append_right (by rw [mains_append]; simp [mains]; have := hlen; simp [mains] at this; omega)]
      have : (mains (bl ++ [(w.heap.size, [w.heap.size])])).length = c.S.length + 1 := by rw [mains_append]; simp [mains]; have := hlen; simp [mains] at this; omega
      rw [this]
      simp [mains, hsz]
    · exact hfs.monoM (fun _ _ h => h) hM
    · exact hcs.monoM (fun _ _ h => h) hM
  | some l0, some i, hrd =>
    simp only [enterS] at hS1
    split at hS1
    case h_2 => cases hS1
    rename_i r0 hr0
    injection hS1 with hS1; subst hS1
    obtain ⟨p, hp, hpl⟩ := mains_inv (hrel.stp.main i l0 hrd)
    subst hpl
    obtain ⟨_, _, rec0, hrec0, _⟩ := hrel.sr.obj i p _ hp hr0
    have hM : ∀ (i b : Nat), (mains bl)[i]? = some b → (mains (bl ++ [(w.heap.size, [w.heap.size])]))[i]? = some b := fun i b hb => by
      rw [mains_append, List.getElem?_append_left (List.getElem?_eq_some_iff.1 hb).1]; exact hb
    have hrel2 := hrel.push (.loop { state := .ready, pending := none, fn := fn, tmps := a.tmps, params := ps, assign := asg, body := body, defers := rec0.defers })
      (x := .loop ⟨.ready, none, c.pf, nt, ps.toList, asg, body⟩) ⟨rfl, hlok, _, alloc_new _ _, rfl, rfl, rfl, rfl, rfl, hrel.size, fun t => (hrel.fr t).monoM (fun _ _ h => h) hM⟩
    have hlen : c.S.length = (mains bl).length := by rw [← hrel.sr.len]; simp [mains]
    have hidx : (c.S ++ [Ob.loop ⟨.ready, none, c.pf, nt, ps.toList, asg, body⟩]).length - 1 = c.S.length := by simp
    rw [hidx] at hcl h
    have hrun : (Instr.enterLoop fn a.tmps ps asg body (some p.1)).run P w = .ok (w.heap.size, [])
        (w.alloc (.loop { state := .ready, pending := none, fn := fn, tmps := a.tmps, params := ps, assign := asg, body := body, defers := rec0.defers })) := by
      unfold Instr.enterLoop
      simp only [Sem.run_bind, run_getLoop hrec0, run_newObj_alloc, Result.andThen, Sem.run_pure]
    refine ⟨_, _, _, _, _, f, _, _, hrun, hres _ _, fun _ _ => trivial, run_invoke hcal, fun hd => by simp [fen, Fence.wide] at hd, ?_⟩
    refine range_inner hcall hcb hGB (a1 := { a with defers := [] ++ a.defers }) hrel2 ?_ ?_ ?_ hcl hnp h
    · rw [mains_append, List.getElem?_append_right (by rw [hlen]; exact Nat.le_refl _), hlen]
      simp [mains]
    · exact hfs.monoM (fun _ _ h => h) hM
    · exact hcs.monoM (fun _ _ h => h) hM

/-- Behind a fold of joins, each that went in is at least as strong. -/
theorem fold_join {l : List (Nat × Env)} : ∀ {x : Option Env} {E1 : Env}, (∀ (c : Cfg) (a : Act) (w : World) (R : Reads) (bl : BL), Rel LOK B nt E1 c.pf c.S c.D a w R bl → ∃ E', x = some E' ∧ Rel LOK B nt E' c.pf c.S c.D a w R bl) →
    ∀ (c : Cfg) (a : Act) (w : World) (R : Reads) (bl : BL), Rel LOK B nt E1 c.pf c.S c.D a w R bl → ∃ E', l.foldl (fun j p => joinO j (some p.2)) x = some E' ∧ Rel LOK B nt E' c.pf c.S c.D a w R bl := by
  induction l with
  | nil => intro x E1 h c a w R bl hr; exact h c a w R bl hr
  | cons p r ih =>
    intro x E1 h c a w R bl hr
    refine ih (x := joinO x (some p.2)) (fun c a w R bl hr => ?_) c a w R bl hr
    obtain ⟨E', hx, hr'⟩ := h c a w R bl hr
    obtain ⟨E2, h2, h3⟩ := joinO_left (y := some p.2) hx
    exact ⟨E2, h2, hr'.le h3⟩

theorem fold_mem {l : List (Nat × Env)} {id : Nat} {E1 : Env} (hm : (id, E1) ∈ l) : ∀ (x : Option Env) (c : Cfg) (a : Act) (w : World) (R : Reads) (bl : BL), Rel LOK B nt E1 c.pf c.S c.D a w R bl →
    ∃ E', l.foldl (fun j p => joinO j (some p.2)) x = some E' ∧ Rel LOK B nt E' c.pf c.S c.D a w R bl := by
  induction l with
  | nil => cases hm
  | cons p r ih =>
    intro x c a w R bl hr
    simp only [List.foldl_cons]
    rcases List.mem_cons.1 hm with rfl | hm
    · refine fold_join (x := joinO x (some E1)) (E1 := E1) (fun c a w R bl hr => ?_) c a w R bl hr
      obtain ⟨E2, h2, h3⟩ := joinO_right (x := x) (y := some E1) rfl
      exact ⟨E2, h2, hr.le h3⟩
    · exact ih hm _ c a w R bl hr

theorem repl_getD (n i : Nat) : (Array.replicate n false).getD i false = false := by
  rw [Array.getD_eq_getD_getElem?, Array.getElem?_replicate]
  split <;> rfl

theorem exec_sound (hcall : ∀ c, COK (lokB own) P C own c (call c)) (hcb : ∀ f avs S r, call (.f f) avs S = some r → callable P f = true) (hGB : Gd C B.R B.bl B.w)
    (hmix : P.follows .mixedOrders = true) {ro rd : Option Nat} (hrd : RdR B.bl ro rd) (m n : Nat) : ∀ (c : Code) {pf pf' : Cfg} {x : PX} {E : Env} {O : Outs} {a : Act} {w : World} {R : Reads} {bl : BL},
      exec P own call n rd nt c pf = some (x, pf') → chk own nt c E = some O → Rel (lokB own) B nt E pf.pf pf.S pf.D a w R bl →
      c.wpIn (fen ro) m P (FinX own B nt O x pf') a w := by
  intro c
  induction c with
  | skip =>
    intro pf pf' x E O a w R bl h hc hrel
    simp only [exec] at h; injection h with h; injection h with h1 h2; subst h1 h2
    simp only [chk] at hc; injection hc with hc; subst hc
    exact wpIn_skip (.inl ⟨rfl, E, R, bl, rfl, hrel⟩)
  | region id ops draw =>
    intro pf pf' x E O a w R bl h hc hrel
    simp only [chk] at hc
    split at hc
    case isFalse => cases hc
    rename_i hd
    cases draw with
    | true =>
      simp only [exec, if_true, Option.map_eq_some_iff] at h
      obtain ⟨q, hr, h⟩ := h
      injection h with h1 h2; subst h1 h2
      simp only [if_true] at hc
      split at hc
      case isFalse => cases hc
      rename_i hok
      injection hc with hc; subst hc
      refine wpIn_region_any hmix ?_
      have hst : St R w R { w with drawn := w.drawn + 1 } none :=
        ⟨fun _ _ h => h, fun _ _ h => .inl h, hrel.stab, rfl, rfl, rfl, Nat.le_refl _, fun _ _ _ => rfl⟩
      have hrel2 : Rel (lokB own) B nt (E.filter fun p => !ops.toList.any fun o => o.dst == some p.1) (pfL ops (Array.replicate ops.size false) pf.pf q.1) (Sat P own call ops pf.pf pf.S 0) pf.D a { w with drawn := w.drawn + 1 } R bl := by
        have heq : pfL ops (Array.replicate ops.size false) pf.pf q.1 = pf.pf := by
          funext t
          unfold pfL
          rw [if_neg]
          rintro ⟨i, hi, _⟩
          rw [repl_getD] at hi; cases hi
        rw [heq, Sat_of (j := 0) (p := (pf.pf, pf.S)) (by simp [rgnD])]
        have := (hrel.put_plain (hrel.stp.st hst (by simp)) hst.sub (fun _ _ h => h) (hrel.sr.st hst (by simp)) .undef (o := none) (by simp) (fun s g hsg b hb => hrel.kept_st hst hsg hb (by simp))).weaken (E' := E.filter fun p => !ops.toList.any fun o => o.dst == some p.1) fun s g hs => (List.mem_filter.1 hs).1
        exact this
      refine draw_sound hcall hcb hGB hok (pfE := q.1) (SE := q.2) hr hd ?_ (fun a' w' R' bl' hrel' => .inl ⟨rfl, _, R', bl', rfl, hrel'⟩) ops.size _ 0 a _ R bl (by simp) ?_ ?_ ⟨Nat.zero_le _, fun e oe _ _ => by rw [repl_getD]; simp⟩ hrel2
      · intro j oj d g hoj hdj hm
        have h1 := (List.mem_filter.1 hm).2
        simp only [Bool.not_eq_true', List.any_eq_false, beq_iff_eq] at h1
        exact h1 oj (by
          obtain ⟨h2, h3⟩ := Array.getElem?_eq_some_iff.1 hoj
          rw [← h3]; simp) hdj
      · intro k o hk hl
        rw [repl_getD] at hl; cases hl
      · refine Nat.le_trans (List.countP_le_length) (by simp)
    | false =>
      simp only [exec, Bool.false_eq_true, if_false] at h
      simp only [Bool.false_eq_true, if_false, Option.map_eq_some_iff] at hc
      obtain ⟨E', hE', rfl⟩ := hc
      refine wpIn_region_list ?_
      unfold regX at h
      split at h
      · rename_i q hr
        obtain ⟨q1, q2⟩ := q
        injection h with h; injection h with h1 h2; subst h1 h2
        exact rgn_sound hcall hcb hGB ops.toList hr hE' hd hrel fun a' w' R' bl' hrel' => .inl ⟨rfl, E', R', bl', rfl, hrel'⟩
      · simp only [Option.map_eq_some_iff] at h
        obtain ⟨q, hr, h⟩ := h
        obtain ⟨q1, q2⟩ := q
        injection h with h1 h2; subst h1 h2
        exact rgnP_sound hcall hcb hGB ops.toList hr hE' hd hrel fun u a' w' R' bl' pf2 hu hrel' => .inr ⟨_, u, R', bl', rfl, rfl, hu, pf2, hrel'⟩
  | seq x y ihx ihy =>
    intro pf pf' z E O a w R bl h hc hrel
    simp only [chk] at hc
    split at hc
    case h_1 => cases hc
    rename_i O1 hO1
    simp only [exec] at h
    split at h
    · rename_i q hq
      have hx := ihx hq hO1 hrel
      refine wpIn_seq (wpIn_mono hx fun e a' w' hp => ?_)
      rcases hp with ⟨rfl, E1, R1, bl1, hh, hrel1⟩ | hp
      case inr =>
        obtain ⟨v, u, R1, bl1, hx, _⟩ := hp
        cases hx
      simp only [Outs.has] at hh
      rw [hh] at hc
      simp only at hc
      split at hc
      case h_1 => cases hc
      rename_i O2 hO2
      injection hc with hc; subst hc
      show y.wpIn (fen ro) m P _ a' w'
      refine wpIn_mono (ihy h hO2 hrel1) fun e a2 w2 hp2 => ?_
      rcases hp2 with ⟨rfl, E2, R2, bl1, hh2, hrel2⟩ | hp
      case inr =>
        obtain ⟨v, u, R1, bl1, rfl, rfl, hu, pf1, hrel1⟩ := hp
        exact .inr ⟨v, u, R1, bl1, rfl, rfl, hu, pf1, hrel1⟩
      refine .inl ⟨rfl, E2, R2, bl1, ?_, hrel2⟩
      cases z with
      | norm => exact hh2
      | ex id => exact List.mem_append_right _ hh2
      | ret => exact List.mem_append_right _ hh2
      | pan v => exact hh2.elim
    · rename_i hne
      have hx := ihx h hO1 hrel
      refine wpIn_seq (wpIn_mono hx fun e a' w' hp => ?_)
      rcases hp with ⟨rfl, E1, R1, bl1, hh, hrel1⟩ | hp
      case inr =>
        obtain ⟨v, u, R1, bl1, rfl, rfl, hu, pf1, hrel1⟩ := hp
        exact .inr ⟨v, u, R1, bl1, rfl, rfl, hu, pf1, hrel1⟩
      have hO : O.has z E1 := by
        split at hc
        · injection hc with hc; subst hc; exact hh
        · split at hc
          · cases hc
          · injection hc with hc; subst hc
            cases z with
            | norm => exact absurd h (hne _)
            | ex id => exact List.mem_append_left _ hh
            | ret => exact List.mem_append_left _ hh
            | pan v => exact hh.elim
      cases z with
      | norm => exact absurd h (hne _)
      | ex id => exact .inl ⟨rfl, E1, R1, bl1, hO, hrel1⟩
      | ret => exact .inl ⟨rfl, E1, R1, bl1, hO, hrel1⟩
      | pan v => exact hh.elim
  | cond c x y ihx ihy =>
    intro pf pf' z E O a w R bl h hc hrel
    simp only [chk] at hc
    split at hc
    case h_2 => cases hc
    rename_i O1 O2 hO1 hO2
    injection hc with hc; subst hc
    simp only [exec] at h
    split at h
    · rename_i t ht
      have hev := (opv_sound hrel.fr ht).bool_inv
      cases t with
      | true =>
        refine wpIn_cond_true hev (wpIn_mono (ihx (by simpa using h) hO1 hrel) fun e a' w' hp => ?_)
        rcases hp with ⟨rfl, E1, R1, bl1, hh, hrel1⟩ | hp
        case inr =>
          obtain ⟨v, u, R1, bl1, rfl, rfl, hu, pf1, hrel1⟩ := hp
          exact .inr ⟨v, u, R1, bl1, rfl, rfl, hu, pf1, hrel1⟩
        cases z with
        | norm =>
          obtain ⟨E2, h2, h3⟩ := joinO_left (y := O2.norm) hh
          exact .inl ⟨rfl, E2, R1, bl1, h2, hrel1.le h3⟩
        | ex id => exact .inl ⟨rfl, E1, R1, bl1, List.mem_append_left _ hh, hrel1⟩
        | ret => exact .inl ⟨rfl, E1, R1, bl1, List.mem_append_left _ hh, hrel1⟩
        | pan v => exact hh.elim
      | false =>
        refine wpIn_cond_false hev (wpIn_mono (ihy (by simpa using h) hO2 hrel) fun e a' w' hp => ?_)
        rcases hp with ⟨rfl, E1, R1, bl1, hh, hrel1⟩ | hp
        case inr =>
          obtain ⟨v, u, R1, bl1, rfl, rfl, hu, pf1, hrel1⟩ := hp
          exact .inr ⟨v, u, R1, bl1, rfl, rfl, hu, pf1, hrel1⟩
        cases z with
        | norm =>
          obtain ⟨E2, h2, h3⟩ := joinO_right (x := O1.norm) hh
          exact .inl ⟨rfl, E2, R1, bl1, h2, hrel1.le h3⟩
        | ex id => exact .inl ⟨rfl, E1, R1, bl1, List.mem_append_right _ hh, hrel1⟩
        | ret => exact .inl ⟨rfl, E1, R1, bl1, List.mem_append_right _ hh, hrel1⟩
        | pan v => exact hh.elim
    · cases h
  | block id c ih =>
    intro pf pf' z E O a w R bl h hc hrel
    simp only [chk] at hc
    split at hc
    case h_1 => cases hc
    rename_i O1 hO1
    injection hc with hc; subst hc
    simp only [exec] at h
    split at h
    · rename_i i q hq
      refine wpIn_block (wpIn_mono (ih hq hO1 hrel) fun e a' w' hp => ?_)
      rcases hp with ⟨rfl, E1, R1, bl1, hh, hrel1⟩ | hp
      case inr =>
        obtain ⟨v, u, R1, bl1, hx, _⟩ := hp
        cases hx
      by_cases hid : i = id
      · subst hid
        simp only [if_true] at h
        injection h with h; injection h with h1 h2; subst h1 h2
        obtain ⟨E2, h2, h3⟩ := fold_mem (l := O1.ex.filter fun p => p.1 == i) (id := i) (E1 := E1) (List.mem_filter.2 ⟨hh, by simp⟩) O1.norm _ _ _ _ _ hrel1
        simp only [PX.exit, Exit.inBlock, if_true]
        exact .inl ⟨rfl, E2, R1, bl1, h2, h3⟩
      · simp only [hid, if_false] at h
        injection h with h; injection h with h1 h2; subst h1 h2
        simp only [PX.exit, Exit.inBlock, hid, if_false]
        exact .inl ⟨rfl, E1, R1, bl1, List.mem_filter.2 ⟨hh, by simpa using hid⟩, hrel1⟩
    · rename_i hne
      refine wpIn_block (wpIn_mono (ih h hO1 hrel) fun e a' w' hp => ?_)
      rcases hp with ⟨rfl, E1, R1, bl1, hh, hrel1⟩ | hp
      case inr =>
        obtain ⟨v, u, R1, bl1, rfl, rfl, hu, pf1, hrel1⟩ := hp
        exact .inr ⟨v, u, R1, bl1, rfl, rfl, hu, pf1, hrel1⟩
      cases z with
      | norm =>
        obtain ⟨E2, h2, h3⟩ := fold_join (l := O1.ex.filter fun p => p.1 == id) (x := O1.norm) (E1 := E1) (fun pf a w R bl hr => ⟨E1, hh, hr⟩) _ _ _ _ _ hrel1
        exact .inl ⟨rfl, E2, R1, bl1, h2, h3⟩
      | ex i => exact absurd h (hne i _)
      | ret => exact .inl ⟨rfl, E1, R1, bl1, hh, hrel1⟩
      | pan v => exact hh.elim
  | loop c ih =>
    intro pf pf' z E O a w R bl h hc hrel
    simp only [chk] at hc
    split at hc
    case h_1 => cases hc
    rename_i O1 hO1
    have hle : (leE (fixE (chk own nt c) 4 E) E = true ∧ ∀ N, O1.norm = some N → leE (fixE (chk own nt c) 4 E) N = true) ∧ some (⟨none, O1.ex, O1.rets⟩ : Outs) = some O := by
      cases hN : O1.norm with
      | none =>
        rw [hN] at hc
        simp only [Bool.and_true] at hc
        split at hc
        · rename_i h1; exact ⟨⟨h1, by simp⟩, hc⟩
        · cases hc
      | some N =>
        rw [hN] at hc
        simp only [Bool.and_eq_true] at hc
        split at hc
        · rename_i h1; exact ⟨⟨h1.1, fun N' e => by injection e with e; rw [← e]; exact h1.2⟩, hc⟩
        · cases hc
    obtain ⟨hle, hc⟩ := hle
    injection hc with hc; subst hc
    simp only [exec] at h
    obtain ⟨hle1, hle2⟩ := hle
    generalize hH : fixE (chk own nt c) 4 E = H at hO1 hle1 hle2
    have hrel' := hrel.le hle1
    -- the rounds
    have key : ∀ (k : Nat) (pf : Cfg) (a : Act) (w : World) (R : Reads) (bl : BL), iter (exec P own call n rd nt c) k pf = some (z, pf') → Rel (lokB own) B nt H pf.pf pf.S pf.D a w R bl →
        Code.roundsIn (fen ro) m P c (FinX own B nt ⟨none, O1.ex, O1.rets⟩ z pf') k a w := by
      intro k
      induction k with
      | zero => intro pf a w R bl hit; simp [iter] at hit
      | succ k ihk =>
        intro pf a w R bl hit hr
        rw [roundsIn_succ]
        simp only [iter] at hit
        split at hit
        · rename_i q hq
          refine wpIn_mono (ih hq hO1 hr) fun e a' w' hp => ?_
          rcases hp with ⟨rfl, E1, R1, bl1, hh, hrel1⟩ | hp
          case inr =>
            obtain ⟨v, u, R1, bl1, hx, _⟩ := hp
            cases hx
          simp only [Outs.has] at hh
          exact ihk q a' w' R1 bl1 hit (hrel1.le (hle2 _ hh))
        · rename_i hne
          refine wpIn_mono (ih hit hO1 hr) fun e a' w' hp => ?_
          rcases hp with ⟨rfl, E1, R1, bl1, hh, hrel1⟩ | hp
          case inr =>
            obtain ⟨v, u, R1, bl1, rfl, rfl, hu, pf1, hrel1⟩ := hp
            exact .inr ⟨v, u, R1, bl1, rfl, rfl, hu, pf1, hrel1⟩
          cases z with
          | norm => exact absurd hit (hne _)
          | ex i => exact .inl ⟨rfl, E1, R1, bl1, hh, hrel1⟩
          | ret => exact .inl ⟨rfl, E1, R1, bl1, hh, hrel1⟩
          | pan v => exact hh.elim
    refine wpIn_loop_rounds n ?_
    exact key n pf a w R bl h hrel'
  | exit id =>
    intro pf pf' z E O a w R bl h hc hrel
    simp only [exec] at h; injection h with h; injection h with h1 h2; subst h1 h2
    simp only [chk] at hc; injection hc with hc; subst hc
    exact wpIn_exit (.inl ⟨rfl, E, R, bl, by simp [Outs.has], hrel⟩)
  | ret =>
    intro pf pf' z E O a w R bl h hc hrel
    simp only [exec] at h; injection h with h; injection h with h1 h2; subst h1 h2
    simp only [chk] at hc; injection hc with hc; subst hc
    exact wpIn_ret (.inl ⟨rfl, E, R, bl, by simp [Outs.has], hrel⟩)
  | rangeFunc f ps x y _ _ => intro pf pf' z E O a w R bl h hc hrel; exact range_sound hcall hcb hGB hrd h hc hrel
  | scope c _ => intro pf pf' z E O a w R bl h; simp [exec] at h
  | label l => intro pf pf' z E O a w R bl h; simp [exec] at h
  | goto l => intro pf pf' z E O a w R bl h; simp [exec] at h
  | refuse s => intro pf pf' z E O a w R bl h; simp [exec] at h

end
end Go.Proofs.YtmcfnnpihlediaaGreatDoor.Ex

/- Functions, and a loop's rounds: what the pure interpreter answers is what the machine's call comes to. -/
namespace Go.Proofs.YtmcfnnpihlediaaGreatDoor.Ex
open Go Go.RowKit

def initPF (avs : List AV) : PF := fun t => (avs[t]?).getD .undef

def resAV (P : Program) (S : Obs) (pf : PF) : List ResultVar → Option (List AV)
  | [] => some []
  | .tmp t :: r => (resAV P S pf r).map (pf t :: ·)
  | .cell c t :: r =>
    match loadD P t (some (pf c)) S with
    | some v => (resAV P S pf r).map (v :: ·)
    | none => none

abbrev Exts := FuncId → Option (List AV → Option (List AV))
abbrev ExtO := FuncId → Option (List AV → Obs → Option (List AV × Obs))

def closeD : List Nat → Obs → Option Obs
  | [], S => some S
  | i :: D, S => (match S[i]? with | some .dfr => closeD D (S.set i .gone) | _ => none)

def finFn (P : Program) (rs : List ResultVar) (c : Cfg) : Option (List AV × Obs) :=
  match closeD c.D c.S with
  | some S' => (match resAV P S' c.pf rs with | some r => some (r, S') | none => none)
  | none => none

noncomputable def runFn (P : Program) (own : FuncId → Bool) (call : CallT) (n : Nat) (fn : Func) (c : Code) (avs : List AV) (S : Obs) : Option (List AV × Obs) :=
  if avs.length ≤ fn.ntmps then
    match exec P own call n none fn.ntmps c ⟨initPF avs, S, []⟩ with
    | some (.norm, c') => finFn P fn.results.toList c'
    | some (.ret, c') => finFn P fn.results.toList c'
    | some (.pan x, c') => (match c'.D with | [] => some ([.pan x], c'.S) | _ => none)
    | _ => none
  else none

def parPF : List Nat → List AV → PF → PF
  | p :: ps, v :: vs, pf => parPF ps vs (upd pf p v)
  | _, _, pf => pf

def PX.jump : PX → Option Code
  | .norm => none
  | .ret => some .ret
  | .ex i => some (.exit i)
  | .pan _ => none

/-- The round begins. -/
def busyS (id : Nat) (S : Obs) : Option Obs :=
  match S[id]? with
  | some (.loop r) => (match r.state with | .ready => some (S.set id (.loop { r with state := .busy })) | _ => none)
  | _ => none

/-- It ends. -/
def doneS (id : Nat) (j : Option Code) (S : Obs) : Option (List AV × Obs) :=
  match S[id]? with
  | some (.loop r) => some ([.bool j.isNone], S.set id (.loop { r with state := if j.isNone then .ready else .done, pending := j }))
  | _ => none

noncomputable def runY (P : Program) (own : FuncId → Bool) (call : CallT) (n : Nat) (id : Nat) (avs : List AV) (S : Obs) : Option (List AV × Obs) :=
  match S[id]? with
  | some (.loop r) =>
    if avs.length = r.params.length then
      match exec P own call n (some id) r.nt r.assign ⟨parPF r.params avs r.pf, S, []⟩ with
      | some (.norm, c1) =>
        (match busyS id c1.S with
        | some S1 =>
          (match exec P own call n (some id) r.nt r.body ⟨c1.pf, S1, c1.D⟩ with
          | some (.pan _, _) => none
          | some (x, c2) => doneS id x.jump c2.S
          | none => none)
        | none => none)
      | _ => none
    else none
  | _ => none

noncomputable def fnS (P : Program) (own : FuncId → Bool) (ext : Exts) (eo : ExtO) (L : List FuncId) : Nat → CallT
  | 0 => fun _ _ _ => none
  | n + 1 => fun k avs S =>
    match k with
    | .f f =>
      (match ext f with
      | some g => if noBoxL avs then (match g avs with | some rs => if noBoxL rs then some (rs, S) else none | none => none) else none
      | none =>
        match eo f with
        | some h => h avs S
        | none =>
        if L.contains f then
          match P.funcs[f]? with
          | some fn => (match fn.body with | some c => runFn P own (fnS P own ext eo L n) n fn c avs S | none => none)
          | none => none
        else none)
    | .y id => runY P own (fnS P own ext eo L n) n id avs S

def resOwn (own : Bool) (rs : List ResultVar) (O : Outs) : Bool :=
  !own || match rs with
    | [.tmp s] => (O.norm.toList ++ O.rets).all fun E => E.any fun p => p.1 == s
    | _ => false

def chkFn (P : Program) (own : FuncId → Bool) (f : FuncId) : Bool :=
  callable P f &&
  match P.funcs[f]? with
  | some fn =>
    (match fn.body with
    | some c => (match chk own fn.ntmps c [] with | some O => resOwn (own f) fn.results.toList O | none => false)
    | none => false)
  | none => false

/-- What is known of a function that is not walked here: it touches no object. -/
def FnOK (P : Program) (C : Gee) (own : FuncId → Bool) (f : FuncId) (g : List AV → Option (List AV)) : Prop :=
  ∀ (R : Reads) (w : World) (args : List Value) (avs rs : List AV), C.P R w → C.base ≤ w.heap.size → Stab R w → VRs R [] args avs → g avs = some rs →
    Calls P f args.toArray w fun e w' => ∃ vs R', e = .returned (retv vs) ∧ VRs R' [] vs rs ∧ St R w R' w' none ∧
      (own f = true → ∃ v sz xs, vs = [v] ∧ rs = [.sl sz xs] ∧ OwnV R' w.heap.size w' v sz)

section
variable {LOK : LoopA → Prop} {P : Program} {C : Gee} {own : FuncId → Bool} {ext : Exts} {eo : ExtO} {L : List FuncId} {call : CallT} {R : Reads} {w w' : World} {a : Act} {pf : PF} {bl : BL} {S S' : Obs} {D : List Nat} {B : Base}
  {nt : Nat} {E E' : Env}

theorem fnS_callable (hext : ∀ f g, ext f = some g → callable P f = true ∧ FnOK P C own f g) (heo : ∀ f h, eo f = some h → callable P f = true ∧ COK (lokB own) P C own (.f f) h) (hL : L.all (chkFn P own) = true) :
    ∀ n f avs S r, fnS P own ext eo L n (.f f) avs S = some r → callable P f = true := by
  intro n f avs S r h
  cases n with
  | zero => cases h
  | succ n =>
    simp only [fnS] at h
    split at h
    · rename_i g hg; exact (hext f g hg).1
    · split at h
      · rename_i g hg; exact (heo f g hg).1
      split at h
      · rename_i hl
        have := List.all_eq_true.1 hL f (by simpa using hl)
        unfold chkFn at this
        simp only [Bool.and_eq_true] at this
        exact this.1
      · cases h

theorem results_sound (hrel : Rel LOK B nt E pf S D a w R bl) {fn : Func} {xs : List AV} (h : resAV P S pf fn.results.toList = some xs) :
    ∃ vs, (results fn a.tmps).run P w = .ok (retv vs) w ∧ VRs R (mains bl) vs xs ∧ ∀ t, fn.results.toList = [.tmp t] → vs = [a.tmps.getD t Go.undef] ∧ xs = [pf t] := by
  have key : ∀ (rs : List ResultVar) (xs : List AV), resAV P S pf rs = some xs → ∃ vs, (rs.mapM (m := Sem) (fun
      | .tmp t => pure (a.tmps.getD t Go.undef)
      | .cell c t => do loadVar t (← asAddr (a.tmps.getD c Go.undef)))).run P w = .ok vs w ∧ VRs R (mains bl) vs xs ∧ ∀ t, rs = [.tmp t] → vs = [a.tmps.getD t Go.undef] ∧ xs = [pf t] := by
    intro rs
    induction rs with
    | nil => intro xs h; simp [resAV] at h; subst h; exact ⟨[], rfl, ⟨rfl, by simp⟩, by simp⟩
    | cons r rs ih =>
      intro xs h
      cases r with
      | tmp t =>
        simp only [resAV, Option.map_eq_some_iff] at h
        obtain ⟨ys, hy, rfl⟩ := h
        obtain ⟨vs, h1, h2, _⟩ := ih ys hy
        refine ⟨a.tmps.getD t Go.undef :: vs, ?_, VRs.append (vs := [_]) (xs := [_]) ⟨rfl, fun i k1 k2 => ?_⟩ h2, fun t' ht => ?_⟩
        · simp only [List.mapM_cons, Sem.run_bind, Sem.run_pure, Result.andThen_ok, h1]
        · have : i = 0 := by simpa using k1
          subst this; exact hrel.fr t
        · injection ht with e1 e2
          injection e1 with e1
          subst e1 e2
          simp [resAV] at hy
          subst hy
          have : vs = [] := List.length_eq_zero_iff.1 h2.1
          subst this
          exact ⟨rfl, rfl⟩
      | cell c t =>
        simp only [resAV] at h
        split at h
        case h_2 => cases h
        rename_i v hv
        simp only [Option.map_eq_some_iff] at h
        obtain ⟨ys, hy, rfl⟩ := h
        obtain ⟨vs, h1, h2, _⟩ := ih ys hy
        obtain ⟨u, hu, huv⟩ := loadD_sound (y := .tmp c) hrel.fr hrel.stab hrel.sr hv
        have e : a.eval (.tmp c) = a.tmps.getD c Go.undef := rfl
        rw [e] at hu
        have hu2 : (do loadVar t (← asAddr (a.tmps.getD c Go.undef)) : Sem Value).run P w = .ok u w := by
          have hp := hrel.fr c
          have hpp : ∃ A, a.tmps.getD c Go.undef = .pointer (some A) := by
            unfold loadD at hv
            generalize a.tmps.getD c Go.undef = z at hp
            split at hv
            · rename_i h3; injection h3 with h3; rw [h3] at hp; cases hp with | ref A _ f _ _ => exact ⟨A, rfl⟩
            · rename_i h3; injection h3 with h3; rw [h3] at hp; cases hp with | box _ _ b hb => exact ⟨_, rfl⟩
            · cases hv
          obtain ⟨A, hA⟩ := hpp
          rw [hA] at hu ⊢
          simpa [Instr.loadAt, Instr.sureAddr, asAddr] using hu
        refine ⟨u :: vs, ?_, VRs.append (vs := [_]) (xs := [_]) ⟨rfl, fun i k1 k2 => ?_⟩ h2, fun t' ht => by cases ht⟩
        · simp only [List.mapM_cons, Sem.run_bind] at hu2 ⊢
          rw [hu2]
          simp only [Result.andThen_ok, h1, Sem.run_bind, Sem.run_pure]
        · have : i = 0 := by simpa using k1
          subst this; exact huv
  obtain ⟨vs, h1, h2, h3⟩ := key _ xs h
  refine ⟨vs, ?_, h2, h3⟩
  unfold results
  have hr : fn.results = fn.results.toList.toArray := by simp
  rw [hr, Sem.run_bind, List.mapM_toArray, Sem.run_map]
  erw [h1]
  simp only [Result.andThen_ok, Sem.run_pure]
  congr 1
  match vs with
  | [] => rfl
  | [t] => rfl
  | t :: u :: r => simp [retv]

theorem leaves_sound {fn : Func} {Rp : Ending → World → Prop} : ∀ (D : List Nat) {S S' : Obs} {a : Act} {w : World} {bl : BL}, Rel LOK B nt E pf S D a w R bl → closeD D S = some S' →
    (∀ a' w' bl', a'.tmps = a.tmps → Rel LOK B nt E pf S' [] a' w' R bl' → ∃ v, (results fn a.tmps).run P w' = .ok v w' ∧ Rp (.returned v) w') →
    LeavesInM Fence.wide 0 P fn a.tmps Rp a.defers .returning w
  | [], S, S', a, w, bl, hrel, hc, hn => by
    simp only [closeD] at hc
    injection hc with hc; subst hc
    obtain ⟨bs, d1, d2, d3⟩ := hrel.defers
    have hb : bs = [] := List.length_eq_zero_iff.1 d2
    subst hb
    have hd : a.defers = [] := by simpa using d1
    rw [hd]
    exact hn a w bl rfl hrel
  | i :: D, S, S', a, w, bl, hrel, hc, hn => by
    simp only [closeD] at hc
    split at hc
    case h_2 => cases hc
    rename_i hi
    obtain ⟨bs, d1, d2, d3⟩ := hrel.defers
    cases bs with
    | nil => simp at d2
    | cons b bs =>
      obtain ⟨p, hp, hpb⟩ := mains_inv (d3 0 b i rfl rfl)
      subst hpb
      have ho := hrel.sr.obj i p _ hp hi
      have hrel2 := hrel.obj hp (by rw [ho.1]; simp) (o := .deferred none) (noR_dfr hrel.stab ho.2) (x := .gone) trivial
      have hrel3 : Rel LOK B nt E pf (S.set i .gone) D { a with defers := bs.map fun b => ({ target := .collected b, args := #[] } : Deferred) } (w.putObj p.1 (.deferred none)) R (bl.set i (p.1, [p.1])) := by
        refine ⟨hrel2.size, ⟨bs, rfl, by simpa using d2, fun k b' i' hk hi' => ?_⟩, hrel2.fr, hrel2.sr, hrel2.stp, hrel2.own, hrel2.mine, hrel2.dist⟩
        rw [mains_set hp]
        exact d3 (k + 1) b' i' (by simpa using hk) (by simpa using hi')
      have := leaves_sound D hrel3 hc (fun a' w' bl' ha hr => hn a' w' bl' ha hr)
      rw [d1]
      exact ⟨by simp, .inl ⟨p.1, _, rfl, run_takeDeferred ho.2, this⟩⟩

theorem initPF_sound {args : List Value} {avs : List AV} {M : List Nat} (h : VRs R M args avs) (nt : Nat) : FrR R M (args.toArray ++ Array.replicate (nt - args.toArray.size) Go.undef) (initPF avs) := by
  intro t
  have hl2 := h.1
  unfold initPF
  rw [Array.getD_eq_getD_getElem?]
  by_cases ht : t < args.length
  · have ht2 : t < avs.length := by omega
    rw [Array.getElem?_append_left (by simpa using ht)]
    simp only [List.getElem?_toArray, List.getElem?_eq_getElem ht, List.getElem?_eq_getElem ht2, Option.getD_some]
    exact h.2 t ht ht2
  · rw [List.getElem?_eq_none (l := avs) (by omega)]
    rw [Array.getElem?_append_right (by simpa using ht), Array.getElem?_replicate]
    split <;> exact .undef

theorem fold_sound {M : List Nat} : ∀ (ps : List Nat) {args : List Value} {avs : List AV} {tmps : Array Value} {pf : PF}, ps.length = args.length → VRs R M args avs → (ps.all fun p => p < tmps.size) = true → FrR R M tmps pf →
    FrR R M ((ps.zip args).foldl (fun tmps p => tmps.setIfInBounds p.1 p.2) tmps) (parPF ps avs pf) ∧ ((ps.zip args).foldl (fun tmps p => tmps.setIfInBounds p.1 p.2) tmps).size = tmps.size
  | [], args, avs, tmps, pf, hl, hv, hp, hf => by
    cases avs <;> exact ⟨hf, rfl⟩
  | p :: ps, [], avs, tmps, pf, hl, hv, hp, hf => by cases hl
  | p :: ps, v :: vs, avs, tmps, pf, hl, hv, hp, hf => by
    cases avs with
    | nil => have := hv.1; cases this
    | cons x xs =>
      simp only [List.all_cons, Bool.and_eq_true, decide_eq_true_eq] at hp
      have hv0 : VR R M v x := hv.2 0 (by simp) (by simp)
      have hvr : VRs R M vs xs := ⟨by simpa using hv.1, fun i h1 h2 => by
        have := hv.2 (i + 1) (by simpa using h1) (by simpa using h2)
        simpa using this⟩
      have hf' : FrR R M (tmps.setIfInBounds p v) (upd pf p x) := by
        intro t
        simp only [Array.getD_eq_getD_getElem?, Array.getElem?_setIfInBounds, upd]
        by_cases ht : t = p
        · subst ht; simp [hp.1, hv0]
        · have := hf t
          simp only [Array.getD_eq_getD_getElem?] at this
          simpa [ht, Ne.symm ht] using this
      obtain ⟨h1, h2⟩ := fold_sound ps (args := vs) (avs := xs) (tmps := tmps.setIfInBounds p v) (pf := upd pf p x) (by simpa using hl) hvr (by simpa using hp.2) hf'
      simp only [List.zip_cons_cons, List.foldl_cons, parPF]
      exact ⟨h1, by rw [h2]; simp⟩

theorem runFn_sound (hcall : ∀ c, COK (lokB own) P C own c (call c)) (hcb : ∀ f avs S r, call (.f f) avs S = some r → callable P f = true) (hmix : P.follows .mixedOrders = true)
    {n : Nat} {f : FuncId} {fn : Func} {c : Code} (hfn : P.funcs[f]? = some fn) (hbody : fn.body = some c) (hch : chkFn P own f = true) :
    COK (lokB own) P C own (.f f) (runFn P own call n fn c) := by
  intro R bl w S args avs rs S' hG hs hsr hargs h
  unfold chkFn at hch
  simp only [Bool.and_eq_true, hfn, hbody] at hch
  obtain ⟨_, hch⟩ := hch
  split at hch
  case h_2 => cases hch
  rename_i O hO
  unfold runFn at h
  split at h
  case isFalse => cases h
  rename_i hlen
  have fin : ∀ x c', exec P own call n none fn.ntmps c ⟨initPF avs, S, []⟩ = some (x, c') → (x = .norm ∨ x = .ret) → finFn P fn.results.toList c' = some (rs, S') →
      CallC P (mains bl) (.f f) args.toArray w fun e w' => EndOK (lokB own) (ownC own (.f f)) R bl w rs S' e w' := by
    intro x c' hx hxx hres
    unfold finFn at hres
    split at hres
    case h_2 => cases hres
    rename_i S'' hclose
    split at hres
    case h_2 => cases hres
    rename_i rs' hres1
    injection hres with hres; injection hres with e1 e2
    have e1 := e1.symm
    have e2 := e2.symm
    subst e1 e2
    show Calls P f args.toArray w _
    refine (callsIn_wide (n := 0)).1 (callsIn_of_wp_marks hfn hbody trivial ?_)
    have hrel : Rel (lokB own) ⟨R, bl, w⟩ fn.ntmps [] (initPF avs) S [] { tmps := args.toArray ++ Array.replicate (fn.ntmps - args.toArray.size) Go.undef, defers := [] } w R bl := by
      refine ⟨?_, ⟨[], rfl, rfl, by simp⟩, initPF_sound hargs _, hsr, Stp.refl hs, by simp, by simp, by simp⟩
      have := hargs.1; simp; omega
    have hex := exec_sound (ro := none) (rd := none) hcall hcb (B := ⟨R, bl, w⟩) hG hmix trivial 0 n c hx hO hrel
    refine wpIn_mono (F := Fence.wide) hex fun e a' w' hp => ?_
    rcases hp with ⟨rfl, E', R', bl', hh, hr⟩ | ⟨v, u, R', bl', rfl, _⟩
    case inr => rcases hxx with hxx | hxx <;> cases hxx
    have hpost := leaves_sound (fn := fn) (P := P) (Rp := fun e w' => EndOK (lokB own) (ownC own (.f f)) R bl w rs S' e w') c'.D hr hclose (by
      intro a2 w2 bl2 ha hr2
      have hpf : a2.tmps = a'.tmps := ha
      obtain ⟨vs, h1, h2, h3⟩ := results_sound (P := P) hr2 hres1
      rw [ha] at h1 h3
      refine ⟨_, h1, .inl ⟨_, R', bl2, rfl, h2, hr2.stp, hr2.sr, fun ho => ?_⟩⟩
      · unfold resOwn at hch
        have ho' : own f = true := ho
        simp only [ho', Bool.not_true, Bool.false_or] at hch
        split at hch
        · rename_i s hrs
          obtain ⟨hvs, hxs⟩ := h3 s hrs
          have hE : E' ∈ O.norm.toList ++ O.rets := by
            rcases hxx with rfl | rfl
            · simp only [Outs.has] at hh; simp [hh]
            · exact List.mem_append_right _ hh
          have := List.all_eq_true.1 hch E' hE
          simp only [List.any_eq_true, beq_iff_eq] at this
          obtain ⟨⟨s', g⟩, hm, hs'⟩ := this
          simp only at hs'
          subst hs'
          obtain ⟨sz, xs, h4, h5⟩ := hr2.own _ g hm
          have h6 := hr2.mine _ g hm
          rw [ha] at h5 h6
          exact ⟨_, sz, xs, hvs, by rw [hxs, h4], h5, h6⟩
        · cases hch)
    rcases hxx with rfl | rfl <;> exact hpost
  split at h
  · rename_i c' hx; exact fin _ _ hx (.inl rfl) h
  · rename_i c' hx; exact fin _ _ hx (.inr rfl) h
  · rename_i x c' hx
    split at h
    case h_2 => cases h
    rename_i hD
    injection h with h; injection h with e1 e2; subst e1 e2
    show Calls P f args.toArray w _
    refine (callsIn_wide (n := 0)).1 (callsIn_of_wp_marks hfn hbody trivial ?_)
    have hrel : Rel (lokB own) ⟨R, bl, w⟩ fn.ntmps [] (initPF avs) S [] { tmps := args.toArray ++ Array.replicate (fn.ntmps - args.toArray.size) Go.undef, defers := [] } w R bl := by
      refine ⟨?_, ⟨[], rfl, rfl, by simp⟩, initPF_sound hargs _, hsr, Stp.refl hs, by simp, by simp, by simp⟩
      have := hargs.1; simp; omega
    have hex := exec_sound (ro := none) (rd := none) hcall hcb (B := ⟨R, bl, w⟩) hG hmix trivial 0 n c hx hO hrel
    refine wpIn_mono (F := Fence.wide) hex fun e a' w' hp => ?_
    rcases hp with ⟨_, E', R', bl', hh, _⟩ | ⟨v, u, R', bl', hv, rfl, hu, pf', hr⟩
    case inl => exact hh.elim
    injection hv with hv; subst hv
    rw [hD] at hr
    obtain ⟨bs, d1, d2, d3⟩ := hr.defers
    have hb : bs = [] := List.length_eq_zero_iff.1 d2
    subst hb
    have hd : a'.defers = [] := by simpa using d1
    have hfinal : EndOK (lokB own) (ownC own (.f f)) R bl w [.pan x] c'.S (.panicked [{ v := u, recovered := false }]) w' := .inr ⟨x, u, R', bl', rfl, rfl, hu, hr.stp, hr.sr⟩
    simp only [bodyPostM, hd, LeavesInM, LeavesIn]
    exact hfinal
  · cases h

theorem runY_sound (hcall : ∀ c, COK (lokB own) P C own c (call c)) (hcb : ∀ f avs S r, call (.f f) avs S = some r → callable P f = true) (hmix : P.follows .mixedOrders = true)
    {n id : Nat} : COK (lokB own) P C own (.y id) (runY P own call n id) := by
  intro R bl w S args avs rs S' hG hs hsr hargs h
  unfold runY at h
  split at h
  case h_2 => cases h
  rename_i r hr
  split at h
  case isFalse => cases h
  rename_i hlen
  split at h
  case h_2 => cases h
  rename_i c1 hc1
  split at h
  case h_2 => cases h
  rename_i S1 hS1
  split at h
  case h_1 => cases h
  case h_3 => cases h
  rename_i x c2 hnpan hc2
  have hidlt : id < bl.length := by
    have := (List.getElem?_eq_some_iff.1 hr).1
    rw [hsr.len]; exact this
  obtain ⟨p, hp⟩ : ∃ p, bl[id]? = some p := ⟨_, List.getElem?_eq_getElem hidlt⟩
  obtain ⟨g1, g2, rec, g3, g4, g5, g6, g7, g8, g9, g10⟩ := hsr.obj id p _ hp hr
  obtain ⟨k1, k2, k3⟩ := g2
  obtain ⟨O1, hO1⟩ := Option.isSome_iff_exists.1 k2
  obtain ⟨O2, hO2⟩ := Option.isSome_iff_exists.1 k3
  have hsz : args.toArray.size = rec.params.size := by
    have h1 := hargs.1
    have h2 : rec.params.size = r.params.length := by rw [← g6]; simp
    simp; omega
  have hfold : (rec.params.zip args.toArray).foldl (fun tmps (t, a) => tmps.setIfInBounds t a) rec.tmps = (r.params.zip args).foldl (fun tmps p => tmps.setIfInBounds p.1 p.2) rec.tmps := by
    rw [← g6, ← Array.foldl_toList]
    simp
  obtain ⟨f1, f2⟩ := fold_sound r.params (by have := hargs.1; omega) hargs (by rw [g9]; exact k1) g10
  refine ⟨p.1, rec.fn, (r.params.zip args).foldl (fun tmps p => tmps.setIfInBounds p.1 p.2) rec.tmps, r.assign, r.body, mains_at hp, ?_, ?_⟩
  · rw [run_yield g3 hsz, hfold, g7, g8]
  · have hrel : Rel (lokB own) ⟨R, bl, w⟩ r.nt [] (parPF r.params avs r.pf) S [] { tmps := (r.params.zip args).foldl (fun tmps p => tmps.setIfInBounds p.1 p.2) rec.tmps, defers := [] } w R bl :=
      ⟨by rw [f2]; exact g9, ⟨[], rfl, rfl, by simp⟩, f1, hsr, Stp.refl hs, by simp, by simp, by simp⟩
    have hex := exec_sound (ro := some p.1) (rd := some id) hcall hcb (B := ⟨R, bl, w⟩) hG hmix (mains_at hp) 0 n r.assign hc1 hO1 hrel
    refine roundIn_of_wpIn (F := Fence.wide) (n := 0) trivial (wpIn_mono (F := fen (some p.1)) hex fun e a1 w1 hp1 => ?_)
    rcases hp1 with ⟨rfl, E1, R1, bl1, hh1, hrel1⟩ | ⟨v, u, R', bl', hv, _⟩
    case inr => cases hv
    unfold busyS at hS1
    split at hS1
    case h_2 => cases hS1
    rename_i r1 hr1
    split at hS1
    case h_2 => cases hS1
    rename_i hrdy
    injection hS1 with hS1; subst hS1
    obtain ⟨p1, hp1, hpl⟩ := mains_inv (hrel1.stp.main id p.1 (mains_at hp))
    obtain ⟨m1, m2, rec1, m3, m4, m5, m6, m7, m8, m9, m10⟩ := hrel1.sr.obj id p1 _ hp1 hr1
    rw [← hpl]
    have hbusy := run_beginRound (P := P) m3 (by rw [m4]; exact hrdy)
    refine ⟨_, hbusy, ?_⟩
    have hlt1 : p1.1 < w1.heap.size := (Array.getElem?_eq_some_iff.1 m3).1
    have hrel2 := hrel1.obj hp1 (by rw [m1]; simp) (o := .loop { rec1 with state := .busy }) (noR_loop hrel1.stab m3) (x := .loop { r1 with state := .busy })
      ⟨rfl, m2, _, World.putObj_heap_same hlt1, rfl, m5, m6, m7, m8, m9, m10⟩
    have hrel3 := hrel2.weaken (E' := []) (by simp)
    have hex2 := exec_sound (ro := some p.1) (rd := some id) hcall hcb (B := ⟨R, bl, w⟩) hG hmix (mains_at hp) 0 n r.body hc2 hO2 hrel3
    rw [hpl] at hex2 ⊢
    refine wpIn_mono (F := fen (some p.1)) hex2 fun e a2 w2 hp2 => ?_
    rcases hp2 with ⟨rfl, E2, R2, bl2, hh2, hrel4⟩ | ⟨v, u, R', bl', hv, _⟩
    case inr => exact (hnpan _ hv).elim
    unfold doneS at h
    split at h
    case h_2 => cases h
    rename_i r2 hr2
    injection h with h; injection h with e1 e2; subst e1 e2
    obtain ⟨p2, hp2, hpl2⟩ := mains_inv (hrel4.stp.main id p.1 (mains_at hp))
    obtain ⟨q1, q2, rec2, q3, q4, q5, q6, q7, q8, q9, q10⟩ := hrel4.sr.obj id p2 _ hp2 hr2
    have hlt2 : p2.1 < w2.heap.size := (Array.getElem?_eq_some_iff.1 q3).1
    have hrel5 := hrel4.obj hp2 (by rw [q1]; simp) (o := .loop { rec2 with state := if x.jump.isNone then .ready else .done, pending := x.jump }) (noR_loop hrel4.stab q3)
      (x := .loop { r2 with state := if x.jump.isNone then .ready else .done, pending := x.jump }) ⟨rfl, q2, _, World.putObj_heap_same hlt2, rfl, rfl, q6, q7, q8, q9, q10⟩
    have hfin : ∃ v w', (Instr.endRound p.1 x.jump).run P w2 = .ok v w' ∧ EndOK (lokB own) (ownC own (.y id)) R bl w [.bool x.jump.isNone] (c2.S.set id (.loop { r2 with state := if x.jump.isNone then .ready else .done, pending := x.jump })) (.returned v) w' := by
      have hend := run_endRound (P := P) x.jump q3
      rw [hpl2] at hend hrel5
      refine ⟨_, _, hend, .inl ⟨[.bool x.jump.isNone], R2, _, rfl, ⟨rfl, fun i h1 h2 => ?_⟩, hrel5.stp, hrel5.sr, fun ho => by cases ho⟩⟩
      have : i = 0 := by simpa using h1
      subst this
      exact .bool _
    cases x with
    | norm => exact hfin
    | ret => exact hfin
    | ex i => exact hfin
    | pan v => exact hh2.elim

theorem fnS_sound (hmix : P.follows .mixedOrders = true) (hext : ∀ f g, ext f = some g → callable P f = true ∧ FnOK P C own f g)
    (heo : ∀ f h, eo f = some h → callable P f = true ∧ COK (lokB own) P C own (.f f) h) (hL : L.all (chkFn P own) = true) : ∀ n c, COK (lokB own) P C own c (fnS P own ext eo L n c) := by
  intro n
  induction n with
  | zero => intro c R bl w S args avs rs S' _ _ _ _ h; cases h
  | succ n ih =>
    intro c
    cases c with
    | y id => exact runY_sound ih (fnS_callable hext heo hL n) hmix
    | f f =>
      intro R bl w S args avs rs S' hG hs hsr hargs h
      simp only [fnS] at h
      split at h
      · rename_i g hg
        split at h
        case isFalse => cases h
        rename_i hnb
        split at h
        case h_2 => cases h
        rename_i rs' hrs
        split at h
        case isFalse => cases h
        rename_i hnr
        injection h with h; injection h with e1 e2
        have e1 := e1.symm
        subst e1 e2
        refine Calls.mono ((hext f g hg).2 R w args avs rs hG.p hG.size hs (hargs.noBox hnb) hrs) fun e w' hp => ?_
        obtain ⟨vs, R', rfl, hvs, hst, hO⟩ := hp
        refine .inl ⟨vs, R', bl, rfl, hvs.noBox hnr, hst.stp hs, hsr.st hst (by simp), fun ho => ?_⟩
        obtain ⟨v, sz, xs, h1, h2, h3⟩ := hO ho
        refine ⟨v, sz, xs, h1, h2, h3.mono_base (Nat.zero_le _), fun b hb => ⟨.inl (h3.lt hb).1, fun hf => ?_⟩⟩
        have := (h3.lt hb).1
        have := hsr.lt b hf
        omega
      · split at h
        · rename_i g hg
          exact (heo f g hg).2 R bl w S args avs rs S' hG hs hsr hargs h
        split at h
        case isFalse => cases h
        rename_i hl
        split at h
        case h_2 => cases h
        rename_i fn hfn
        split at h
        case h_2 => cases h
        rename_i c hc
        exact runFn_sound ih (fnS_callable hext heo hL n) hmix hfn hc (List.all_eq_true.1 hL f (by simpa using hl)) R bl w S args avs rs S' hG hs hsr hargs h

end
end Go.Proofs.YtmcfnnpihlediaaGreatDoor.Ex

/- What the library's functions answer, in plain Lean; the table of what is not walked. -/
namespace Go.Proofs.YtmcfnnpihlediaaGreatDoor.Ex
open Go

abbrev Str := List UInt8

def isBl (c : UInt8) : Bool := c == 32 || c == 9

/-- The words of a text. -/
def wordsGo : Str → Str → List Str
  | [], cur => if cur = [] then [] else [cur]
  | c :: r, cur => if isBl c then (if cur = [] then wordsGo r [] else cur :: wordsGo r []) else wordsGo r (cur ++ [c])
def wordsL (s : Str) : List Str := wordsGo s []

def joinL (sep : Str) : List Str → Str
  | [] => []
  | [x] => x
  | x :: r => x ++ sep ++ joinL sep r

def strsOf : List AV → Option (List Str)
  | [] => some []
  | .str s :: r => (strsOf r).map (s :: ·)
  | _ => none

def trimR (s : Str) : Str := (s.reverse.dropWhile isBl).reverse
def trimB (s : Str) : Str := trimR (s.dropWhile isBl)

def idxBl : Str → Option Nat
  | [] => none
  | c :: r => if isBl c then some 0 else (idxBl r).map (· + 1)

def digB (n : Nat) : UInt8 := UInt8.ofNat (48 + n)
def decGo : Nat → Nat → Str → Str
  | 0, _, acc => acc
  | f + 1, n, acc => if n < 10 then digB n :: acc else decGo f (n / 10) (digB (n % 10) :: acc)
/-- A number's digits. -/
def decL (n : Nat) : Str := decGo (n + 1) n []

def isDig (c : UInt8) : Bool := 48 ≤ c && c ≤ 57
def valGo : Nat → Str → Nat
  | a, [] => a
  | a, c :: r => valGo (10 * a + (c.toNat - 48)) r

/-- Does the one begin with the other? -/
def isPre : Str → Str → Bool
  | [], _ => true
  | _ :: _, [] => false
  | a :: x, b :: y => a == b && isPre x y

def hasSub (a : Str) : Str → Bool
  | [] => a == []
  | c :: r => isPre a (c :: r) || hasSub a r

def repGo (a b : Str) : Nat → Str → Str
  | 0, t => t
  | _ + 1, [] => []
  | f + 1, c :: r => if isPre a (c :: r) then b ++ repGo a b f ((c :: r).drop a.length) else c :: repGo a b f r
/-- Each place of one text, put by another one; from the left. -/
def repL (a b t : Str) : Str := repGo a b (t.length + 1) t

def idxOf (c : UInt8) : Str → Option Nat
  | [] => none
  | d :: r => if d == c then some 0 else (idxOf c r).map (· + 1)
def lastOf (c : UInt8) : Str → Option Nat
  | [] => none
  | d :: r => match lastOf c r with | some i => some (i + 1) | none => if d == c then some 0 else none

def insL' (x : Str) : List Str → List Str
  | [] => [x]
  | y :: r => if x = y then y :: r else if Op.bytesLess x y then x :: y :: r else y :: insL' x r
def sortU (l : List Str) : List Str := l.foldl (fun acc x => insL' x acc) []

def zipAdd : List Str → List Str → List Str
  | a, [] => a
  | [], b => b
  | x :: a, y :: b => (x ++ y) :: zipAdd a b

def intOf : Option Nat → Int
  | some n => n
  | none => -1

def lim : Nat := 1099511627776
/-- What the library's searches are told of: texts of at most so many bytes. -/
def big : Nat := 4000000000

def gJoin : List AV → Option (List AV)
  | [.sl 1 ws, .str sep] => (match strsOf ws with | some l => if (joinL sep l).length ≤ lim ∧ l.length ≤ lim + lim then some [.str (joinL sep l)] else none | none => none)
  | _ => none
def gItoa : List AV → Option (List AV)
  | [.int .i64 n] => if 0 ≤ n ∧ n < lim then some [.str (decL n.toNat)] else none
  | _ => none
def gTrim : List AV → Option (List AV)
  | [.str s, .str [32, 9]] => if s.length ≤ big then some [.str (trimB s)] else none
  | _ => none
def gContains : List AV → Option (List AV)
  | [.str t, .str a] => if t.length ≤ big then some [.bool (hasSub a t)] else none
  | _ => none
def gReplace : List AV → Option (List AV)
  | [.str t, .str a, .str b] => if a = [] ∨ big < t.length then none else if (t.length + 1) * (b.length + 1) ≤ lim then some [.str (repL a b t)] else none
  | _ => none
def gTrimLeft : List AV → Option (List AV)
  | [.str s, .str [32, 9]] => some [.str (s.dropWhile isBl)]
  | _ => none
def gIndexAny : List AV → Option (List AV)
  | [.str s, .str [32, 9]] => if s.length ≤ big then some [.int .i64 (intOf (idxBl s))] else none
  | _ => none
def gCount : List AV → Option (List AV)
  | [.str s, .str [37]] => some [.int .i64 (s.countP (· == 37))]
  | _ => none
def gCut : List AV → Option (List AV)
  | [.str s, .str [c]] => if big < s.length then none else
    (match idxOf c s with
    | some i => some [.str (s.take i), .str (s.drop (i + 1)), .bool true]
    | none => some [.str s, .str [], .bool false])
  | _ => none
def gCutPrefix : List AV → Option (List AV)
  | [.str s, .str p] => if isPre p s then some [.str (s.drop p.length), .bool true] else some [.str s, .bool false]
  | _ => none
def gCutSuffix : List AV → Option (List AV)
  | [.str s, .str p] => if big < s.length then none else if isPre p.reverse s.reverse then some [.str (s.take (s.length - p.length)), .bool true] else some [.str s, .bool false]
  | _ => none
def gLastByte : List AV → Option (List AV)
  | [.str s, .int .u8 c] => if 0 ≤ c ∧ c < 256 ∧ s.length ≤ big then some [.int .i64 (intOf (lastOf (UInt8.ofNat c.toNat) s))] else none
  | _ => none
def gJoined : List AV → Option (List AV)
  | [.str s, .str t] => if s.length ≤ 100000 ∧ t.length ≤ 100000 then some [.str (joinL [32] (zipAdd (wordsL s) (wordsL t)))] else none
  | _ => none
/-- text.Number: a number of at most nine digits, written as it is told. -/
def numL (s : Str) : Option Nat := if s.length ≤ 9 ∧ s.all isDig = true ∧ s ≠ [] ∧ decL (valGo 0 s) = s then some (valGo 0 s) else none
def gNumber : List AV → Option (List AV)
  | [.str s] => if big < s.length then none else (match numL s with | some n => some [.int .i64 n, .bool true] | none => some [.int .i64 0, .bool false])
  | _ => none

end Go.Proofs.YtmcfnnpihlediaaGreatDoor.Ex

/- Words put together, and cut again. -/
namespace Go.Proofs.YtmcfnnpihlediaaGreatDoor.Ex
open Go

/-- A word: not empty, no blank in it. -/
def okW (w : Str) : Bool := w != [] && w.all fun c => !isBl c

theorem okW_iff {w : Str} : okW w = true ↔ w ≠ [] ∧ ∀ c ∈ w, isBl c = false := by
  simp [okW]

theorem wordsGo_okW : ∀ (s cur : Str), (∀ c ∈ cur, isBl c = false) → ∀ w ∈ wordsGo s cur, okW w = true
  | [], cur, hc, w, h => by
    simp only [wordsGo] at h
    split at h
    · cases h
    · rename_i hne
      simp at h; subst h; exact okW_iff.2 ⟨hne, hc⟩
  | c :: r, cur, hc, w, h => by
    simp only [wordsGo] at h
    split at h
    · split at h
      · exact wordsGo_okW r [] (by simp) w h
      · rename_i hne
        rcases List.mem_cons.1 h with rfl | h
        · exact okW_iff.2 ⟨hne, hc⟩
        · exact wordsGo_okW r [] (by simp) w h
    · rename_i hb
      refine wordsGo_okW r (cur ++ [c]) (fun d hd => ?_) w h
      rcases List.mem_append.1 hd with hd | hd
      · exact hc d hd
      · simp at hd; subst hd; simpa using hb
theorem wordsL_okW (s : Str) : ∀ w ∈ wordsL s, okW w = true := wordsGo_okW s [] (by simp)

theorem wordsGo_app (w : Str) (hw : ∀ c ∈ w, isBl c = false) : ∀ (r cur : Str), wordsGo (w ++ r) cur = wordsGo r (cur ++ w) := by
  induction w with
  | nil => intro r cur; simp
  | cons c w ih =>
    intro r cur
    have h0 := hw c (by simp)
    rw [List.cons_append, wordsGo, h0, if_neg (by simp), ih (fun d hd => hw d (by simp [hd]))]
    simp

theorem wordsGo_blank (r cur : Str) (h : cur ≠ []) : wordsGo (32 :: r) cur = cur :: wordsGo r [] := by
  have : isBl 32 = true := rfl
  simp [wordsGo, this, h]

/-- Words put together are cut into just these. -/
theorem words_join : ∀ l : List Str, (∀ w ∈ l, okW w = true) → wordsL (joinL [32] l) = l
  | [], _ => rfl
  | [x], h => by
    obtain ⟨h1, h2⟩ := okW_iff.1 (h x (by simp))
    have := wordsGo_app x h2 [] []
    simp only [List.append_nil, List.nil_append] at this
    simp [wordsL, joinL, this, wordsGo, h1]
  | x :: y :: r, h => by
    obtain ⟨h1, h2⟩ := okW_iff.1 (h x (by simp))
    have ih := words_join (y :: r) (fun w hw => h w (by simp [hw]))
    simp only [wordsL] at ih
    simp only [wordsL, joinL, List.append_assoc]
    rw [wordsGo_app x h2]
    simp only [List.nil_append, List.singleton_append]
    rw [wordsGo_blank _ _ h1, ih]

def sumLen : List Str → Nat
  | [] => 0
  | x :: r => x.length + sumLen r

theorem sumLen_append : ∀ a b : List Str, sumLen (a ++ b) = sumLen a + sumLen b
  | [], b => by simp [sumLen]
  | x :: a, b => by simp [sumLen, sumLen_append a b]; omega

theorem join_length : ∀ l : List Str, (joinL [32] l).length + 1 = sumLen l + l.length ∨ l = []
  | [] => .inr rfl
  | [x] => .inl (by simp [joinL, sumLen])
  | x :: y :: r => by
    rcases join_length (y :: r) with h | h
    · left
      simp only [joinL, List.length_append, List.length_cons, List.length_nil, sumLen] at h ⊢
      omega
    · cases h
theorem join_length_le (l : List Str) : (joinL [32] l).length ≤ sumLen l + l.length := by
  rcases join_length l with h | h
  · omega
  · subst h; simp [joinL]

theorem wordsGo_sum : ∀ (s cur : Str), sumLen (wordsGo s cur) + (wordsGo s cur).length ≤ cur.length + s.length + 1
  | [], cur => by
    simp only [wordsGo]; split <;> simp [sumLen]
  | c :: r, cur => by
    simp only [wordsGo]
    split
    · split
      · have := wordsGo_sum r []; simp at this ⊢; omega
      · have := wordsGo_sum r []; simp [sumLen] at this ⊢; omega
    · have := wordsGo_sum r (cur ++ [c]); simp at this ⊢; omega
theorem wordsL_sum (s : Str) : sumLen (wordsL s) + (wordsL s).length ≤ s.length + 1 := by
  have := wordsGo_sum s []; simpa [wordsL] using this

theorem join_words_len (s : Str) : (joinL [32] (wordsL s)).length ≤ s.length := by
  have h1 := wordsL_sum s
  rcases join_length (wordsL s) with h | h
  · omega
  · rw [h]; simp [joinL]

/-- Fewer words, and none longer. -/
theorem join_sub_len {l m : List Str} (h : sumLen l + l.length ≤ sumLen m + m.length) (s : Str) (hs : sumLen m + m.length ≤ s.length + 1) : (joinL [32] l).length ≤ s.length := by
  rcases join_length l with h1 | h1
  · omega
  · rw [h1]; simp [joinL]

/-! ### Order -/
theorem less_irrefl : ∀ x : Str, Op.bytesLess x x = false
  | [] => rfl
  | a :: x => by simp [Op.bytesLess, less_irrefl x]

theorem u8_lt_trans {a b c : UInt8} (h1 : a < b) (h2 : b < c) : a < c := UInt8.lt_trans h1 h2

theorem less_trans : ∀ {x y z : Str}, Op.bytesLess x y = true → Op.bytesLess y z = true → Op.bytesLess x z = true
  | [], _, [], h1, h2 => by cases ‹Str› <;> simp [Op.bytesLess] at h1 h2
  | [], _, c :: z, h1, h2 => rfl
  | a :: x, [], z, h1, h2 => by simp [Op.bytesLess] at h1
  | a :: x, b :: y, [], h1, h2 => by simp [Op.bytesLess] at h2
  | a :: x, b :: y, c :: z, h1, h2 => by
    simp only [Op.bytesLess, Bool.or_eq_true, decide_eq_true_eq, Bool.and_eq_true, beq_iff_eq] at h1 h2 ⊢
    rcases h1 with h1 | ⟨rfl, h1⟩
    · rcases h2 with h2 | ⟨rfl, h2⟩
      · exact .inl (UInt8.lt_trans h1 h2)
      · exact .inl h1
    · rcases h2 with h2 | ⟨rfl, h2⟩
      · exact .inl h2
      · exact .inr ⟨rfl, less_trans h1 h2⟩

theorem less_tri : ∀ (x y : Str), x ≠ y → Op.bytesLess x y = false → Op.bytesLess y x = true
  | [], [], h, _ => absurd rfl h
  | [], b :: y, _, h => by simp [Op.bytesLess] at h
  | a :: x, [], _, _ => rfl
  | a :: x, b :: y, h, h1 => by
    simp only [Op.bytesLess, Bool.or_eq_false_iff, decide_eq_false_iff_not, Bool.and_eq_false_imp, beq_iff_eq] at h1
    simp only [Op.bytesLess, Bool.or_eq_true, decide_eq_true_eq, Bool.and_eq_true, beq_iff_eq]
    by_cases e : a = b
    · subst e
      exact .inr ⟨rfl, less_tri x y (fun e => h (by rw [e])) (h1.2 rfl)⟩
    · left
      have h2 := h1.1
      rcases Nat.lt_trichotomy a.toNat b.toNat with h3 | h3 | h3
      · exact absurd (UInt8.lt_iff_toNat_lt.2 h3) h2
      · exact absurd (UInt8.toNat_inj.1 h3) e
      · exact UInt8.lt_iff_toNat_lt.2 h3

theorem less_asymm {x y : Str} (h : Op.bytesLess x y = true) : Op.bytesLess y x = false := by
  cases h1 : Op.bytesLess y x with
  | false => rfl
  | true => have := less_trans h h1; rw [less_irrefl] at this; cases this

def strict : List Str → Prop
  | [] => True
  | [_] => True
  | x :: y :: r => Op.bytesLess x y = true ∧ strict (y :: r)

theorem strict_tail {x : Str} {l : List Str} (h : strict (x :: l)) : strict l := by
  cases l with
  | nil => trivial
  | cons y r => exact h.2

theorem strict_head {x : Str} : ∀ {l : List Str}, strict (x :: l) → ∀ y ∈ l, Op.bytesLess x y = true
  | [], _, y, hy => by cases hy
  | z :: r, h, y, hy => by
    rcases List.mem_cons.1 hy with rfl | hy
    · exact h.1
    · exact less_trans h.1 (strict_head h.2 y hy)

theorem insL_mem (x : Str) : ∀ (l : List Str) (y : Str), y ∈ insL' x l ↔ y = x ∨ y ∈ l
  | [], y => by simp [insL']
  | z :: r, y => by
    simp only [insL']
    split
    · rename_i h; subst h
      simp only [List.mem_cons]
      exact ⟨fun h => h.elim .inl fun h => .inr (.inr h), fun h => h.elim .inl id⟩
    · split
      · simp
      · simp only [List.mem_cons, insL_mem x r y]
        constructor
        · rintro (h | h | h) <;> simp [h]
        · rintro (h | h | h) <;> simp [h]

theorem insL_strict (x : Str) : ∀ (l : List Str), strict l → strict (insL' x l)
  | [], _ => trivial
  | z :: r, h => by
    simp only [insL']
    split
    · exact h
    · rename_i hne
      split
      · rename_i hl; exact ⟨hl, h⟩
      · rename_i hl
        have hzx : Op.bytesLess z x = true := less_tri x z hne (by simpa using hl)
        have ih := insL_strict x r (strict_tail h)
        have hall : ∀ y ∈ insL' x r, Op.bytesLess z y = true := by
          intro y hy
          rcases (insL_mem x r y).1 hy with rfl | hy
          · exact hzx
          · exact strict_head h y hy
        cases hi : insL' x r with
        | nil => trivial
        | cons a b =>
          rw [hi] at ih hall
          exact ⟨hall a (by simp), ih⟩

theorem sortGo_strict : ∀ (l acc : List Str), strict acc → strict (l.foldl (fun acc x => insL' x acc) acc)
  | [], _, h => h
  | x :: r, acc, h => sortGo_strict r _ (insL_strict x acc h)
theorem sortU_strict (l : List Str) : strict (sortU l) := sortGo_strict l [] trivial

theorem sortGo_mem : ∀ (l acc : List Str) (y : Str), y ∈ l.foldl (fun acc x => insL' x acc) acc ↔ y ∈ l ∨ y ∈ acc
  | [], acc, y => by simp
  | x :: r, acc, y => by
    rw [List.foldl_cons, sortGo_mem r _ y, insL_mem]
    simp only [List.mem_cons]
    constructor
    · rintro (h | h | h) <;> simp [h]
    · rintro ((h | h) | h) <;> simp [h]
theorem sortU_mem (l : List Str) (y : Str) : y ∈ sortU l ↔ y ∈ l := by
  have := sortGo_mem l [] y; simpa [sortU] using this

/-- Two strict rows of the same words are one. -/
theorem strict_ext : ∀ {l m : List Str}, strict l → strict m → (∀ y, y ∈ l ↔ y ∈ m) → l = m
  | [], [], _, _, _ => rfl
  | [], y :: m, _, _, h => by have := (h y).2 (by simp); cases this
  | x :: l, [], _, _, h => by have := (h x).1 (by simp); cases this
  | x :: l, y :: m, hl, hm, h => by
    have hxy : x = y := by
      rcases List.mem_cons.1 ((h x).1 (by simp)) with e | e
      · exact e
      · rcases List.mem_cons.1 ((h y).2 (by simp)) with e2 | e2
        · exact e2.symm
        · have h1 := strict_head hm x e
          have h2 := strict_head hl y e2
          rw [less_asymm h1] at h2; cases h2
    subst hxy
    rw [strict_ext (strict_tail hl) (strict_tail hm) fun z => ?_]
    constructor
    · intro hz
      rcases List.mem_cons.1 ((h z).1 (by simp [hz])) with e | e
      · subst e; have := strict_head hl z hz; rw [less_irrefl] at this; cases this
      · exact e
    · intro hz
      rcases List.mem_cons.1 ((h z).2 (by simp [hz])) with e | e
      · subst e; have := strict_head hm z hz; rw [less_irrefl] at this; cases this
      · exact e

theorem sortU_of_strict {l : List Str} (h : strict l) : sortU l = l := strict_ext (sortU_strict l) h (sortU_mem l)
theorem sortU_twice (l : List Str) : sortU (sortU l) = sortU l := sortU_of_strict (sortU_strict l)

theorem insL_sum (x : Str) : ∀ l : List Str, sumLen (insL' x l) + (insL' x l).length ≤ x.length + 1 + sumLen l + l.length
  | [] => by simp [insL', sumLen]
  | z :: r => by
    have := insL_sum x r
    simp only [insL']
    split
    · simp [sumLen]
    · split
      · simp [sumLen]; omega
      · simp [sumLen]; omega
theorem sortGo_sum : ∀ (l acc : List Str), sumLen (l.foldl (fun acc x => insL' x acc) acc) + (l.foldl (fun acc x => insL' x acc) acc).length ≤ sumLen l + l.length + sumLen acc + acc.length
  | [], acc => by simp [sumLen]
  | x :: r, acc => by
    have h1 := sortGo_sum r (insL' x acc)
    have h2 := insL_sum x acc
    simp [sumLen] at h1 ⊢; omega
theorem sortU_sum (l : List Str) : sumLen (sortU l) + (sortU l).length ≤ sumLen l + l.length := by
  have := sortGo_sum l []; simpa [sortU, sumLen] using this

theorem sort_len (s : Str) : (joinL [32] (sortU (wordsL s))).length ≤ s.length := join_sub_len (sortU_sum _) s (wordsL_sum s)

end Go.Proofs.YtmcfnnpihlediaaGreatDoor.Ex

/- Numbers as texts. -/
namespace Go.Proofs.YtmcfnnpihlediaaGreatDoor.Ex
open Go

theorem decGo_fuel : ∀ (f g n : Nat) (acc : Str), n < f → n < g → decGo f n acc = decGo g n acc
  | 0, _, _, _, h, _ => by omega
  | _, 0, _, _, _, h => by omega
  | f + 1, g + 1, n, acc, h1, h2 => by
    simp only [decGo]
    split
    · rfl
    · exact decGo_fuel f g (n / 10) _ (by omega) (by omega)
theorem decGo_acc : ∀ (f n : Nat) (acc : Str), n < f → decGo f n acc = decGo f n [] ++ acc
  | 0, _, _, h => by omega
  | f + 1, n, acc, h => by
    simp only [decGo]
    split
    · rfl
    · rw [decGo_acc f (n / 10) (digB (n % 10) :: acc) (by omega), decGo_acc f (n / 10) [digB (n % 10)] (by omega)]
      simp

theorem decL_small {n : Nat} (h : n < 10) : decL n = [digB n] := by simp [decL, decGo, h]
theorem decL_big {n : Nat} (h : ¬ n < 10) : decL n = decL (n / 10) ++ [digB (n % 10)] := by
  rw [decL, decGo, if_neg h, decGo_acc _ _ _ (by omega), decGo_fuel n (n / 10 + 1) (n / 10) [] (by omega) (by omega), decL]

theorem digB_toNat {n : Nat} (h : n < 10) : (digB n).toNat = 48 + n := by
  simp [digB]; omega
theorem digB_dig {n : Nat} (h : n < 10) : isDig (digB n) = true := by
  have := digB_toNat h
  simp only [isDig, Bool.and_eq_true, decide_eq_true_eq, UInt8.le_iff_toNat_le, this]
  exact ⟨by show 48 ≤ _; omega, by show _ ≤ 57; omega⟩

theorem decL_dig (n : Nat) : (decL n).all isDig = true := by
  induction n using Nat.strongRecOn with
  | ind n ih =>
    by_cases h : n < 10
    · rw [decL_small h]; simp [digB_dig h]
    · rw [decL_big h, List.all_append, ih (n / 10) (by omega)]
      simp [digB_dig (n := n % 10) (by omega)]
theorem decL_ne (n : Nat) : decL n ≠ [] := by
  by_cases h : n < 10
  · rw [decL_small h]; simp
  · rw [decL_big h]; simp

theorem valGo_app : ∀ (x : Str) (a : Nat) (c : UInt8), valGo a (x ++ [c]) = 10 * valGo a x + (c.toNat - 48)
  | [], a, c => rfl
  | d :: x, a, c => by
    rw [List.cons_append]
    show valGo (10 * a + (d.toNat - 48)) (x ++ [c]) = _
    rw [valGo_app x]; rfl
theorem val_dec (n : Nat) : valGo 0 (decL n) = n := by
  induction n using Nat.strongRecOn with
  | ind n ih =>
    by_cases h : n < 10
    · rw [decL_small h]
      show 10 * 0 + ((digB n).toNat - 48) = n
      rw [digB_toNat h]; omega
    · rw [decL_big h, valGo_app, ih (n / 10) (by omega), digB_toNat (by omega)]
      omega

theorem decL_len (k n : Nat) (h : n < 10 ^ (k + 1)) : (decL n).length ≤ k + 1 := by
  induction k generalizing n with
  | zero => rw [decL_small (by simpa using h)]; simp
  | succ k ih =>
    by_cases h1 : n < 10
    · rw [decL_small h1]; simp
    · rw [decL_big h1]
      have := ih (n / 10) (by rw [Nat.pow_succ] at h; omega)
      simp; omega

theorem num_dec {n : Nat} (h : n < 1000000000) : numL (decL n) = some n := by
  have h1 := decL_len 8 n (by simpa using h)
  simp [numL, decL_dig, decL_ne, val_dec, h1]

/-- A numeral: digits, no 0 ahead. -/
def canon (s : Str) : Bool := s != [] && s.all isDig && (s.length == 1 || s.head? != some 48)

theorem decL_head (n : Nat) (h : 10 ≤ n) : (decL n).head? ≠ some 48 ∧ 1 < (decL n).length := by
  induction n using Nat.strongRecOn with
  | ind n ih =>
    rw [decL_big (by omega)]
    by_cases h1 : n / 10 < 10
    · rw [decL_small h1]
      refine ⟨?_, by simp⟩
      simp only [List.singleton_append, List.head?_cons, ne_eq, Option.some.injEq]
      intro e
      have := congrArg UInt8.toNat e
      rw [digB_toNat h1] at this
      simp at this; omega
    · obtain ⟨h2, h3⟩ := ih (n / 10) (by omega) (by omega)
      refine ⟨?_, by simp; omega⟩
      cases hd : decL (n / 10) with
      | nil => exact absurd hd (decL_ne _)
      | cons a b => rw [hd] at h2; simpa using h2

theorem decL_canon (n : Nat) : canon (decL n) = true := by
  simp only [canon, Bool.and_eq_true, bne_iff_ne, ne_eq, Bool.or_eq_true, beq_iff_eq]
  refine ⟨⟨decL_ne n, decL_dig n⟩, ?_⟩
  by_cases h : n < 10
  · left; rw [decL_small h]; rfl
  · right; exact (decL_head n (by omega)).1

theorem isDig_toNat {c : UInt8} (h : isDig c = true) : 48 ≤ c.toNat ∧ c.toNat ≤ 57 := by
  simp only [isDig, Bool.and_eq_true, decide_eq_true_eq, UInt8.le_iff_toNat_le] at h
  exact h
theorem digB_back {c : UInt8} (h : isDig c = true) : digB (c.toNat - 48) = c := by
  obtain ⟨h1, h2⟩ := isDig_toNat h
  apply UInt8.toNat_inj.1
  rw [digB_toNat (by omega)]; omega

theorem snoc_ind {P : Str → Prop} (h0 : P []) (h1 : ∀ x c, P x → P (x ++ [c])) (s : Str) : P s := by
  have : ∀ r : Str, P r.reverse := by
    intro r
    induction r with
    | nil => exact h0
    | cons c r ih => rw [List.reverse_cons]; exact h1 _ _ ih
  have h := this s.reverse
  rwa [List.reverse_reverse] at h

theorem val_pos : ∀ (s : Str) (a : Nat), 0 < a → 0 < valGo a s
  | [], a, h => h
  | c :: r, a, h => val_pos r _ (by omega)

theorem canon_dec (s : Str) : canon s = true → decL (valGo 0 s) = s := by
  induction s using snoc_ind with
  | h0 => intro h; simp [canon] at h
  | h1 x c ih =>
    intro h
    simp only [canon, Bool.and_eq_true, bne_iff_ne, ne_eq, Bool.or_eq_true, beq_iff_eq, List.all_append, List.all_cons, List.all_nil, Bool.and_true] at h
    obtain ⟨⟨_, hx, hc⟩, h2⟩ := h
    obtain ⟨c1, c2⟩ := isDig_toNat hc
    cases x with
    | nil =>
      show decL (10 * 0 + (c.toNat - 48)) = [c]
      rw [decL_small (by omega), Nat.mul_zero, Nat.zero_add, digB_back hc]
    | cons d r =>
      have hd0 : d ≠ 48 := by
        intro e; subst e
        rcases h2 with h2 | h2
        · simp at h2
        · simp at h2
      have hxc : canon (d :: r) = true := by
        simp only [canon, Bool.and_eq_true, bne_iff_ne, ne_eq, Bool.or_eq_true, beq_iff_eq]
        exact ⟨⟨by simp, hx⟩, .inr (by simpa using hd0)⟩
      have hi := ih hxc
      have hpos : 0 < valGo 0 (d :: r) := by
        show 0 < valGo (10 * 0 + (d.toNat - 48)) r
        refine val_pos r _ ?_
        simp only [List.all_cons, Bool.and_eq_true] at hx
        obtain ⟨d1, d2⟩ := isDig_toNat hx.1
        have : d.toNat ≠ 48 := fun e => hd0 (UInt8.toNat_inj.1 (by rw [e]; rfl))
        omega
      rw [valGo_app]
      have hn : ¬ (10 * valGo 0 (d :: r) + (c.toNat - 48) < 10) := by omega
      rw [decL_big hn]
      have e1 : (10 * valGo 0 (d :: r) + (c.toNat - 48)) / 10 = valGo 0 (d :: r) := by omega
      have e2 : (10 * valGo 0 (d :: r) + (c.toNat - 48)) % 10 = c.toNat - 48 := by omega
      rw [e1, e2, hi, digB_back hc]

theorem num_canon (s : Str) : numL s = if s.length ≤ 9 ∧ canon s = true then some (valGo 0 s) else none := by
  unfold numL
  by_cases h : canon s = true
  · have h1 := canon_dec s h
    have h' := h
    simp only [canon, Bool.and_eq_true, bne_iff_ne, ne_eq] at h'
    simp [h, h1, h'.1.1, h'.1.2]
  · have : ¬ (s.length ≤ 9 ∧ s.all isDig = true ∧ s ≠ [] ∧ decL (valGo 0 s) = s) := by
      rintro ⟨_, _, _, h4⟩
      exact h (h4 ▸ decL_canon _)
    rw [if_neg this, if_neg (by simp [h])]

end Go.Proofs.YtmcfnnpihlediaaGreatDoor.Ex

/- A part in the place of another one. -/
namespace Go.Proofs.YtmcfnnpihlediaaGreatDoor.Ex
open Go

theorem isPre_iff : ∀ (a t : Str), isPre a t = true ↔ t.take a.length = a ∧ a.length ≤ t.length
  | [], t => by simp [isPre]
  | x :: a, [] => by simp [isPre]
  | x :: a, y :: t => by
    simp only [isPre, Bool.and_eq_true, beq_iff_eq, isPre_iff a t, List.length_cons, List.take_succ_cons, List.cons.injEq, Nat.add_le_add_iff_right]
    constructor
    · rintro ⟨rfl, h1, h2⟩; exact ⟨⟨rfl, h1⟩, h2⟩
    · rintro ⟨⟨rfl, h1⟩, h2⟩; exact ⟨rfl, h1, h2⟩

theorem repGo_fuel (a b : Str) (ha : a ≠ []) : ∀ (f g : Nat) (t : Str), t.length < f → t.length < g → repGo a b f t = repGo a b g t
  | 0, _, _, h, _ => by omega
  | _, 0, _, _, h => by omega
  | f + 1, g + 1, [], _, _ => rfl
  | f + 1, g + 1, c :: r, h1, h2 => by
    have hp : 0 < a.length := List.length_pos_iff.2 ha
    simp only [repGo]
    split
    · rw [repGo_fuel a b ha f g _ (by simp at *; omega) (by simp at *; omega)]
    · rw [repGo_fuel a b ha f g r (by simp at *; omega) (by simp at *; omega)]

theorem repL_nil (a b : Str) : repL a b [] = [] := rfl
theorem repL_pre (a b : Str) (ha : a ≠ []) (t : Str) (h : isPre a t = true) : repL a b t = b ++ repL a b (t.drop a.length) := by
  have hp : 0 < a.length := List.length_pos_iff.2 ha
  cases t with
  | nil => have := ((isPre_iff a []).1 h).2; simp at this; exact absurd this ha
  | cons c r =>
    unfold repL
    rw [List.length_cons, repGo, if_pos h]
    congr 1
    exact repGo_fuel a b ha _ _ _ (by simp; omega) (by simp)
theorem repL_skip (a b : Str) (_ : a ≠ []) (c : UInt8) (r : Str) (h : isPre a (c :: r) = false) : repL a b (c :: r) = c :: repL a b r := by
  unfold repL
  rw [List.length_cons, repGo, if_neg (by simp [h])]

/-- How often: none over another. -/
def cntGo (a : Str) : Nat → Str → Nat
  | 0, _ => 0
  | _ + 1, [] => 0
  | f + 1, c :: r => if isPre a (c :: r) then 1 + cntGo a f ((c :: r).drop a.length) else cntGo a f r
def cntS (a t : Str) : Nat := cntGo a (t.length + 1) t

theorem cntGo_fuel (a : Str) (ha : a ≠ []) : ∀ (f g : Nat) (t : Str), t.length < f → t.length < g → cntGo a f t = cntGo a g t
  | 0, _, _, h, _ => by omega
  | _, 0, _, _, h => by omega
  | f + 1, g + 1, [], _, _ => rfl
  | f + 1, g + 1, c :: r, h1, h2 => by
    have hp : 0 < a.length := List.length_pos_iff.2 ha
    simp only [cntGo]
    split
    · rw [cntGo_fuel a ha f g _ (by simp at *; omega) (by simp at *; omega)]
    · rw [cntGo_fuel a ha f g r (by simp at *; omega) (by simp at *; omega)]
theorem cntS_pre (a : Str) (ha : a ≠ []) (t : Str) (h : isPre a t = true) : cntS a t = 1 + cntS a (t.drop a.length) := by
  have hp : 0 < a.length := List.length_pos_iff.2 ha
  cases t with
  | nil => have := ((isPre_iff a []).1 h).2; simp at this; exact absurd this ha
  | cons c r =>
    unfold cntS
    rw [List.length_cons, cntGo, if_pos h]
    congr 1
    exact cntGo_fuel a ha _ _ _ (by simp; omega) (by simp)
theorem cntS_skip (a : Str) (_ : a ≠ []) (c : UInt8) (r : Str) (h : isPre a (c :: r) = false) : cntS a (c :: r) = cntS a r := by
  unfold cntS
  rw [List.length_cons, cntGo, if_neg (by simp [h])]
theorem cntS_nil (a : Str) : cntS a [] = 0 := rfl

theorem drop_lt {a t : Str} (ha : a ≠ []) (ht : t ≠ []) : (t.drop a.length).length < t.length := by
  have h1 : 0 < a.length := List.length_pos_iff.2 ha
  have h2 : 0 < t.length := List.length_pos_iff.2 ht
  simp; omega

theorem rep_len (a b : Str) (ha : a ≠ []) : ∀ (n : Nat) (t : Str), t.length ≤ n → (repL a b t).length + cntS a t * a.length = t.length + cntS a t * b.length
  | n, [], _ => by simp [repL_nil, cntS_nil]
  | 0, c :: r, h => by simp at h
  | n + 1, c :: r, h => by
    cases hp : isPre a (c :: r) with
    | true =>
      have hl := ((isPre_iff a (c :: r)).1 hp).2
      have h1 := drop_lt (t := c :: r) ha (by simp)
      have ih := rep_len a b ha n ((c :: r).drop a.length) (by omega)
      rw [repL_pre a b ha _ hp, cntS_pre a ha _ hp]
      simp only [List.length_append, List.length_drop, Nat.add_mul, Nat.one_mul] at ih ⊢
      omega
    | false =>
      have ih := rep_len a b ha n r (by simp at h; omega)
      rw [repL_skip a b ha c r hp, cntS_skip a ha c r hp]
      simp only [List.length_cons]
      omega

theorem cnt_le (a : Str) (ha : a ≠ []) : ∀ (n : Nat) (t : Str), t.length ≤ n → cntS a t ≤ t.length
  | n, [], _ => by simp [cntS_nil]
  | 0, c :: r, h => by simp at h
  | n + 1, c :: r, h => by
    cases hp : isPre a (c :: r) with
    | true =>
      have h1 := drop_lt (t := c :: r) ha (by simp)
      have ih := cnt_le a ha n ((c :: r).drop a.length) (by omega)
      rw [cntS_pre a ha _ hp]
      omega
    | false =>
      have ih := cnt_le a ha n r (by simp at h; omega)
      rw [cntS_skip a ha c r hp]
      simp; omega

theorem hasSub_cnt (a : Str) (ha : a ≠ []) : ∀ t : Str, hasSub a t = false → cntS a t = 0
  | [], _ => rfl
  | c :: r, h => by
    simp only [hasSub, Bool.or_eq_false_iff] at h
    rw [cntS_skip a ha c r h.1, hasSub_cnt a ha r h.2]
theorem cnt_hasSub (a : Str) (ha : a ≠ []) : ∀ t : Str, hasSub a t = true → 0 < cntS a t
  | [], h => by simp [hasSub, ha] at h
  | c :: r, h => by
    cases hp : isPre a (c :: r) with
    | true => rw [cntS_pre a ha _ hp]; omega
    | false =>
      simp only [hasSub, hp, Bool.false_or] at h
      rw [cntS_skip a ha c r hp]
      exact cnt_hasSub a ha r h
theorem rep_none (a b : Str) (ha : a ≠ []) : ∀ t : Str, hasSub a t = false → repL a b t = t
  | [], _ => rfl
  | c :: r, h => by
    simp only [hasSub, Bool.or_eq_false_iff] at h
    rw [repL_skip a b ha c r h.1, rep_none a b ha r h.2]
theorem rep_self (a : Str) (ha : a ≠ []) : ∀ (n : Nat) (t : Str), t.length ≤ n → repL a a t = t
  | n, [], _ => rfl
  | 0, c :: r, h => by simp at h
  | n + 1, c :: r, h => by
    cases hp : isPre a (c :: r) with
    | true =>
      have h1 := drop_lt (t := c :: r) ha (by simp)
      rw [repL_pre a a ha _ hp, rep_self a ha n _ (by omega)]
      have h2 := ((isPre_iff a (c :: r)).1 hp).1
      conv => rhs; rw [← List.take_append_drop a.length (c :: r), h2]
    | false => rw [repL_skip a a ha c r hp, rep_self a ha n r (by simp at h; omega)]
theorem hasSub_long (a : Str) : ∀ t : Str, t.length < a.length → hasSub a t = false
  | [], h => by
    have : a ≠ [] := fun e => by subst e; simp at h
    simp [hasSub, this]
  | c :: r, h => by
    simp only [hasSub, Bool.or_eq_false_iff]
    refine ⟨?_, hasSub_long a r (by simp at h; omega)⟩
    cases hp : isPre a (c :: r) with
    | false => rfl
    | true => have := ((isPre_iff a (c :: r)).1 hp).2; omega
theorem cnt_long (a : Str) (ha : a ≠ []) (t : Str) (h : t.length < a.length) : cntS a t = 0 := hasSub_cnt a ha t (hasSub_long a t h)
theorem hasSub_nil (t : Str) : hasSub [] t = true := by cases t <;> simp [hasSub, isPre]

end Go.Proofs.YtmcfnnpihlediaaGreatDoor.Ex

/- The library's words and mine: the same. -/
namespace Go.Proofs.YtmcfnnpihlediaaGreatDoor.Ex
open Go

theorem bl_contains (c : UInt8) : ([32, 9] : List UInt8).contains c = isBl c := by
  simp [isBl, List.contains, List.elem]
  cases c == 32 <;> cases c == 9 <;> rfl

theorem lib_trimLeft (s : Str) : Lib.trimLeftS s [32, 9] = s.dropWhile isBl := by
  unfold Lib.trimLeftS
  congr 1
  funext c; exact bl_contains c
theorem lib_trimRight (s : Str) : Lib.trimRightS s [32, 9] = trimR s := by
  unfold Lib.trimRightS trimR
  have : (fun c => ([32, 9] : List UInt8).contains c) = isBl := funext bl_contains
  rw [this]

theorem trimR_cons (c : UInt8) (r : Str) : trimR (c :: r) = if trimR r = [] ∧ isBl c = true then [] else c :: trimR r := by
  unfold trimR
  rw [List.reverse_cons, List.dropWhile_append]
  cases hd : r.reverse.dropWhile isBl with
  | nil =>
    cases hc : isBl c <;> simp [hc]
  | cons a b => simp
theorem trim_comm : ∀ s : Str, (trimR s).dropWhile isBl = trimR (s.dropWhile isBl)
  | [] => rfl
  | c :: r => by
    have ih := trim_comm r
    rw [trimR_cons]
    cases hc : isBl c with
    | false => simp [hc, trimR_cons]
    | true =>
      rw [List.dropWhile_cons_of_pos hc]
      by_cases h : trimR r = []
      · rw [h] at ih
        simp [h, ← ih]
      · rw [if_neg (fun e => h e.1), List.dropWhile_cons_of_pos hc, ih]
theorem lib_trim (s : Str) : Lib.trimS s [32, 9] = trimB s := by
  unfold Lib.trimS
  rw [lib_trimRight, lib_trimLeft, trim_comm]; rfl

theorem isPre_eq : ∀ (p s : Str), p.isPrefixOf s = isPre p s
  | [], s => by cases s <;> rfl
  | _ :: _, [] => rfl
  | a :: p, b :: s => by simp [List.isPrefixOf, isPre, isPre_eq p s]
theorem lib_hasPrefix (s p : Str) : Lib.hasPrefix s p = isPre p s := isPre_eq p s
theorem lib_hasSuffix (s p : Str) : Lib.hasSuffix s p = isPre p.reverse s.reverse := isPre_eq _ _

theorem lib_index_hasSub (a : Str) : ∀ s : Str, decide (0 ≤ Lib.index s a) = hasSub a s
  | [] => by cases a <;> rfl
  | c :: r => by
    have ih := lib_index_hasSub a r
    have hge := Lib.index_ge r a
    simp only [Lib.index, hasSub, isPre_eq]
    cases hp : isPre a (c :: r) with
    | true => simp
    | false =>
      simp only [Bool.false_eq_true, if_false, Bool.false_or, ← ih]
      by_cases h : Lib.index r a = -1
      · simp [h]
      · have h1 : ¬ (Lib.index r a == -1) = true := by simpa using h
        rw [if_neg h1, decide_eq_decide]; omega
theorem lib_contains (s a : Str) : Lib.contains s a = hasSub a s := lib_index_hasSub a s

theorem lib_index_one (c : UInt8) : ∀ s : Str, Lib.index s [c] = intOf (idxOf c s)
  | [] => rfl
  | d :: r => by
    have ih := lib_index_one c r
    simp only [Lib.index, idxOf, List.isPrefixOf, Bool.and_true]
    by_cases h : d = c
    · subst h; simp [intOf]
    · have h1 : (c == d) = false := by simpa using fun e => h e.symm
      have h2 : (d == c) = false := by simpa using h
      simp only [h1, h2, Bool.false_eq_true, if_false, ih]
      cases idxOf c r with
      | none => simp [intOf]
      | some i =>
        have h3 : ¬ ((i : Int) == -1) = true := by intro e; have := beq_iff_eq.1 e; omega
        simp only [intOf, h3, if_false, Option.map_some]
        rfl
theorem lib_cut (c : UInt8) (s : Str) : Lib.cut s [c] = match idxOf c s with | some i => (s.take i, s.drop (i + 1), true) | none => (s, [], false) := by
  unfold Lib.cut
  rw [lib_index_one]
  cases idxOf c s with
  | none => rfl
  | some i =>
    have : (0 : Int) ≤ (i : Int) := by omega
    simp [intOf, this]

theorem lastOf_snoc (c d : UInt8) : ∀ s : Str, lastOf c (s ++ [d]) = if d == c then some s.length else lastOf c s
  | [] => by simp [lastOf]
  | x :: r => by
    have ih := lastOf_snoc c d r
    simp only [List.cons_append, lastOf, ih]
    by_cases h : (d == c) = true
    · simp [h]
    · simp only [h, if_false, Bool.false_eq_true]
theorem lib_lastIdx (c : UInt8) (s : Str) : ∀ k, k ≤ s.length → Lib.lastIdx ⟨s.toArray⟩ c.toNat k = intOf (lastOf c (s.take k))
  | 0, _ => rfl
  | k + 1, h => by
    have ih := lib_lastIdx c s k (by omega)
    have hlt : k < s.length := by omega
    rw [Lib.lastIdx, List.take_succ_eq_append_getElem hlt, lastOf_snoc, ih]
    have e : (((⟨s.toArray⟩ : ByteArray).data[k]!).toNat : Int) = (s[k].toNat : Int) := by simp [hlt]
    rw [e]
    by_cases hc : s[k] = c
    · rw [if_pos (by rw [hc]), if_pos (by simpa using hc)]
      simp [intOf]; omega
    · have h1 : ¬ ((s[k].toNat : Int) = (c.toNat : Int)) := fun e => hc (UInt8.toNat_inj.1 (by omega))
      rw [if_neg h1, if_neg (by simpa using hc)]
theorem lib_lastIndexByte (c : UInt8) (s : Str) : Lib.lastIndexByte ⟨s.toArray⟩ c.toNat = intOf (lastOf c s) := by
  have h := lib_lastIdx c s s.length (Nat.le_refl _)
  rw [List.take_length] at h
  have e : (⟨s.toArray⟩ : ByteArray).size = s.length := by simp [ByteArray.size]
  unfold Lib.lastIndexByte
  rw [e, h]

theorem rep_index (a b : Str) (ha : a ≠ []) : ∀ (s : Str) (i : Nat), Lib.index s a = i → repL a b s = s.take i ++ b ++ repL a b (s.drop (i + a.length))
  | [], i, h => by
    cases a with
    | nil => exact absurd rfl ha
    | cons x y =>
      have : Lib.index [] (x :: y) = -1 := rfl
      omega
  | c :: r, i, h => by
    simp only [Lib.index, isPre_eq] at h
    cases hp : isPre a (c :: r) with
    | true =>
      simp only [hp, if_true] at h
      have : i = 0 := by omega
      subst this
      rw [repL_pre a b ha _ hp]; simp
    | false =>
      simp only [hp, Bool.false_eq_true, if_false] at h
      by_cases h1 : Lib.index r a = -1
      · simp [h1] at h
      · have h2 : ¬ (Lib.index r a == -1) = true := by simpa using h1
        rw [if_neg h2] at h
        obtain ⟨j, rfl⟩ : ∃ j, i = j + 1 := ⟨i - 1, by have := Lib.index_ge r a; omega⟩
        have ih := rep_index a b ha r j (by omega)
        rw [repL_skip a b ha c r hp, ih]
        rw [show j + 1 + a.length = (j + a.length) + 1 by omega]
        simp
theorem rep_noindex (a b s : Str) (ha : a ≠ []) (h : Lib.index s a = -1) : repL a b s = s := by
  refine rep_none a b ha s ?_
  rw [← lib_index_hasSub, h]; rfl
theorem lib_replaceK (a b : Str) (ha : a ≠ []) : ∀ (f : Nat) (s : Str), s.length < f → Lib.replaceK a b (Lib.countFrom a f s) s = repL a b s
  | 0, s, h => by omega
  | f + 1, s, h => by
    simp only [Lib.countFrom]
    by_cases h1 : Lib.index s a = -1
    · simp [h1, Lib.replaceK, rep_noindex a b s ha h1]
    · have h2 : ¬ (Lib.index s a == -1) = true := by simpa using h1
      rw [if_neg h2]
      have hge := Lib.index_ge s a
      obtain ⟨i, hi⟩ : ∃ i : Nat, Lib.index s a = i := ⟨(Lib.index s a).toNat, by omega⟩
      have hroom := Lib.index_room s a (by omega)
      have hp : 0 < a.length := List.length_pos_iff.2 ha
      rw [Nat.add_comm 1, Lib.replaceK_hit a b _ s i hi, rep_index a b ha s i hi]
      have e : (Lib.index s a).toNat = i := by omega
      rw [e, lib_replaceK a b ha f (s.drop (i + a.length)) (by simp; omega)]
theorem lib_replaceAll (s a b : Str) (ha : a ≠ []) : Lib.replaceAll s a b = repL a b s := by
  unfold Lib.replaceAll Lib.replace
  by_cases h : a = b
  · subst h; simp [rep_self a ha s.length s (Nat.le_refl _)]
  · have h1 : ¬ (a == b) = true := by simpa using h
    rw [if_neg h1]
    have : Lib.replaceNum s a (-1) = Lib.count s a := by simp [Lib.replaceNum]
    rw [this]
    exact lib_replaceK a b ha (s.length + 1) s (by omega)
theorem lib_countFrom_le (a : Str) : ∀ (f : Nat) (s : Str), Lib.countFrom a f s ≤ f
  | 0, _ => by simp [Lib.countFrom]
  | f + 1, s => by
    have := lib_countFrom_le a f (s.drop ((Lib.index s a).toNat + a.length))
    simp only [Lib.countFrom]; split <;> omega

theorem lib_decDigits (n : Nat) : Lib.decDigits n = decL n := by
  induction n using Nat.strongRecOn with
  | ind n ih =>
    rw [Lib.decDigits]
    by_cases h : n < 10
    · rw [dif_pos h, decL_small h]; rfl
    · rw [dif_neg h, decL_big h, ih (n / 10) (by omega)]; rfl
theorem lib_itoa (n : Nat) : Lib.itoa (n : Int) = decL n := by
  have : ¬ (n : Int) < 0 := by omega
  rw [Lib.itoa, if_neg this, Int.toNat_natCast, lib_decDigits]

theorem lib_join (sep : Str) : ∀ l : List Str, Lib.join l sep = joinL sep l
  | [] => rfl
  | [x] => by rw [Lib.join_one]; rfl
  | x :: y :: r => by
    have ih := lib_join sep (y :: r)
    rw [Lib.join_cons] at ih
    rw [Lib.join_cons]
    simp only [joinL, ← ih, Lib.joinTail, List.map_cons, List.flatten_cons]
    simp

theorem lib_indexAny : ∀ s : Str, Lib.indexAny s [32, 9] = intOf (idxBl s)
  | [] => rfl
  | c :: r => by
    have ih := lib_indexAny r
    simp only [Lib.indexAny, bl_contains, idxBl, ih]
    cases hc : isBl c with
    | true => simp [intOf]
    | false =>
      simp only [Bool.false_eq_true, if_false]
      cases idxBl r with
      | none => simp [intOf]
      | some i =>
        have h3 : ¬ ((i : Int) == -1) = true := by intro e; have := beq_iff_eq.1 e; omega
        simp only [intOf, h3, if_false, Option.map_some]
        rfl

/-! ### Numerals -/
theorem parseM_ok (M : Nat) : ∀ (l : Str) (acc u : Nat), Lib.parseUintM M acc l = .ok u → l.all isDig = true ∧ u = valGo acc l
  | [], acc, u, h => by simp [Lib.parseUintM] at h; exact ⟨rfl, h.symm⟩
  | c :: r, acc, u, h => by
    simp only [Lib.parseUintM] at h
    split at h
    · rename_i hd
      split at h
      · cases h
      · split at h
        · cases h
        · obtain ⟨h1, h2⟩ := parseM_ok M r _ u h
          refine ⟨?_, ?_⟩
          · rw [List.all_cons, h1, Bool.and_true]
            simp only [isDig, Bool.and_eq_true, decide_eq_true_eq, UInt8.le_iff_toNat_le]
            exact hd
          · rw [h2, Nat.mul_comm acc 10]; rfl
    · cases h
theorem parseM_dig : ∀ (l : Str) (acc k : Nat), l.all isDig = true → l.length ≤ k → k ≤ 9 → acc < 10 ^ (9 - k) → Lib.parseUintM 4294967295 acc l = .ok (valGo acc l)
  | [], acc, k, _, _, _, _ => rfl
  | c :: r, acc, k, h, hk, h9, ha => by
    rw [List.all_cons, Bool.and_eq_true] at h
    obtain ⟨d1, d2⟩ := isDig_toNat h.1
    obtain ⟨k', rfl⟩ : ∃ k', k = k' + 1 := ⟨k - 1, by simp at hk; omega⟩
    have e : 9 - k' = (9 - (k' + 1)) + 1 := by omega
    have hb : acc * 10 + (c.toNat - 48) < 10 ^ (9 - k') := by rw [e, Nat.pow_succ]; omega
    have hle : 10 ^ (9 - k') ≤ 10 ^ 9 := Nat.pow_le_pow_right (by omega) (by omega)
    have hlt : acc * 10 + (c.toNat - 48) < 1000000000 := Nat.lt_of_lt_of_le hb hle
    simp only [Lib.parseUintM]
    rw [if_pos ⟨d1, d2⟩, if_neg (by omega), if_neg (by omega), parseM_dig r _ k' h.2 (by simpa using hk) (by omega) hb]
    rw [Nat.mul_comm acc 10]; rfl
theorem lib_parse_ok (s : Str) (u : Nat) (h : Lib.parseUintB 32 s = .ok u) : s ≠ [] ∧ s.all isDig = true ∧ u = valGo 0 s := by
  unfold Lib.parseUintB at h
  split at h
  · cases h
  · rename_i hne
    obtain ⟨h1, h2⟩ := parseM_ok _ s 0 u h
    exact ⟨hne, h1, h2⟩
theorem lib_parse_no (s : Str) (h : ∀ u, Lib.parseUintB 32 s ≠ .ok u) : numL s = none := by
  unfold numL
  rw [if_neg]
  rintro ⟨h1, h2, h3, _⟩
  refine h (valGo 0 s) ?_
  unfold Lib.parseUintB
  rw [if_neg h3]
  exact parseM_dig s 0 9 h2 h1 (Nat.le_refl _) (by decide)

/-! ### Sorted, each once -/
theorem lt_less (x y : Str) : decide (x < y) = Op.bytesLess x y := by
  induction x generalizing y with
  | nil => cases y <;> simp [Op.bytesLess]
  | cons a x ih =>
    cases y with
    | nil => simp [Op.bytesLess]
    | cons b y =>
      rw [Op.bytesLess, ← ih]
      simp only [List.cons_lt_cons_iff]
      by_cases h1 : a < b <;> by_cases h2 : a = b <;> by_cases h3 : x < y <;> simp [h1, h2, h3]
theorem le_less (x y : Str) : decide (x ≤ y) = !Op.bytesLess y x := by
  rw [← lt_less]
  by_cases h : y < x
  · have : ¬ x ≤ y := fun e => e h
    simp [h, this]
  · have : x ≤ y := h
    simp [h, this]

theorem sorted_merge (l : List Str) : List.Pairwise (fun a b => Op.bytesLess b a = false) (l.mergeSort fun x y => decide (x ≤ y)) := by
  have h := List.pairwise_mergeSort (le := fun (x y : Str) => decide (x ≤ y)) (fun a b c h1 h2 => by
      simp only [le_less, Bool.not_eq_true'] at h1 h2 ⊢
      cases h3 : Op.bytesLess c a with
      | false => rfl
      | true =>
        by_cases e : a = b
        · subst e; rw [h2] at h3; cases h3
        · have h4 := less_tri b a (fun e' => e e'.symm) h1
          have h5 := less_trans h3 h4
          rw [h2] at h5; cases h5) (fun a b => by
      simp only [le_less]
      cases h3 : Op.bytesLess b a with
      | false => rfl
      | true => simp [less_asymm h3]) l
  refine h.imp fun {a b} h => ?_
  rw [le_less] at h
  simpa using h

theorem compact_spec (zs : List Str) (hs : List.Pairwise (fun a b => Op.bytesLess b a = false) zs) :
    ∀ m, m ≤ zs.length → (∀ y, y ∈ Lib.compactUpTo zs.toArray m ↔ y ∈ zs.take m) ∧ strict (Lib.compactUpTo zs.toArray m) ∧
      (∀ h : 0 < m, ∃ h1 : m - 1 < zs.length, (Lib.compactUpTo zs.toArray m).getLast? = some zs[m - 1]) := by
  intro m
  induction m with
  | zero => intro _; exact ⟨by simp [Lib.compactUpTo], trivial, by omega⟩
  | succ m ih =>
    intro hm
    obtain ⟨h1, h2, h3⟩ := ih (by omega)
    have hlt : m < zs.length := by omega
    have hg : zs.toArray[m]! = zs[m] := by simp [hlt]
    rw [Lib.compactUpTo_succ, hg, List.take_succ_eq_append_getElem hlt]
    have snoc : ∀ (l : List Str) (x : Str), strict l → (∀ y, l.getLast? = some y → Op.bytesLess y x = true) → strict (l ++ [x]) := by
      intro l x hl
      induction l with
      | nil => intro _; trivial
      | cons a r ihl =>
        intro hx
        cases r with
        | nil => exact ⟨hx a rfl, trivial⟩
        | cons b r' => exact ⟨hl.1, ihl hl.2 (fun y hy => hx y (by simpa using hy))⟩
    by_cases hk : Lib.keeps zs.toArray m = true
    · rw [if_pos hk]
      refine ⟨fun y => by rw [List.mem_append, List.mem_append, h1], snoc _ _ h2 (fun y hy => ?_), fun _ => ⟨by omega, by simp⟩⟩
      by_cases h0 : m = 0
      · subst h0; simp [Lib.compactUpTo] at hy
      · obtain ⟨g1, g2⟩ := h3 (by omega)
        rw [g2] at hy
        injection hy with hy; subst hy
        have hne : zs[m] ≠ zs[m - 1] := by
          have := of_decide_eq_true hk
          rcases this with h | h
          · exact absurd h h0
          · have e1 : zs.toArray[m - 1]! = zs[m - 1] := by simp [g1]
            rw [hg, e1] at h; exact h
        have hle := List.pairwise_iff_getElem.1 hs (m - 1) m (by omega) hlt (by omega)
        exact less_tri _ _ hne hle
    · rw [if_neg hk, List.append_nil]
      have h0 : m ≠ 0 := by
        intro e; subst e; simp [Lib.keeps] at hk
      have g1 : m - 1 < zs.length := by omega
      have heq : zs[m] = zs[m - 1] := by
        have e1 : zs.toArray[m - 1]! = zs[m - 1] := by simp [g1]
        simp only [Lib.keeps, decide_eq_true_eq, not_or, Decidable.not_not, hg, e1] at hk
        exact hk.2
      obtain ⟨_, g2⟩ := h3 (by omega)
      refine ⟨fun y => ?_, h2, fun _ => ⟨by omega, ?_⟩⟩
      · rw [h1 y, List.mem_append]
        constructor
        · exact .inl
        · rintro (h | h)
          · exact h
          · simp at h; subst h
            rw [heq]
            exact List.mem_take_iff_getElem.2 ⟨m - 1, by omega, rfl⟩
      · rw [g2]
        simp [heq]
theorem lib_sorted (l : List Str) : Lib.compact (l.mergeSort fun x y => decide (x ≤ y)) = sortU l := by
  obtain ⟨h1, h2, _⟩ := compact_spec _ (sorted_merge l) _ (Nat.le_refl _)
  refine strict_ext h2 (sortU_strict l) fun y => ?_
  rw [sortU_mem]
  show y ∈ Lib.compactUpTo _ _ ↔ _
  rw [h1 y, List.take_length, List.mem_mergeSort]

end Go.Proofs.YtmcfnnpihlediaaGreatDoor.Ex

/- Variables and what is not walked of them, in plain Lean. -/
namespace Go.Proofs.YtmcfnnpihlediaaGreatDoor.Ex
open Go

/-- A variable: its name, its text, is it simple? -/
abbrev VL := Str × Str × Bool
abbrev Vs := List VL
def getV (v : Vs) (n : Str) : Option VL := v.find? fun x => x.1 == n
def setV (x : VL) : Vs → Vs
  | [] => [x]
  | y :: r => if x.1 = y.1 then x :: r else if Op.bytesLess x.1 y.1 then x :: y :: r else y :: setV x r
def varAV (x : VL) : AV := .agg [.str x.1, .str x.2.1, .bool x.2.2]
def rowAV (v : Vs) : AV := .sl 3 (v.map varAV)
def varsOf : List AV → Option Vs
  | [] => some []
  | .agg [.str n, .str t, .bool b] :: r => (varsOf r).map ((n, t, b) :: ·)
  | _ => none
/-- Do the names stand in order, each once? -/
def ordV : Vs → Bool
  | [] => true
  | [_] => true
  | x :: y :: r => Op.bytesLess x.1 y.1 && ordV (y :: r)
def gSet (avs : List AV) : Option (List AV) :=
  match avs with
  | [.agg [.sl 3 xs], .agg [.str n, .str t, .bool b]] => (match varsOf xs with | some v => if ordV v = true ∧ v.length ≤ 1000000 then some [.agg [rowAV (setV (n, t, b) v)]] else none | none => none)
  | _ => none
theorem varsOf_map (v : Vs) : varsOf (v.map varAV) = some v := by
  induction v with
  | nil => rfl
  | cons x r ih => simp [varsOf, varAV, ih]

def byteAV (c : UInt8) : AV := .int .u8 c.toNat
def bytesOf : List AV → Option Str
  | [] => some []
  | .int .u8 n :: r => if 0 ≤ n ∧ n < 256 then (bytesOf r).map (UInt8.ofNat n.toNat :: ·) else none
  | _ => none
theorem bytesOf_map (s : Str) : bytesOf (s.map byteAV) = some s := by
  induction s with
  | nil => rfl
  | cons c r ih =>
    have h : (0 : Int) ≤ (c.toNat : Int) ∧ (c.toNat : Int) < 256 := ⟨by omega, by have := c.toNat_lt; omega⟩
    simp only [List.map_cons, byteAV, bytesOf, h, and_self, if_true, ih, Option.map_some]
    simp
def gPush (avs : List AV) : Option (List AV) :=
  match avs with
  | [.sl 1 k, .int .u8 n] => (match bytesOf k with | some s => if s.length ≤ 1000000000 ∧ 0 ≤ n ∧ n < 256 then some [.sl 1 ((s ++ [UInt8.ofNat n.toNat]).map byteAV)] else none | none => none)
  | _ => none
end Go.Proofs.YtmcfnnpihlediaaGreatDoor.Ex
