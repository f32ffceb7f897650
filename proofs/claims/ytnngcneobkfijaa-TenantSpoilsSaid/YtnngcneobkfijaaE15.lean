/- The engine, part 15: calls. -/
import Derived.Test.YtnngcneobkfijaaE14
set_option linter.unusedSimpArgs false
set_option linter.unusedVariables false
namespace Go.Eng
section
variable {P : Program} {w : World} {I : Nat → Prop} {ρ : Rho} {ob : Nat → Option Obj} {h : Heap}

/- labels named anew -/
theorem Rcaps.ren {ρ ρ' : Rho} {g : Nat → Nat} : (cs : List (Nat × Nat)) → (vs : List Value) → (∀ id, id ∈ cs.map (·.1) → ∀ x, ρ id = some x → ρ' (g id) = some x) → Rcaps ρ cs vs → Rcaps ρ' (cs.map fun x => (g x.1, x.2)) vs
  | [], [], _, _ => trivial
  | [], _ :: _, _, h => h.elim
  | _ :: _, [], _, h => h.elim
  | c :: cs, v :: vs, hg, ⟨⟨x, h1, h2, h3⟩, h4⟩ => ⟨⟨x, hg c.1 (by simp) x h1, h2, h3⟩, Rcaps.ren cs vs (fun id hid => hg id (by simp at hid ⊢; exact .inr hid)) h4⟩

theorem Rc.ren {ρ ρ' : Rho} {g : Nat → Nat} {c : C} {v : Value} (hg : ∀ id, id ∈ idsC c → ∀ x, ρ id = some x → ρ' (g id) = some x) (h : Rc w I ρ c v) : Rc w I ρ' (renC g c) v := by
  cases c with
  | ref id off => obtain ⟨x, h1, h2⟩ := h; exact ⟨x, hg id (by simp [idsC]) x h1, h2⟩
  | rw id sz k => obtain ⟨x, a, cap, h1, h2⟩ := h; exact ⟨x, a, cap, hg id (by simp [idsC]) x h1, h2⟩
  | sl id sz off len => obtain ⟨x, a, cap, h1, h2⟩ := h; exact ⟨x, a, cap, hg id (by simp [idsC]) x h1, h2⟩
  | rref id e j => obtain ⟨x, h1, h2⟩ := h; exact ⟨x, hg id (by simp [idsC]) x h1, h2⟩
  | mp id => obtain ⟨x, h1, h2⟩ := h; exact ⟨x, hg id (by simp [idsC]) x h1, h2⟩
  | fn k caps => obtain ⟨vs, h1, h2⟩ := h; exact ⟨vs, h1, Rcaps.ren _ _ hg h2⟩
  | _ => exact h

theorem Rcs.ren {ρ ρ' : Rho} {g : Nat → Nat} : {cs : List C} → {vs : List Value} → (∀ id, id ∈ cs.flatMap idsC → ∀ x, ρ id = some x → ρ' (g id) = some x) → Rcs w I ρ cs vs → Rcs w I ρ' (cs.map (renC g)) vs
  | [], [], _, _ => trivial
  | [], _ :: _, _, h => h.elim
  | _ :: _, [], _, h => h.elim
  | _ :: _, _ :: _, hg, ⟨h1, h2⟩ => ⟨h1.ren fun id hid => hg id (by simp only [List.flatMap_cons, List.mem_append]; exact .inl hid), Rcs.ren (fun id hid => hg id (by simp only [List.flatMap_cons, List.mem_append]; exact .inr hid)) h2⟩


theorem Rw.ren {ρ ρ' : Rho} {g : Nat → Nat} : {c : W} → {v : Value} → (∀ id, id ∈ idsW c → ∀ x, ρ id = some x → ρ' (g id) = some x) → Rw w I ρ c v → Rw w I ρ' (renW g c) v
  | .c _, _, hg, h => Rc.ren hg h
  | .agg _, _, hg, ⟨vs, h1, h2⟩ => ⟨vs, h1, Rcs.ren hg h2⟩
theorem Rws.ren {ρ ρ' : Rho} {g : Nat → Nat} : {cs : List W} → {vs : List Value} → (∀ id, id ∈ cs.flatMap idsW → ∀ x, ρ id = some x → ρ' (g id) = some x) → Rws w I ρ cs vs → Rws w I ρ' (cs.map (renW g)) vs
  | [], [], _, _ => trivial
  | [], _ :: _, _, h => h.elim
  | _ :: _, [], _, h => h.elim
  | _ :: _, _ :: _, hg, ⟨h1, h2⟩ => ⟨h1.ren fun id hid => hg id (by simp only [List.flatMap_cons, List.mem_append]; exact .inl hid), Rws.ren (fun id hid => hg id (by simp only [List.flatMap_cons, List.mem_append]; exact .inr hid)) h2⟩
theorem Rv.ren {ρ ρ' : Rho} {g : Nat → Nat} : {c : V} → {v : Value} → (∀ id, id ∈ idsV c → ∀ x, ρ id = some x → ρ' (g id) = some x) → Rv w I ρ c v → Rv w I ρ' (renV g c) v
  | .c _, _, hg, h => Rc.ren hg h
  | .agg _, _, hg, ⟨vs, h1, h2⟩ => ⟨vs, h1, Rcs.ren hg h2⟩
  | .tup _, _, hg, ⟨vs, h1, h2⟩ => ⟨vs, h1, Rws.ren hg h2⟩
theorem Rvs.ren {ρ ρ' : Rho} {g : Nat → Nat} : {cs : List V} → {vs : List Value} → (∀ id, id ∈ cs.flatMap idsV → ∀ x, ρ id = some x → ρ' (g id) = some x) → Rvs w I ρ cs vs → Rvs w I ρ' (cs.map (renV g)) vs
  | [], [], _, _ => trivial
  | [], _ :: _, _, h => h.elim
  | _ :: _, [], _, h => h.elim
  | _ :: _, _ :: _, hg, ⟨h1, h2⟩ => ⟨h1.ren fun id hid => hg id (by simp only [List.flatMap_cons, List.mem_append]; exact .inl hid), Rvs.ren (fun id hid => hg id (by simp only [List.flatMap_cons, List.mem_append]; exact .inr hid)) h2⟩

theorem Ro.ren {ρ ρ' : Rho} {g : Nat → Nat} {x : Blk} {o : Obj} (hg : ∀ id, id ∈ idsO o → ∀ x, ρ id = some x → ρ' (g id) = some x) (h : Ro w I ρ x o) : Ro w I ρ' x (renO g o) := by
  cases o with
  | box cs => obtain ⟨hr, c, T, fz, h1, h2, h3, h4⟩ := h; exact ⟨hr, c, T, fz, h1, h2, h3, h4.ren hg⟩
  | row cs l o => exact h
  | map agg cs es => exact h

theorem owned_ren (g : Nat → Nat) (o : Obj) : owned (renO g o) = owned o := by cases o <;> rfl

theorem posOf_spec (id : Nat) : (ids : List Nat) → (n : Nat) → id ∈ ids → n ≤ posOf id ids n ∧ ids[posOf id ids n - n]? = some id
  | [], _, h => by cases h
  | y :: r, n, h => by
    simp only [posOf]
    cases hb : Nat.beq y id with
    | true => simp [Nat.eq_of_beq_eq_true hb]
    | false =>
      have hne : y ≠ id := fun e => by rw [e, Nat.beq_refl] at hb; cases hb
      have hm : id ∈ r := by
        rcases List.mem_cons.1 h with h | h
        · exact absurd h.symm hne
        · exact h
      obtain ⟨h1, h2⟩ := posOf_spec id r (n + 1) hm
      simp only [cond_false]
      refine ⟨by omega, ?_⟩
      rw [show posOf id r (n + 1) - n = (posOf id r (n + 1) - (n + 1)) + 1 by omega]
      simpa using h2

theorem nodupB_ok : {ids : List Nat} → nodupB ids = true → ∀ i j x : Nat, ids[i]? = some x → ids[j]? = some x → i = j
  | [], _, i, j, x, h1, _ => by simp at h1
  | y :: r, h, i, j, x, h1, h2 => by
    simp only [nodupB, Bool.and_eq_true, Bool.not_eq_true'] at h
    have hy : ∀ q, r[q]? ≠ some y := fun q hq => by
      have := List.mem_of_getElem? hq
      have hc := h.1
      simp at hc
      exact hc this
    cases i with
    | zero =>
      cases j with
      | zero => rfl
      | succ j => simp at h1 h2; subst h1; exact absurd h2 (hy j)
    | succ i =>
      cases j with
      | zero => simp at h1 h2; subst h2; exact absurd h1 (hy i)
      | succ j => simp at h1 h2; rw [nodupB_ok h.2 i j x h1 h2]

theorem objsAt_spec {g : Nat → Nat} : {ids : List Nat} → {m : List Obj} → objsAt h g ids = some m → m.length = ids.length ∧ ∀ (j : Nat) (id : Nat), ids[j]? = some id → ∃ o, h.at? id = some o ∧ m[j]? = some (renO g o)
  | [], m, he => by simp [objsAt] at he; subst he; simp
  | id :: r, m, he => by
    simp only [objsAt] at he
    split at he
    · rename_i o os h1 h2
      cases he
      obtain ⟨k1, k2⟩ := objsAt_spec h2
      refine ⟨by simp [k1], fun j id' hj => ?_⟩
      cases j with
      | zero => simp at hj; subst hj; exact ⟨o, h1, by simp⟩
      | succ j => simp at hj; simpa using k2 j id' hj
    · cases he

theorem mapM_id : {l : List (Option Obj)} → {new : List Obj} → l.mapM id = some new → l = new.map some
  | [], new, h => by simp at h; subst h; rfl
  | x :: l, new, h => by
    simp only [List.mapM_cons, id, Option.bind_eq_bind, Option.bind_eq_some_iff, Option.pure_def, Option.some.injEq] at h
    obtain ⟨a, h1, b, h2, rfl⟩ := h
    rw [mapM_id h2, h1]
    rfl

theorem updO_zip : (ids : List Nat) → (os : List (Option Obj)) → (ob : Nat → Option Obj) → os.length = ids.length → (∀ i j x : Nat, ids[i]? = some x → ids[j]? = some x → i = j) → (i : Nat) →
    (i ∉ ids → updO ob (ids.zip os) i = ob i) ∧ ∀ j : Nat, ids[j]? = some i → updO ob (ids.zip os) i = (os[j]?).join
  | [], os, ob, _, _, i => ⟨fun _ => by simp [updO], fun j hj => by simp at hj⟩
  | x :: r, [], ob, hl, _, i => by simp at hl
  | x :: r, y :: os, ob, hl, hnd, i => by
    have hnd' : ∀ i j x : Nat, r[i]? = some x → r[j]? = some x → i = j := fun i j z h1 h2 => by
      have := hnd (i + 1) (j + 1) z (by simpa using h1) (by simpa using h2)
      omega
    obtain ⟨k1, k2⟩ := updO_zip r os (fun q => if q = x then y else ob q) (by simpa using hl) hnd' i
    simp only [List.zip_cons_cons, updO]
    refine ⟨fun hni => ?_, fun j hj => ?_⟩
    · rw [k1 fun hh => hni (by simp [hh]), if_neg fun e => hni (by simp [e])]
    · cases j with
      | zero =>
        simp at hj
        subst hj
        have : x ∉ r := fun hh => by
          obtain ⟨q, hq⟩ := List.getElem?_of_mem hh
          have := hnd 0 (q + 1) x (by simp) (by simpa using hq)
          omega
        rw [k1 this, if_pos rfl]
        simp
      | succ j =>
        simp at hj
        rw [k2 j hj]
        simp

/-- A call that goes as told: entered, or answered at once. -/
def CallOk (P : Program) (k : FuncId) (vals : Array Value) (w : World) (R : Value → World → Prop) : Prop :=
  ((callFunc k vals).run P w = .ok (.enter k vals) w ∧ Calls P k vals w (fun e w' => ∃ cv, e = .returned cv ∧ R cv w')) ∨ (∃ cv w', (callFunc k vals).run P w = .ok (.value cv) w' ∧ R cv w')

theorem CallOk.mono {k : FuncId} {vals : Array Value} {R R' : Value → World → Prop} (h : CallOk P k vals w R) (hi : ∀ cv w', R cv w' → R' cv w') : CallOk P k vals w R' := by
  rcases h with ⟨h1, h2⟩ | ⟨cv, w', h1, h2⟩
  · refine .inl ⟨h1, fun cs => ?_⟩
    obtain ⟨e, w', fr, ⟨cv, he, hr⟩, h3⟩ := h2 cs
    exact ⟨e, w', fr, ⟨cv, he, hi _ _ hr⟩, h3⟩
  · exact .inr ⟨cv, w', h1, hi _ _ h2⟩

def obOf (m : List Obj) : Nat → Option Obj := fun i => m[i]?

structure PureEnd (ρ : Rho) (I : Nat → Prop) (w : World) (v : V) (cv : Value) (w' : World) (I' : Nat → Prop) : Prop where
  os : w'.os = w.os
  tape : w'.tape = w.tape
  output : w'.output = w.output
  size : w.heap.size ≤ w'.heap.size
  old : ∀ b, b < w.heap.size → w'.heap[b]? = w.heap[b]?
  imm : ∀ b, I b → I' b
  immOld : ∀ b, b < w.heap.size → I' b → I b
  immB : ∀ b, I' b → b < w'.heap.size
  rel : Rv w' I' ρ v cv

structure FullEnd (m : List Obj) (ρ : Rho) (I : Nat → Prop) (w : World) (v : V) (m' : Heap) (cv : Value) (w' : World) (ρ' : Rho) (I' : Nat → Prop) : Prop where
  ext : Ext (obOf m) ρ I w m'.at? ρ' I' w'
  heap : RelH m'.at? ρ' I' w'
  dom : ∀ id x, ρ' id = some x → id < m'.length
  rel : Rv w' I' ρ' v cv

def Triple (P : Program) (k : FuncId) (args : List V) (m : List Obj) (r : Res) : Prop :=
  ∀ (ρ : Rho) (I : Nat → Prop) (w : World) (vals : Array Value), RelH (obOf m) ρ I w → (∀ id x, ρ id = some x → id < m.length) → Rvs w I ρ args vals.toList →
    CallOk P k vals w fun cv w' => match r with
      | .pure v => ∃ I', PureEnd ρ I w v cv w' I'
      | .full v m' => ∃ ρ' I', FullEnd m ρ I w v m' cv w' ρ' I'

def SpecOk (P : Program) (k : FuncId) (sp : Spec) : Prop := ∀ args m r, (sp args m).run = some r → Triple P k args m r

variable {n : Nat} {o : Oper} {f : Vw} {a : Act} {nid : Nat}

theorem OpGoes.call {out : Out} (hR : RelF n f ρ I a w) (hd : ∀ d, o.dst = some d → d < n) {k : FuncId} {vals : Array Value} (hex : (execOp a.eval o).run P w = (callFunc k vals).run P w)
    (hc : CallOk P k vals w fun cv w' => ∃ ρ' I', Ext f.ob ρ I w (newO (updO f.ob out.upd) nid out.new) ρ' I' w' ∧ (∀ id x, ρ' id = some x → ρ id = some x ∨ (nid ≤ id ∧ id < nid + out.new.length)) ∧
      RelH (newO (updO f.ob out.upd) nid out.new) ρ' I' w' ∧ Rv w' I' ρ' out.v cv) : OpGoes P n o f ρ I a w nid out := by
  rcases hc with ⟨h1, h2⟩ | ⟨cv, w', h1, ρ', I', h2, h3, h4, h5⟩
  · intro K Q hK
    unfold Oper.wp
    rw [hex, h1, Oper.upon_enter]
    intro cs
    obtain ⟨e, w', fr, ⟨cv, rfl, ρ', I', h2, h3, h4, h5⟩, h6⟩ := h2 cs
    refine ⟨_, w', fr, ?_, h6⟩
    have h0 : RelF n ⟨f.tm, newO (updO f.ob out.upd) nid out.new⟩ ρ' I' a w' :=
      ⟨h4, hR.defers, hR.size, fun t => (hR.tm t).mono h2.imm (h2.keepI hR.heap) h2.rho⟩
    refine hK _ _ ρ' I' h2 h3 ?_
    cases hdst : o.dst with
    | none => simpa [Vw.after, hdst, Act.put] using h0
    | some d =>
      have := h0.put (hd d hdst) h5
      simpa [Vw.after, hdst] using this
  · exact OpGoes.of hR hd (.inl (hex.trans h1)) h2 h3 h4 h5

theorem convV_all {h : Heap} (cs : List C) (hH : RelH ob ρ I w) (hm : ∀ id o, h.at? id = some o → ob id = some o) : {vs : List V} → {us : List Value} → vs.all noTup = true → (∀ c, c ∈ vs.flatMap V.cells → c ∈ cs) → Rvs w I ρ vs us →
    Rvs w (shutI I ρ (shutS h cs)) ρ (vs.map (convV h)) us
  | [], [], _, _, _ => trivial
  | [], _ :: _, _, _, hr => hr.elim
  | _ :: _, [], _, _, hr => hr.elim
  | v :: vs, u :: us, hn, hin, ⟨h1, h2⟩ => by
    simp only [List.all_cons, Bool.and_eq_true] at hn
    refine ⟨?_, convV_all cs hH hm hn.2 (fun c hc => hin c (by simp only [List.flatMap_cons, List.mem_append]; exact .inr hc)) h2⟩
    have hin1 : ∀ c, c ∈ v.cells → c ∈ cs := fun c hc => hin c (by simp only [List.flatMap_cons, List.mem_append]; exact .inl hc)
    cases v with
    | c x => exact (conv_all cs hH hm (ds := [x]) (vs := [u]) hin1 ⟨h1, trivial⟩).1
    | agg xs =>
      obtain ⟨ws, hw1, hw2⟩ := h1
      exact ⟨ws, hw1, conv_all cs hH hm hin1 hw2⟩
    | tup _ => simp [noTup] at hn

theorem mem_rowIds {h : Heap} : {cs : List C} → {id : Nat} → shutS h cs id → id ∈ rowIds h cs
  | [], id, ⟨⟨c, hc, _⟩, _⟩ => by cases hc
  | c :: cs, id, ⟨h1, a, l, h2⟩ => by
    rcases idsIn_cons.1 h1 with hc | hc
    · cases c <;> simp [idOf] at hc <;> subst hc <;> simp [rowIds, h2]
    · have := mem_rowIds (cs := cs) ⟨hc, a, l, h2⟩
      cases c <;> first | exact this | (simp only [rowIds]; split <;> first | exact List.mem_cons_of_mem _ this | exact this)

theorem scalarC_ren {g : Nat → Nat} {I' : Nat → Prop} {ρ' : Rho} {w' : World} {c : C} {v : Value} (hs : scalarC c = true) (hr : Rc w I ρ c v) : Rc w' I' ρ' (renC g c) v := by
  cases c <;> first | exact hr | (simp [scalarC] at hs)
theorem scalarCs_ren {g : Nat → Nat} {I' : Nat → Prop} {ρ' : Rho} {w' : World} : {cs : List C} → {vs : List Value} → cs.all scalarC = true → Rcs w I ρ cs vs → Rcs w' I' ρ' (cs.map (renC g)) vs
  | [], [], _, _ => trivial
  | [], _ :: _, _, h => h.elim
  | _ :: _, [], _, h => h.elim
  | _ :: _, _ :: _, hs, ⟨h1, h2⟩ => by
    simp only [List.all_cons, Bool.and_eq_true] at hs
    exact ⟨scalarC_ren hs.1 h1, scalarCs_ren hs.2 h2⟩
theorem scalarWs_ren {g : Nat → Nat} {I' : Nat → Prop} {ρ' : Rho} {w' : World} : {cs : List W} → {vs : List Value} → cs.all scalarW = true → Rws w I ρ cs vs → Rws w' I' ρ' (cs.map (renW g)) vs
  | [], [], _, _ => trivial
  | [], _ :: _, _, h => h.elim
  | _ :: _, [], _, h => h.elim
  | x :: _, _ :: _, hs, ⟨h1, h2⟩ => by
    simp only [List.all_cons, Bool.and_eq_true] at hs
    refine ⟨?_, scalarWs_ren hs.2 h2⟩
    cases x with
    | c x => exact scalarC_ren hs.1 h1
    | agg cs => obtain ⟨vs, k1, k2⟩ := h1; exact ⟨vs, k1, scalarCs_ren hs.1 k2⟩
theorem scalarV_ren {g : Nat → Nat} {I' : Nat → Prop} {ρ' : Rho} {w' : World} {x : V} {v : Value} (hs : scalarV x = true) (hr : Rv w I ρ x v) : Rv w' I' ρ' (renV g x) v := by
  cases x with
  | c x => exact scalarC_ren hs hr
  | agg cs => obtain ⟨vs, k1, k2⟩ := hr; exact ⟨vs, k1, scalarCs_ren hs k2⟩
  | tup ws => obtain ⟨vs, k1, k2⟩ := hr; exact ⟨vs, k1, scalarWs_ren hs k2⟩

theorem cells_idsV : {vs : List V} → vs.all noTup = true → vs.flatMap idsV = vs.flatMap fun v => v.cells.flatMap idsC
  | [], _ => rfl
  | v :: vs, h => by
    simp only [List.all_cons, Bool.and_eq_true] at h
    rw [List.flatMap_cons, List.flatMap_cons, cells_idsV h.2]
    congr 1
    cases v with
    | c x => simp [idsV, V.cells]
    | agg cs => rfl
    | tup _ => simp [noTup] at h

theorem noTup_conv {h : Heap} {vs : List V} (hn : vs.all noTup = true) : (vs.map (convV h)).all noTup = true := by
  rw [List.all_map]
  refine List.all_eq_true.2 fun v hv => ?_
  have := List.all_eq_true.1 hn v hv
  cases v <;> first | rfl | (simp [noTup] at this)
end
end Go.Eng
