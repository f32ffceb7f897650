/- The engine, part 3: what it is that an operation goes as reckoned; the operations that turn no memory. -/
import Derived.Test.YtnngcneobkfijaaE2
set_option linter.unusedSimpArgs false
set_option linter.unusedVariables false
namespace Go.Eng

def updO (ob : Nat → Option Obj) : List (Nat × Option Obj) → Nat → Option Obj
  | [] => ob
  | (id, o) :: r => updO (fun i => if i = id then o else ob i) r
def newO (ob : Nat → Option Obj) (nid : Nat) (new : List Obj) : Nat → Option Obj := fun i => if nid ≤ i ∧ i < nid + new.length then new[i - nid]? else ob i
def Vw.after (f : Vw) (dst : Option Nat) (nid : Nat) (out : Out) : Vw := {
  tm := match dst with
    | some d => fun t => if t = d then out.v else f.tm t
    | none => f.tm
  ob := newO (updO f.ob out.upd) nid out.new }

theorem newO_nil (ob : Nat → Option Obj) (nid : Nat) : newO ob nid [] = ob := by
  funext i
  simp only [newO, List.length_nil, Nat.add_zero]
  rw [if_neg (by omega)]

def OpGoes (P : Program) (n : Nat) (o : Oper) (f : Vw) (ρ : Rho) (I : Nat → Prop) (a : Act) (w : World) (nid : Nat) (out : Out) : Prop :=
  ∀ (K : Act → World → Prop) (Q : Exit → Act → World → Prop),
    (∀ a' w' ρ' I', Ext f.ob ρ I w (f.after o.dst nid out).ob ρ' I' w' →
      (∀ id x, ρ' id = some x → ρ id = some x ∨ (nid ≤ id ∧ id < nid + out.new.length)) →
      RelF n (f.after o.dst nid out) ρ' I' a' w' → K a' w') → o.wp P a w K Q

theorem Ext.keepI {ob ob' : Nat → Option Obj} {ρ ρ' : Rho} {I I' : Nat → Prop} {w w' : World} (h : Ext ob ρ I w ob' ρ' I' w') (hH : RelH ob ρ I w) :
    ∀ b, I b → w'.heap[b]? = w.heap[b]? := fun b hb => h.frame b (hH.immB b hb) fun ⟨id, o, x, h1, h2, h3, h4, h5⟩ => hH.actI id o x h1 h2 h3 h4 (h5 ▸ hb)

/-- An operation that yields a value, or none, in whatever world it leaves. -/
theorem OpGoes.of {P : Program} {n : Nat} {o : Oper} {f : Vw} {ρ : Rho} {I : Nat → Prop} {a : Act} {w : World} {nid : Nat} {out : Out} (hR : RelF n f ρ I a w) (hd : ∀ d, o.dst = some d → d < n)
    {cv : Value} {w' : World} {ρ' : Rho} {I' : Nat → Prop} (hrun : (execOp a.eval o).run P w = .ok (.value cv) w' ∨ ((execOp a.eval o).run P w = .ok .skip w' ∧ cv = Go.undef))
    (hext : Ext f.ob ρ I w (newO (updO f.ob out.upd) nid out.new) ρ' I' w') (hdom : ∀ id x, ρ' id = some x → ρ id = some x ∨ (nid ≤ id ∧ id < nid + out.new.length))
    (hH : RelH (newO (updO f.ob out.upd) nid out.new) ρ' I' w') (hv : Rv w' I' ρ' out.v cv) : OpGoes P n o f ρ I a w nid out := by
  intro K Q hK
  have hk : K (a.put o.dst cv) w' := by
    refine hK _ _ ρ' I' hext hdom ?_
    have h0 : RelF n ⟨f.tm, newO (updO f.ob out.upd) nid out.new⟩ ρ' I' a w' :=
      ⟨hH, hR.defers, hR.size, fun t => (hR.tm t).mono hext.imm (hext.keepI hR.heap) hext.rho⟩
    cases hdst : o.dst with
    | none => simpa [Vw.after, hdst, Act.put] using h0
    | some d =>
      have := h0.put (hd d hdst) hv
      simpa [Vw.after, hdst] using this
  unfold Oper.wp
  rcases hrun with h | ⟨h, rfl⟩
  · rw [h]; exact hk
  · rw [h]; exact hk

/-- An operation that only reckons, or reads. -/
theorem OpGoes.quiet {P : Program} {n : Nat} {o : Oper} {f : Vw} {ρ : Rho} {I : Nat → Prop} {a : Act} {w : World} {nid : Nat} {v : V} (hR : RelF n f ρ I a w) (hd : ∀ d, o.dst = some d → d < n)
    {cv : Value} (hrun : (execOp a.eval o).run P w = .ok (.value cv) w) (hv : Rv w I ρ v cv) : OpGoes P n o f ρ I a w nid { v := v } := by
  refine OpGoes.of (cv := cv) (w' := w) (ρ' := ρ) (I' := I) hR hd (.inl hrun) ?_ (fun id x h => .inl h) ?_ hv
  · simp only [updO, newO_nil]; exact Ext.refl _ _ _ _
  · simp only [updO, newO_nil]; exact hR.heap

/-- values of operands -/
def Vals (n : Nat) (f : Vw) (ρ : Rho) (I : Nat → Prop) (a : Act) (w : World) (val : Operand → V) : Prop := ∀ x, Rv w I ρ (val x) (a.eval x)

theorem Rcs_const {w : World} {I : Nat → Prop} {ρ : Rho} (hc : ∀ v, Rc w I ρ (constC v) v) : (vs : List Value) → Rcs w I ρ (vs.map constC) vs
  | [] => trivial
  | v :: vs => ⟨hc v, Rcs_const hc vs⟩
theorem constC_ok {w : World} {I : Nat → Prop} {ρ : Rho} (v : Value) : Rc w I ρ (constC v) v := by
  unfold constC
  split <;> simp [Rc]
theorem constV_ok {w : World} {I : Nat → Prop} {ρ : Rho} (v : Value) : Rv w I ρ (constV v) v := by
  unfold constV
  split
  · rename_i cs; exact ⟨cs, rfl, Rcs_const constC_ok _⟩
  · exact constC_ok v

theorem vals_of {n : Nat} {f : Vw} {ρ : Rho} {I : Nat → Prop} {a : Act} {w : World} (hR : RelF n f ρ I a w) {tm : List (Nat × V)} (ht : ∀ t, f.tm t = tget tm t) : ∀ x, Rv w I ρ (valOf tm x) (a.eval x)
  | .tmp t => by simpa [valOf, Act.eval, ← ht] using hR.tm t
  | .const v => constV_ok v
  | .func k => ⟨#[], rfl, trivial⟩
  | .global g => trivial

/- what cells say -/
theorem asI_ok {w : World} {I : Nat → Prop} {ρ : Rho} {c : C} {v : Value} {k : IntKind} {n : Int} {kn : Bool} (h : Rc w I ρ c v) (e : asI c = some (k, n, kn)) : v = .int k n := by
  cases c <;> simp [asI] at e
  · obtain ⟨rfl, rfl, _⟩ := e; exact h
  · obtain ⟨rfl, rfl, _⟩ := e; exact h
theorem asB_ok {w : World} {I : Nat → Prop} {ρ : Rho} {c : C} {v : Value} {b kn : Bool} (h : Rc w I ρ c v) (e : asB c = some (b, kn)) : v = .bool b := by
  cases c <;> simp [asB] at e
  · obtain ⟨rfl, _⟩ := e; exact h
  · obtain ⟨rfl, _⟩ := e; exact h
  · obtain ⟨rfl, _⟩ := e; exact h
theorem mkI_ok {w : World} {I : Nat → Prop} {ρ : Rho} {k : IntKind} {n : Int} {kn : Bool} : Rc w I ρ (mkI k n kn) (.int k n) := by cases kn <;> simp [mkI, Rc]
theorem mkB_ok {w : World} {I : Nat → Prop} {ρ : Rho} {b kn : Bool} : Rc w I ρ (mkB b kn) (.bool b) := by cases kn <;> cases b <;> simp [mkB, Rc]
theorem test_run {α : Type} {b kn : Bool} {t f : Tree α} : (test b kn t f).run = bif b then t.run else f.run := by cases kn <;> cases b <;> simp [test, Tree.run]
theorem pureO_run {c : C} {out : Out} (h : (pureO c).run = some out) : out = { v := .c c } := by simpa [pureO, Tree.run, eq_comm] using h
theorem leaf_run {α : Type} {a b : α} (h : (Tree.leaf a).run = some b) : b = a := by simpa [Tree.run, eq_comm] using h
theorem bind_run {α β : Type} {t : Tree α} {k : α → Tree β} {b : β} (h : (t.bind k).run = some b) : ∃ a, t.run = some a ∧ (k a).run = some b := by
  rw [Tree.run_bind] at h
  cases ht : t.run with
  | none => simp [ht] at h
  | some a => exact ⟨a, rfl, by simpa [ht] using h⟩
theorem node_run {α : Type} {b : Bool} {t f : Tree α} {x : α} (h : (Tree.node b t f).run = some x) : (b = true ∧ t.run = some x) ∨ (b = false ∧ f.run = some x) := by
  cases b
  · exact .inr ⟨rfl, by simpa [Tree.run] using h⟩
  · exact .inl ⟨rfl, by simpa [Tree.run] using h⟩
theorem hyp_run {α : Type} {b : Bool} {t : Tree α} {x : α} (h : (Tree.hyp b t).run = some x) : b = true ∧ t.run = some x := by
  cases b with
  | true => exact ⟨rfl, by simpa [Tree.run] using h⟩
  | false => simp [Tree.run] at h
theorem node_fail {α : Type} {b : Bool} {t : Tree α} {x : α} (h : (Tree.node b t .fail).run = some x) : b = true ∧ t.run = some x := by
  rcases node_run h with h | ⟨_, h⟩
  · exact h
  · simp [Tree.run] at h
theorem fail_node {α : Type} {b : Bool} {t : Tree α} {x : α} (h : (Tree.node b .fail t).run = some x) : b = false ∧ t.run = some x := by
  rcases node_run h with ⟨_, h⟩ | h
  · simp [Tree.run] at h
  · exact h
theorem test_fail {α : Type} {b kn : Bool} {t : Tree α} {x : α} (h : (test b kn t .fail).run = some x) : b = true ∧ t.run = some x := by
  rw [test_run] at h
  cases b <;> simp [Tree.run] at h
  exact ⟨rfl, h⟩
theorem fail_test {α : Type} {b kn : Bool} {t : Tree α} {x : α} (h : (test b kn .fail t).run = some x) : b = false ∧ t.run = some x := by
  rw [test_run] at h
  cases b <;> simp [Tree.run] at h
  exact ⟨rfl, h⟩
theorem fail_run {α : Type} {x : α} (h : (Tree.fail : Tree α).run = some x) : False := by simp [Tree.run] at h

/- integers, texts -/
theorem arith_ok {P : Program} {w : World} {op : BinOp} {k : IntKind} {x y : Int} {kx ky : Bool} {c : C} (h : (arith op k x y kx ky).run = some c) {I : Nat → Prop} {ρ : Rho} :
    ∃ v, ((match op with
      | .add | .sub | .mul => Op.intArith op k x y
      | .quo | .rem => Op.intDiv op k x y
      | .and | .or | .xor | .andNot => Op.intBits op k x y
      | _ => Op.intCmp op x y) : Sem Value).run P w = .ok v w ∧ Rc w I ρ c v := by
  cases op <;> simp only [arith] at h
  case add => cases leaf_run h; exact ⟨_, rfl, mkI_ok⟩
  case sub => cases leaf_run h; exact ⟨_, rfl, mkI_ok⟩
  case mul => cases leaf_run h; exact ⟨_, rfl, mkI_ok⟩
  case quo => obtain ⟨hb, h⟩ := fail_test h; cases leaf_run h; refine ⟨_, ?_, mkI_ok⟩; simp at hb; simp [Op.intDiv, hb]
  case rem => obtain ⟨hb, h⟩ := fail_test h; cases leaf_run h; refine ⟨_, ?_, mkI_ok⟩; simp at hb; simp [Op.intDiv, hb]
  case and => cases leaf_run h; exact ⟨_, rfl, mkI_ok⟩
  case or => cases leaf_run h; exact ⟨_, rfl, mkI_ok⟩
  case xor => cases leaf_run h; exact ⟨_, rfl, mkI_ok⟩
  case andNot => cases leaf_run h; exact ⟨_, rfl, mkI_ok⟩
  case eql => cases leaf_run h; exact ⟨_, rfl, mkB_ok⟩
  case neq => cases leaf_run h; exact ⟨_, rfl, mkB_ok⟩
  case lss => cases leaf_run h; exact ⟨_, rfl, mkB_ok⟩
  case leq => cases leaf_run h; exact ⟨_, rfl, mkB_ok⟩
  case gtr => cases leaf_run h; exact ⟨_, rfl, mkB_ok⟩
  case geq => cases leaf_run h; exact ⟨_, rfl, mkB_ok⟩
  all_goals exact (fail_run h).elim

theorem shift_ok {P : Program} {w : World} {op : BinOp} {k yk : IntKind} {x y : Int} {kx ky : Bool} {c : C} (h : (shiftC op k x y kx ky).run = some c) {I : Nat → Prop} {ρ : Rho} :
    ∃ v, (Op.shift op k x yk y).run P w = .ok v w ∧ Rc w I ρ c v := by
  obtain ⟨hb, h⟩ := fail_test h
  simp at hb
  have hb' : ¬ y < 0 := by omega
  cases op <;> simp only at h
  case shl => cases leaf_run h; refine ⟨_, ?_, mkI_ok⟩; simp [Op.shift, hb']
  case shr => cases leaf_run h; refine ⟨_, ?_, mkI_ok⟩; simp [Op.shift, hb']
  all_goals exact (fail_run h).elim

theorem str_ok {P : Program} {w : World} {op : BinOp} {x y : ByteArray} {c : C} (h : (strC op x y).run = some c) {I : Nat → Prop} {ρ : Rho} :
    ∃ v, (Op.stringOp op x y).run P w = .ok v w ∧ Rc w I ρ c v := by
  cases op <;> simp only [strC] at h
  case add =>
    obtain ⟨hb, h⟩ := fail_node h
    cases leaf_run h
    refine ⟨.string (x ++ y), ?_, rfl⟩
    simp only [decide_eq_false_iff_not] at hb
    simp only [Op.stringOp, if_neg hb, Sem.run_pure]
  case eql => cases leaf_run h; exact ⟨_, rfl, rfl⟩
  case neq => cases leaf_run h; exact ⟨_, rfl, rfl⟩
  case lss => cases leaf_run h; exact ⟨_, rfl, rfl⟩
  case leq => cases leaf_run h; exact ⟨_, rfl, rfl⟩
  case gtr => cases leaf_run h; exact ⟨_, rfl, rfl⟩
  case geq => cases leaf_run h; exact ⟨_, rfl, rfl⟩
  all_goals exact (fail_run h).elim

end Go.Eng
