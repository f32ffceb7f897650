/- The engine, part 30: contracts by shapes. -/
import Derived.Test.YtnngcneobkfijaaE29
set_option linter.unusedSimpArgs false
set_option linter.unusedVariables false
namespace Go.Eng
section
variable {P : Program} {w : World} {I : Nat → Prop} {ρ : Rho} {n : Nat} {a : Act}

def OPs.objs : (ps : List OP) → OPs.D ps → List Obj
  | [], _ => []
  | p :: r, d => match p.mk d.1 with
    | some o => o :: OPs.objs r d.2
    | none => OPs.objs r d.2
def noNone : List OP → Bool
  | [] => true
  | .none :: _ => false
  | _ :: r => noNone r
theorem OPs.objs_mk : {ps : List OP} → noNone ps = true → (d : OPs.D ps) → OPs.mk ps d = (OPs.objs ps d).map some
  | [], _, _ => rfl
  | .none :: _, h, _ => by cases h
  | .box _ :: r, h, d => by show _ :: OPs.mk r d.2 = _; rw [OPs.objs_mk (ps := r) h]; rfl
  | .row _ _ :: r, h, d => by show _ :: OPs.mk r d.2 = _; rw [OPs.objs_mk (ps := r) h]; rfl
  | .map _ _ :: r, h, d => by show _ :: OPs.mk r d.2 = _; rw [OPs.objs_mk (ps := r) h]; rfl

theorem at_some (m : List Obj) : Heap.at? (m.map some) = obOf m := by
  funext i
  simp only [Heap.at?, obOf, List.getElem?_map]
  cases m[i]? <;> rfl

/-- arguments said otherwise -/
theorem Triple.args {k : FuncId} {args : List V} {m : List Obj} {ap : List VP} {hp : List OP} {x : VPs.D ap} {d : OPs.D hp} {r : Res} (hn : noNone hp = true) (ha : VPs.get ap args = some x) (hm : OPs.get hp (m.map some) = some d) (h : Triple P k (VPs.mk ap x) (OPs.objs hp d) r) : Triple P k args m r := by
  intro ρ I w vals hH hdom hargs
  obtain ⟨k1, k2⟩ := OPs.get_ok hm
  rw [OPs.objs_mk hn, at_some] at k2
  rw [at_some] at k2
  have hlen : (OPs.objs hp d).length = m.length := by
    have := k1
    rw [OPs.objs_mk hn] at this
    simpa using this
  have hH' : RelH (obOf (OPs.objs hp d)) ρ I w := hH.swap fun i o' ho => by
    obtain ⟨o, q1, q2, q3⟩ := k2 i o' ho
    exact ⟨o, q1, q2, fun z _ hz => q3 _ _ _ _ hz⟩
  have hE : Ext (obOf m) ρ I w (obOf (OPs.objs hp d)) ρ I w := (ExtB.swap (base := m.length) fun i o' ho => by
    obtain ⟨o, q1, q2, _⟩ := k2 i o' ho
    exact ⟨o, q1, q2⟩).full hdom
  refine (h ρ I w vals hH' (fun id x hx => by rw [hlen]; exact hdom id x hx) (VPs.get_ok ha hargs)).mono fun cv w' hh => ?_
  cases r with
  | pure v => exact hh
  | full v m' =>
    obtain ⟨ρ', I', he⟩ := hh
    exact ⟨ρ', I', hE.trans he.ext, he.heap, he.dom, he.rel⟩

/-- a value says no more than another one -/
def Wk (v v' : V) : Prop := ∀ w I ρ u, Rv w I ρ v u → Rv w I ρ v' u
theorem Wk.refl (v : V) : Wk v v := fun _ _ _ _ h => h
theorem Wk.of {p : VP} {v : V} {d : p.D} (h : p.get v = some d) : Wk v (p.mk d) := fun _ _ _ _ hv => VP.get_ok h hv
/-- so a heap -/
def WkH (h h' : Heap) : Prop := h'.length = h.length ∧ ∀ i o2, h'.at? i = some o2 → ∃ o1, h.at? i = some o1 ∧ owned o2 = owned o1 ∧ ∀ w I ρ x, Ro w I ρ x o1 → Ro w I ρ x o2
theorem WkH.refl (h : Heap) : WkH h h := ⟨rfl, fun i o ho => ⟨o, ho, rfl, fun _ _ _ _ h => h⟩⟩
theorem WkH.of {q : List OP} {h : Heap} {d : OPs.D q} (hg : OPs.get q h = some d) : WkH h (OPs.mk q d) := OPs.get_ok hg

theorem Triple.wk {k : FuncId} {args : List V} {m : List Obj} {v v' : V} {m1 m2 : Heap} (h : Triple P k args m (.full v m1)) (hv : Wk v v') (hm : WkH m1 m2) : Triple P k args m (.full v' m2) := by
  intro ρ I w vals hH hdom hargs
  refine (h ρ I w vals hH hdom hargs).mono fun cv w' hh => ?_
  obtain ⟨ρ', I', he⟩ := hh
  refine ⟨ρ', I', ?_, he.heap.swap fun i o' ho => ?_, fun id x hx => by rw [hm.1]; exact he.dom id x hx, hv _ _ _ _ he.rel⟩
  · have hsw : ExtB m1.length m1.at? ρ' I' w' m2.at? ρ' I' w' := ExtB.swap fun i o' ho => by
      obtain ⟨o, q1, q2, _⟩ := hm.2 i o' ho
      exact ⟨o, q1, q2⟩
    exact he.ext.trans (hsw.full he.dom)
  · obtain ⟨o, q1, q2, q3⟩ := hm.2 i o' ho
    exact ⟨o, q1, q2, fun z _ hz => q3 _ _ _ _ hz⟩
theorem Triple.wkp {k : FuncId} {args : List V} {m : List Obj} {v v' : V} (h : Triple P k args m (.pure v)) (hv : Wk v v') : Triple P k args m (.pure v') := by
  intro ρ I w vals hH hdom hargs
  refine (h ρ I w vals hH hdom hargs).mono fun cv w' ⟨I', hp⟩ => ⟨I', hp.os, hp.tape, hp.output, hp.size, hp.old, hp.imm, hp.immOld, hp.immB, hv _ _ _ _ hp.rel⟩

/-- A contract by its arguments' shapes. -/
def patSpec (ap : List VP) (hp : List OP) (ans : VPs.D ap → OPs.D hp → Tree Res) : Spec := fun args m => match VPs.get ap args, OPs.get hp (m.map some) with
  | some x, some d => ans x d
  | _, _ => .fail
theorem patSpec_ok {k : FuncId} {ap : List VP} {hp : List OP} {ans : VPs.D ap → OPs.D hp → Tree Res} (hn : noNone hp = true) (h : ∀ x d r, (ans x d).run = some r → Triple P k (VPs.mk ap x) (OPs.objs hp d) r) : SpecOk P k (patSpec ap hp ans) := by
  intro args m r he
  unfold patSpec at he
  split at he
  · rename_i x d h1 h2
    exact Triple.args hn h1 h2 (h x d r he)
  · exact (fail_run he).elim

/-- A tree ends in a leaf that is so. -/
def TEnds {α : Type} (Q : α → Prop) (t : Tree α) : Prop := ∃ x, t.run = some x ∧ Q x
theorem TEnds.leaf {α : Type} {Q : α → Prop} {x : α} (h : Q x) : TEnds Q (.leaf x) := ⟨x, rfl, h⟩
theorem TEnds.node {α : Type} {Q : α → Prop} {b : Bool} {t f : Tree α} (h1 : b = true → TEnds Q t) (h2 : b = false → TEnds Q f) : TEnds Q (.node b t f) := by
  cases b with
  | true => exact h1 rfl
  | false => exact h2 rfl
theorem TEnds.ok {α : Type} {Q : α → Prop} {b : Bool} {t : Tree α} (hb : b = true) (h1 : b = true → TEnds Q t) : TEnds Q (.node b t .fail) := .node h1 fun h => by rw [hb] at h; cases h
theorem TEnds.no {α : Type} {Q : α → Prop} {b : Bool} {t : Tree α} (hb : b = false) (h1 : b = false → TEnds Q t) : TEnds Q (.node b .fail t) := .node (fun h => by rw [hb] at h; cases h) h1
theorem TEnds.hyp {α : Type} {Q : α → Prop} {b : Bool} {t : Tree α} (hb : b = true) (h1 : TEnds Q t) : TEnds Q (.hyp b t) := by subst hb; exact h1
theorem TEnds.bind {α β : Type} {Q : β → Prop} {t : Tree α} {k : α → Tree β} (h : TEnds (fun x => TEnds Q (k x)) t) : TEnds Q (t.bind k) := by
  obtain ⟨x, h1, y, h2, h3⟩ := h
  exact ⟨y, by rw [Tree.run_bind, h1]; exact h2, h3⟩
theorem TEnds.mono {α : Type} {Q Q' : α → Prop} {t : Tree α} (h : TEnds Q t) (hi : ∀ x, Q x → Q' x) : TEnds Q' t := by
  obtain ⟨x, h1, h2⟩ := h
  exact ⟨x, h1, hi x h2⟩
theorem TEnds.eq {α : Type} {Q : α → Prop} {t t' : Tree α} (h : t = t') (hq : TEnds Q t') : TEnds Q t := h ▸ hq
theorem TEnds.iter {α : Type} {Q : Ex × α → Prop} {step : α → Tree (Ex × α)} {k : Nat} {s : α} (h : TEnds (fun x => match x.1 with | .norm => TEnds Q (iter step k x.2) | e => Q (e, x.2)) (step s)) : TEnds Q (iter step (k + 1) s) := by
  refine TEnds.bind (h.mono fun x hx => ?_)
  obtain ⟨e, s'⟩ := x
  cases e with
  | norm => exact hx
  | exit id => exact .leaf hx
  | ret => exact .leaf hx

/-- What a reckoning ends in is what the contract tells. -/
def ResOk (m : List Obj) (v : V) (m' : Heap) : Res → Prop
  | .pure v' => m = [] ∧ ((idsV v = [] ∧ Wk v v') ∨ ∃ i sz kn cs l o, v = .c (.rw i sz kn) ∧ m'.at? i = some (.row cs l o) ∧ Wk (.c (.lst cs l)) v')
  | .full v' m'' => Wk v v' ∧ WkH m' m''
theorem ResOk.triple {k : FuncId} {args : List V} {m : List Obj} {v : V} {m' : Heap} {r : Res} (h : ResOk m v m' r) (ht : Triple P k args m (.full v m')) : Triple P k args m r := by
  cases r with
  | pure v' =>
    obtain ⟨rfl, h⟩ := h
    rcases h with ⟨h1, h2⟩ | ⟨i, sz, kn, cs, l, o, rfl, h1, h2⟩
    · exact (ht.pure h1).wkp h2
    · exact (ht.freeze h1).wkp h2
  | full v' m'' => exact ht.wk h.1 h.2

/-- the blocks of a code -/
def blocks : Code → List (Nat × Code)
  | .seq a b => blocks a ++ blocks b
  | .cond _ a b => blocks a ++ blocks b
  | .block id b => (id, b) :: blocks b
  | .loop b => blocks b
  | _ => []
theorem lpOk_of {X : Ctx} : (c : Code) → (∀ id b, (id, b) ∈ blocks c → ∀ s t r, X.lp id s = some t → t.run = some r → Goes X.P n X.base (.block id b) s r) → lpOk X n c
  | .seq a b, h => ⟨lpOk_of a fun id c hc => h id c (List.mem_append_left _ hc), lpOk_of b fun id c hc => h id c (List.mem_append_right _ hc)⟩
  | .cond _ a b, h => ⟨lpOk_of a fun id c hc => h id c (List.mem_append_left _ hc), lpOk_of b fun id c hc => h id c (List.mem_append_right _ hc)⟩
  | .block id b, h => ⟨h id b (List.mem_cons_self ..), lpOk_of b fun id c hc => h id c (List.mem_cons_of_mem _ hc)⟩
  | .loop b, h => lpOk_of b h
  | .skip, _ | .region .., _ | .rangeFunc .., _ | .exit _, _ | .scope _, _ | .label _, _ | .goto _, _ | .ret, _ | .refuse _, _ => trivial

def blkOf (id : Nat) (c : Code) : Code := match (blocks c).find? fun x => Nat.beq x.1 id with
  | some x => x.2
  | none => .skip
def loopOf (id : Nat) (c : Code) : Code := match blkOf id c with
  | .loop b => b
  | _ => .skip
/-- one loop's answer by its state's shape -/
noncomputable def lpPat (id : Nat) (p : SP) (ans : p.D → Tree (Ex × St)) : Nat → St → Option (Tree (Ex × St)) := fun id' s => bif Nat.beq id' id then (p.get s).map ans else none
noncomputable def lpAnd (f g : Nat → St → Option (Tree (Ex × St))) : Nat → St → Option (Tree (Ex × St)) := fun id s => match f id s with
  | some t => some t
  | none => g id s
def LpOk (P : Program) (n base : Nat) (c : Code) (f : Nat → St → Option (Tree (Ex × St))) : Prop := ∀ id b, (id, b) ∈ blocks c → ∀ s t r, f id s = some t → t.run = some r → Goes P n base (.block id b) s r
theorem LpOk.none {base : Nat} {c : Code} : LpOk P n base c fun _ _ => none := fun _ _ _ _ _ _ h => by cases h
theorem LpOk.and {base : Nat} {c : Code} {f g : Nat → St → Option (Tree (Ex × St))} (hf : LpOk P n base c f) (hg : LpOk P n base c g) : LpOk P n base c (lpAnd f g) := by
  intro id b hm s t r h hr
  simp only [lpAnd] at h
  split at h
  · rename_i t' ht
    cases h
    exact hf id b hm s t r ht hr
  · exact hg id b hm s t r h hr
/-- where a number names one block -/
def oneBlock (id : Nat) (c : Code) : Bool := Nat.beq ((blocks c).filter fun x => Nat.beq x.1 id).length 1
theorem mem_one {id : Nat} {c b : Code} (h1 : oneBlock id c = true) (hm : (id, b) ∈ blocks c) : b = blkOf id c := by
  unfold oneBlock at h1
  have h1 := Nat.eq_of_beq_eq_true h1
  unfold blkOf
  generalize blocks c = l at hm h1
  have hmem : (id, b) ∈ l.filter fun x => Nat.beq x.1 id := List.mem_filter.2 ⟨hm, by simp [Nat.beq_refl]⟩
  obtain ⟨y, hl⟩ := List.length_eq_one_iff.1 h1
  rw [hl] at hmem
  have hy : (id, b) = y := by simpa using hmem
  have hf : l.find? (fun x => Nat.beq x.1 id) = some y := by
    have := List.head?_filter (p := fun x : Nat × Code => Nat.beq x.1 id) (l := l)
    rw [hl] at this
    simpa using this.symm
  rw [hf, ← hy]
theorem LpOk.pat {base : Nat} {c : Code} {id : Nat} {p : SP} {ans : p.D → Tree (Ex × St)} (h1 : oneBlock id c = true) (h : ∀ d r, (ans d).run = some r → Goes P n base (.block id (blkOf id c)) (p.mk' d) r) : LpOk P n base c (lpPat id p ans) := by
  intro id' b hm s t r ht hr
  unfold lpPat at ht
  cases hb : Nat.beq id' id with
  | false => rw [hb] at ht; cases ht
  | true =>
    have := Nat.eq_of_beq_eq_true hb
    subst this
    rw [hb, cond_true, Option.map_eq_some_iff] at ht
    obtain ⟨d, hd, rfl⟩ := ht
    rw [mem_one h1 hm]
    exact Goes.fits hd (h d r hr)

/-- **A contract by shapes out of a reckoning**: X may hang on the arguments. -/
theorem fn_pat {k : FuncId} {fn : Func} {body : Code} {ap : List VP} {hp : List OP} {ans : VPs.D ap → OPs.D hp → Tree Res} (hmix : P.follows .mixedOrders = true) (hf : P.funcs[k]? = some fn) (hb : fn.body = some body) (hname : (fn.name == "runtime.NumGoroutine") = false)
    (hc : codeOk fn.ntmps body = true) (hlen : Nat.ble ap.length fn.ntmps = true) (hn : noNone hp = true)
    (h : ∀ x d r, (ans x d).run = some r → ∃ X : Ctx, X.P = P ∧ EnvOk P X.E ∧ LpOk P fn.ntmps hp.length body X.lp ∧ TEnds (fun y => ResOk (OPs.objs hp d) y.1 y.2 r) (evFn X fn body (VPs.mk ap x) (OPs.mk hp d))) : SpecOk P k (patSpec ap hp ans) := by
  refine patSpec_ok hn fun x d r hr => ?_
  obtain ⟨X, rfl, hE, hl, ⟨v, m'⟩, h1, h2⟩ := h x d r hr
  rw [OPs.objs_mk hn] at h1
  have hlen' : (VPs.mk ap x).length ≤ fn.ntmps := by
    have key : ∀ (ap : List VP) (x : VPs.D ap), (VPs.mk ap x).length = ap.length := by
      intro ap
      induction ap with
      | nil => intro _; rfl
      | cons p r ih => intro x; simp [VPs.mk, ih]
    rw [key]; exact Nat.le_of_ble_eq_true hlen
  have hlo : (OPs.objs hp d).length = hp.length := by
    have e : (OPs.mk hp d).length = hp.length := by
      have key : ∀ (hp : List OP) (d : OPs.D hp), (OPs.mk hp d).length = hp.length := by
        intro hp
        induction hp with
        | nil => intro _; rfl
        | cons p r ih => intro x; simp [OPs.mk, ih]
      exact key hp d
    rw [OPs.objs_mk hn, List.length_map] at e
    exact e
  exact h2.triple (evFn_ok hmix hE hf hb hname hc hlen' (by rw [hlo]; exact lpOk_of _ hl) h1)


/-- a loop's answer, by its rounds -/
theorem loop_pat {X : Ctx} (hmix : X.P.follows .mixedOrders = true) (hE : EnvOk X.P X.E) {c : Code} {id : Nat} {p : SP} {ans : p.D → Tree (Ex × St)} (h1 : oneBlock id c = true) (hloop : blkOf id c = .loop (loopOf id c)) (hc : codeOk n (loopOf id c) = true) (hl : LpOk X.P n X.base (loopOf id c) X.lp)
    (h : ∀ d e s, (ans d).run = some (e, s) → ∃ fuel, TEnds (fun y => outOf id y.1 = e ∧ ∃ q d', s = SP.mk' q d' ∧ q.get y.2 = some d') (iter (evCode X (loopOf id c)) fuel (p.mk' d))) : LpOk X.P n X.base c (lpPat id p ans) := by
  refine LpOk.pat h1 fun d r hr => ?_
  obtain ⟨e, s⟩ := r
  obtain ⟨fuel, ⟨e1, s1⟩, k1, k2, q, d', rfl, k3⟩ := h d e s hr
  rw [hloop]
  have k2 : outOf id e1 = e := k2
  subst k2
  exact (loop_goes (X := X) (id := id) hmix hE hc (lpOk_of _ hl) fuel k1).mono k3
end
end Go.Eng
