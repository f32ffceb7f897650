/- The engine, part 29: shapes of states and of arguments, with holes for data. -/
import Derived.Test.YtnngcneobkfijaaE28
set_option linter.unusedSimpArgs false
set_option linter.unusedVariables false
namespace Go.Eng
section
variable {P : Program} {w : World} {I : Nat → Prop} {ρ : Rho} {n : Nat} {a : Act}

/-- A cell's shape. -/
inductive CP where
  | any
  | ref (id off : Nat) | mp (id : Nat) | fn (k : Nat) (caps : List (Nat × Nat))
  | nilptr | nilsl | nilmap | nilfn | tt | ff | lit (k : IntKind) (n : Int)
  | rw (id sz : Nat)
  | int (k : IntKind) | sb | str | lst (cs : Shs)

def CP.D : CP → Type
  | .int _ => Int
  | .sb => Bool
  | .str => ByteArray
  | .lst cs => List (Tup cs)
  | _ => Unit
def CP.mk : (p : CP) → p.D → C
  | .any, _ => .any
  | .ref id off, _ => .ref id off
  | .mp id, _ => .mp id
  | .fn k caps, _ => .fn k caps
  | .nilptr, _ => .nilptr
  | .nilsl, _ => .nilsl
  | .nilmap, _ => .nilmap
  | .nilfn, _ => .nilfn
  | .tt, _ => .tt
  | .ff, _ => .ff
  | .lit k n, _ => .lit k n
  | .rw id sz, _ => .rw id sz false
  | .int k, n => .int k n
  | .sb, b => .sb b
  | .str, s => .str s
  | .lst cs, l => .lst cs l
def beqCaps : List (Nat × Nat) → List (Nat × Nat) → Bool
  | [], [] => true
  | x :: r, y :: q => Nat.beq x.1 y.1 && Nat.beq x.2 y.2 && beqCaps r q
  | _, _ => false
theorem beqCaps_ok : {a b : List (Nat × Nat)} → beqCaps a b = true → a = b
  | [], [], _ => rfl
  | [], _ :: _, h => by cases h
  | _ :: _, [], h => by cases h
  | (x, x') :: r, (y, y') :: q, h => by
    simp only [beqCaps, Bool.and_eq_true] at h
    rw [beqCaps_ok h.2, Nat.eq_of_beq_eq_true h.1.1, Nat.eq_of_beq_eq_true h.1.2]
def okU (b : Bool) : Option Unit := bif b then some () else none
theorem okU_ok {b : Bool} {d : Unit} (h : okU b = some d) : b = true := by cases b <;> first | rfl | cases h
def isRef (id off : Nat) : C → Bool
  | .ref id' off' => Nat.beq id id' && Nat.beq off off'
  | _ => false
def isMp (id : Nat) : C → Bool
  | .mp id' => Nat.beq id id'
  | _ => false
def isFn (k : Nat) (caps : List (Nat × Nat)) : C → Bool
  | .fn k' caps' => Nat.beq k k' && beqCaps caps caps'
  | _ => false
def isRw (id sz : Nat) : C → Bool
  | .rw id' sz' _ => Nat.beq id id' && Nat.beq sz sz'
  | _ => false
def isLit (k : IntKind) (n : Int) : C → Bool
  | .lit k' n' => decide (k = k' ∧ n = n')
  | _ => false
def is_nilptr : C → Bool
  | .nilptr => true
  | _ => false
def is_nilsl : C → Bool
  | .nilsl => true
  | _ => false
def is_nilmap : C → Bool
  | .nilmap => true
  | _ => false
def is_nilfn : C → Bool
  | .nilfn => true
  | _ => false
def is_tt : C → Bool
  | .tt => true
  | _ => false
def is_ff : C → Bool
  | .ff => true
  | _ => false
theorem isRef_ok {id off : Nat} {c : C} (h : isRef id off c = true) : c = .ref id off := by
  cases c <;> first | cases h | skip
  simp only [isRef, Bool.and_eq_true] at h
  rw [Nat.eq_of_beq_eq_true h.1, Nat.eq_of_beq_eq_true h.2]
theorem isMp_ok {id : Nat} {c : C} (h : isMp id c = true) : c = .mp id := by
  cases c <;> first | cases h | skip
  rw [Nat.eq_of_beq_eq_true h]
theorem isFn_ok {k : Nat} {caps : List (Nat × Nat)} {c : C} (h : isFn k caps c = true) : c = .fn k caps := by
  cases c <;> first | cases h | skip
  simp only [isFn, Bool.and_eq_true] at h
  rw [Nat.eq_of_beq_eq_true h.1, beqCaps_ok h.2]
theorem isRw_ok {id sz : Nat} {c : C} (h : isRw id sz c = true) : ∃ kn, c = .rw id sz kn := by
  cases c <;> first | cases h | skip
  simp only [isRw, Bool.and_eq_true] at h
  rw [Nat.eq_of_beq_eq_true h.1, Nat.eq_of_beq_eq_true h.2]
  exact ⟨_, rfl⟩
theorem isLit_ok {k : IntKind} {n : Int} {c : C} (h : isLit k n c = true) : c = .lit k n := by
  cases c <;> first | cases h | skip
  simp only [isLit, decide_eq_true_eq] at h
  rw [h.1, h.2]
theorem is_nilptr_ok {c : C} (h : is_nilptr c = true) : c = .nilptr := by cases c <;> first | rfl | cases h
theorem is_nilsl_ok {c : C} (h : is_nilsl c = true) : c = .nilsl := by cases c <;> first | rfl | cases h
theorem is_nilmap_ok {c : C} (h : is_nilmap c = true) : c = .nilmap := by cases c <;> first | rfl | cases h
theorem is_nilfn_ok {c : C} (h : is_nilfn c = true) : c = .nilfn := by cases c <;> first | rfl | cases h
theorem is_tt_ok {c : C} (h : is_tt c = true) : c = .tt := by cases c <;> first | rfl | cases h
theorem is_ff_ok {c : C} (h : is_ff c = true) : c = .ff := by cases c <;> first | rfl | cases h
def CP.get : (p : CP) → C → Option p.D
  | .any, _ => some ()
  | .ref id off, c => okU (isRef id off c)
  | .mp id, c => okU (isMp id c)
  | .fn k caps, c => okU (isFn k caps c)
  | .nilptr, c => okU (is_nilptr c)
  | .nilsl, c => okU (is_nilsl c)
  | .nilmap, c => okU (is_nilmap c)
  | .nilfn, c => okU (is_nilfn c)
  | .tt, c => okU (is_tt c)
  | .ff, c => okU (is_ff c)
  | .lit k n, c => okU (isLit k n c)
  | .rw id sz, c => okU (isRw id sz c)
  | .int k, c => datI k c
  | .sb, c => datB c
  | .str, c => datS c
  | .lst cs, c => datL cs c

theorem CP.get_ok : {p : CP} → {c : C} → {d : p.D} → p.get c = some d → {v : Value} → Rc w I ρ c v → Rc w I ρ (p.mk d) v
  | .any, _, _, _, _, _ => trivial
  | .int _, _, d, h, _, hc => datI_ok (x := d) h hc
  | .sb, _, d, h, _, hc => datB_ok (x := d) h hc
  | .str, _, d, h, _, hc => datS_ok (x := d) h hc
  | .lst _, _, d, h, _, hc => datL_ok (x := d) h hc
  | .ref _ _, _, _, h, _, hc => by have e := isRef_ok (okU_ok h); subst e; exact hc
  | .mp _, _, _, h, _, hc => by have e := isMp_ok (okU_ok h); subst e; exact hc
  | .fn _ _, _, _, h, _, hc => by have e := isFn_ok (okU_ok h); subst e; exact hc
  | .lit _ _, _, _, h, _, hc => by have e := isLit_ok (okU_ok h); subst e; exact hc
  | .rw _ _, _, _, h, _, hc => by obtain ⟨kn, rfl⟩ := isRw_ok (okU_ok h); exact hc
  | .nilptr, _, _, h, _, hc => by have e := is_nilptr_ok (okU_ok h); subst e; exact hc
  | .nilsl, _, _, h, _, hc => by have e := is_nilsl_ok (okU_ok h); subst e; exact hc
  | .nilmap, _, _, h, _, hc => by have e := is_nilmap_ok (okU_ok h); subst e; exact hc
  | .nilfn, _, _, h, _, hc => by have e := is_nilfn_ok (okU_ok h); subst e; exact hc
  | .tt, _, _, h, _, hc => by have e := is_tt_ok (okU_ok h); subst e; exact hc
  | .ff, _, _, h, _, hc => by have e := is_ff_ok (okU_ok h); subst e; exact hc

def CPs.D : List CP → Type
  | [] => Unit
  | p :: r => p.D × CPs.D r
def CPs.mk : (ps : List CP) → CPs.D ps → List C
  | [], _ => []
  | p :: r, d => p.mk d.1 :: CPs.mk r d.2
def CPs.get : (ps : List CP) → List C → Option (CPs.D ps)
  | [], [] => some ()
  | p :: r, c :: cs => match p.get c, CPs.get r cs with
    | some a, some b => some (a, b)
    | _, _ => none
  | _, _ => none
theorem CPs.get_ok : {ps : List CP} → {cs : List C} → {d : CPs.D ps} → CPs.get ps cs = some d → {vs : List Value} → Rcs w I ρ cs vs → Rcs w I ρ (CPs.mk ps d) vs
  | [], [], _, _, [], _ => trivial
  | [], [], _, _, _ :: _, h => h.elim
  | [], _ :: _, _, h, _, _ => by simp [CPs.get] at h
  | _ :: _, [], _, h, _, _ => by simp [CPs.get] at h
  | p :: r, c :: cs, d, h, vs, hv => by
    simp only [CPs.get] at h
    split at h
    · rename_i x y h1 h2
      cases h
      match vs, hv with
      | [], hv => exact hv.elim
      | v :: vs, ⟨k1, k2⟩ => exact ⟨CP.get_ok h1 k1, CPs.get_ok h2 k2⟩
    · cases h

/-- A value's shape. -/
inductive VP where
  | c (p : CP) | agg (ps : List CP)
def VP.D : VP → Type
  | .c p => p.D
  | .agg ps => CPs.D ps
def VP.mk : (p : VP) → p.D → V
  | .c p, d => .c (p.mk d)
  | .agg ps, d => .agg (CPs.mk ps d)
def isAny : CP → Bool
  | .any => true
  | _ => false
def getC (p : CP) : V → Option p.D
  | .c x => p.get x
  | _ => none
def getA (ps : List CP) : V → Option (CPs.D ps)
  | .agg cs => CPs.get ps cs
  | _ => none
def VP.get : (p : VP) → V → Option p.D
  | .c .any, _ => some ()
  | .c p, x => getC p x
  | .agg ps, x => getA ps x
theorem getC_ok {p : CP} {x : V} {d : p.D} (h : getC p x = some d) {v : Value} (hv : Rv w I ρ x v) : Rc w I ρ (p.mk d) v := by
  cases x with
  | c x => exact CP.get_ok h hv
  | agg cs => cases h
  | tup _ => cases h
theorem VP.get_ok : {p : VP} → {x : V} → {d : p.D} → p.get x = some d → {v : Value} → Rv w I ρ x v → Rv w I ρ (p.mk d) v
  | .c .any, _, _, _, _, _ => trivial
  | .agg ps, .agg cs, _, h, _, hv => by obtain ⟨vs, h1, h2⟩ := hv; exact ⟨vs, h1, CPs.get_ok h h2⟩
  | .agg ps, .c _, _, h, _, _ => by cases h
  | .agg ps, .tup _, _, h, _, _ => by cases h
  | .c (.int a), _, d, h, _, hv => getC_ok (p := .int a) (d := d) h hv
  | .c .sb, _, d, h, _, hv => getC_ok (p := .sb) (d := d) h hv
  | .c .str, _, d, h, _, hv => getC_ok (p := .str) (d := d) h hv
  | .c (.lst a), _, d, h, _, hv => getC_ok (p := .lst a) (d := d) h hv
  | .c (.ref a b), _, d, h, _, hv => getC_ok (p := .ref a b) (d := d) h hv
  | .c (.mp a), _, d, h, _, hv => getC_ok (p := .mp a) (d := d) h hv
  | .c (.fn a b), _, d, h, _, hv => getC_ok (p := .fn a b) (d := d) h hv
  | .c (.lit a b), _, d, h, _, hv => getC_ok (p := .lit a b) (d := d) h hv
  | .c (.rw a b), _, d, h, _, hv => getC_ok (p := .rw a b) (d := d) h hv
  | .c .nilptr, _, d, h, _, hv => getC_ok (p := .nilptr) (d := d) h hv
  | .c .nilsl, _, d, h, _, hv => getC_ok (p := .nilsl) (d := d) h hv
  | .c .nilmap, _, d, h, _, hv => getC_ok (p := .nilmap) (d := d) h hv
  | .c .nilfn, _, d, h, _, hv => getC_ok (p := .nilfn) (d := d) h hv
  | .c .tt, _, d, h, _, hv => getC_ok (p := .tt) (d := d) h hv
  | .c .ff, _, d, h, _, hv => getC_ok (p := .ff) (d := d) h hv

def VPs.D : List VP → Type
  | [] => Unit
  | p :: r => p.D × VPs.D r
def VPs.mk : (ps : List VP) → VPs.D ps → List V
  | [], _ => []
  | p :: r, d => p.mk d.1 :: VPs.mk r d.2
def VPs.get : (ps : List VP) → List V → Option (VPs.D ps)
  | [], [] => some ()
  | p :: r, c :: cs => match p.get c, VPs.get r cs with
    | some a, some b => some (a, b)
    | _, _ => none
  | _, _ => none
theorem VPs.get_ok : {ps : List VP} → {cs : List V} → {d : VPs.D ps} → VPs.get ps cs = some d → {vs : List Value} → Rvs w I ρ cs vs → Rvs w I ρ (VPs.mk ps d) vs
  | [], [], _, _, [], _ => trivial
  | [], [], _, _, _ :: _, h => h.elim
  | [], _ :: _, _, h, _, _ => by simp [VPs.get] at h
  | _ :: _, [], _, h, _, _ => by simp [VPs.get] at h
  | p :: r, c :: cs, d, h, vs, hv => by
    simp only [VPs.get] at h
    split at h
    · rename_i x y h1 h2
      cases h
      match vs, hv with
      | [], hv => exact hv.elim
      | v :: vs, ⟨k1, k2⟩ => exact ⟨VP.get_ok h1 k1, VPs.get_ok h2 k2⟩
    · cases h

/-- An object's shape. -/
inductive OP where
  | box (ps : List CP) | row (cs : Shs) (ow : Own) | map (ag : Bool) (cs : Shs) | none
def OP.D : OP → Type
  | .box ps => CPs.D ps
  | .row cs _ => List (Tup cs)
  | .map _ cs => List (ByteArray × Tup cs)
  | .none => Unit
def OP.mk : (p : OP) → p.D → Option Obj
  | .box ps, d => some (.box (CPs.mk ps d))
  | .row cs o, l => some (.row cs l o)
  | .map ag cs, es => some (.map ag cs es)
  | .none, _ => Option.none
def castE (cs cs' : Shs) (l : List (ByteArray × Tup cs)) : Option (List (ByteArray × Tup cs')) := if h : cs = cs' then some (h ▸ l) else Option.none
theorem castE_ok {cs cs' : Shs} {l : List (ByteArray × Tup cs)} {l' : List (ByteArray × Tup cs')} (hc : castE cs cs' l = some l') : ∃ e : cs = cs', l' = e ▸ l := by
  unfold castE at hc
  split at hc
  · rename_i e; exact ⟨e, (Option.some.inj hc).symm⟩
  · cases hc
def getBox (ps : List CP) : Option Obj → Option (CPs.D ps)
  | some (.box cs) => CPs.get ps cs
  | _ => Option.none
def getOwn (cs : Shs) : Option Obj → Option (List (Tup cs))
  | some (.row cs' l .own) => castL cs' cs l
  | _ => Option.none
def getImm (cs : Shs) : Option Obj → Option (List (Tup cs))
  | some (.row cs' l .imm) => castL cs' cs l
  | _ => Option.none
def getMap (ag : Bool) (cs : Shs) : Option Obj → Option (List (ByteArray × Tup cs))
  | some (.map ag' cs' es) => if ag = ag' then castE cs' cs es else Option.none
  | _ => Option.none
def OP.get : (p : OP) → Option Obj → Option p.D
  | .box ps, o => getBox ps o
  | .row cs .own, o => getOwn cs o
  | .row cs .imm, o => getImm cs o
  | .map ag cs, o => getMap ag cs o
  | .none, o => okU o.isNone
theorem OP.get_ok : {p : OP} → {o : Option Obj} → {d : p.D} → p.get o = some d → (p.mk d = Option.none ∧ o = Option.none) ∨ ∃ o1 o2, o = some o1 ∧ p.mk d = some o2 ∧ owned o2 = owned o1 ∧ ∀ w I ρ x, Ro w I ρ x o1 → Ro w I ρ x o2
  | .box ps, o, d, h => by
    simp only [OP.get, getBox] at h
    split at h
    · exact .inr ⟨_, _, rfl, rfl, rfl, fun w I ρ x ⟨hr, c, T, fz, h1, h2, h3, h4⟩ => ⟨hr, c, T, fz, h1, h2, h3, CPs.get_ok h h4⟩⟩
    · cases h
  | .row cs .own, o, d, h => by
    simp only [OP.get, getOwn] at h
    split at h
    · obtain ⟨e, h2⟩ := castL_ok (l' := d) h; subst e; subst h2; exact .inr ⟨_, _, rfl, rfl, rfl, fun _ _ _ _ h => h⟩
    · cases h
  | .row cs .imm, o, d, h => by
    simp only [OP.get, getImm] at h
    split at h
    · obtain ⟨e, h2⟩ := castL_ok (l' := d) h; subst e; subst h2; exact .inr ⟨_, _, rfl, rfl, rfl, fun _ _ _ _ h => h⟩
    · cases h
  | .map ag cs, o, d, h => by
    simp only [OP.get, getMap] at h
    split at h
    · split at h
      · rename_i e
        subst e
        obtain ⟨e, h2⟩ := castE_ok (l' := d) h
        subst e
        subst h2
        exact .inr ⟨_, _, rfl, rfl, rfl, fun _ _ _ _ h => h⟩
      · cases h
    · cases h
  | .none, o, d, h => by
    have := okU_ok h
    cases o with
    | none => exact .inl ⟨rfl, rfl⟩
    | some _ => cases this

def OPs.D : List OP → Type
  | [] => Unit
  | p :: r => p.D × OPs.D r
def OPs.mk : (ps : List OP) → OPs.D ps → Heap
  | [], _ => []
  | p :: r, d => p.mk d.1 :: OPs.mk r d.2
def OPs.get : (ps : List OP) → Heap → Option (OPs.D ps)
  | [], [] => some ()
  | p :: r, c :: cs => match p.get c, OPs.get r cs with
    | some a, some b => some (a, b)
    | _, _ => none
  | _, _ => none
theorem OPs.get_ok : {ps : List OP} → {h : Heap} → {d : OPs.D ps} → OPs.get ps h = some d → (OPs.mk ps d).length = h.length ∧
    ∀ i o2, (OPs.mk ps d).at? i = some o2 → ∃ o1, h.at? i = some o1 ∧ owned o2 = owned o1 ∧ ∀ w I ρ x, Ro w I ρ x o1 → Ro w I ρ x o2
  | [], [], _, _ => ⟨rfl, fun i o h => by simp [OPs.mk, Heap.at?] at h⟩
  | [], _ :: _, _, h => by simp [OPs.get] at h
  | _ :: _, [], _, h => by simp [OPs.get] at h
  | p :: r, c :: cs, d, h => by
    simp only [OPs.get] at h
    split at h
    · rename_i x y h1 h2
      cases h
      obtain ⟨k1, k2⟩ := OPs.get_ok h2
      refine ⟨by simp [OPs.mk, k1], fun i o2 ho => ?_⟩
      cases i with
      | zero =>
        simp only [OPs.mk, Heap.at?, List.getElem?_cons_zero, Option.join_some] at ho ⊢
        rcases OP.get_ok h1 with ⟨q1, q2⟩ | ⟨o1, o2', q1, q2, q3, q4⟩
        · rw [q1] at ho; cases ho
        · rw [q2] at ho; cases ho
          exact ⟨o1, q1, q3, q4⟩
      | succ i =>
        simp only [OPs.mk, Heap.at?, List.getElem?_cons_succ] at ho ⊢
        exact k2 i o2 ho
    · cases h

/-- A state's shape. -/
structure SP where
  tm : List (Nat × VP)
  hp : List OP
def TPs.D : List (Nat × VP) → Type
  | [] => Unit
  | p :: r => p.2.D × TPs.D r
def TPs.mk : (ps : List (Nat × VP)) → TPs.D ps → List (Nat × V)
  | [], _ => []
  | p :: r, d => (p.1, p.2.mk d.1) :: TPs.mk r d.2
noncomputable def TPs.get (tm : List (Nat × V)) : (ps : List (Nat × VP)) → Option (TPs.D ps)
  | [] => some ()
  | p :: r => match p.2.get (tget tm p.1), TPs.get tm r with
    | some a, some b => some (a, b)
    | _, _ => none
theorem TPs.get_ok {tm : List (Nat × V)} : {ps : List (Nat × VP)} → {d : TPs.D ps} → TPs.get tm ps = some d → ∀ t v, Rv w I ρ (tget tm t) v → Rv w I ρ (tget (TPs.mk ps d) t) v
  | [], _, _, _, _, _ => trivial
  | p :: r, d, h, t, v, hv => by
    simp only [TPs.get] at h
    split at h
    · rename_i x y h1 h2
      cases h
      simp only [TPs.mk, tget_cons]
      cases hb : Nat.beq p.1 t with
      | true =>
        have := Nat.eq_of_beq_eq_true hb
        rw [← this] at hv
        exact VP.get_ok h1 hv
      | false => exact TPs.get_ok h2 t v hv
    · cases h
def SP.D (p : SP) : Type := TPs.D p.tm × OPs.D p.hp
def SP.mk' (p : SP) (d : p.D) : St := { tm := TPs.mk p.tm d.1, hp := OPs.mk p.hp d.2 }
noncomputable def SP.get (p : SP) (s : St) : Option p.D := match TPs.get s.tm p.tm, OPs.get p.hp s.hp with
  | some a, some b => some (a, b)
  | _, _ => none

theorem SP.rel {p : SP} {s : St} {d : p.D} (h : p.get s = some d) (hR : RelS n s ρ I a w) : RelS n (p.mk' d) ρ I a w ∧ ∀ base, ExtB base s.hp.at? ρ I w (p.mk' d).hp.at? ρ I w := by
  unfold SP.get at h
  split at h
  · rename_i x y h1 h2
    cases h
    obtain ⟨k1, k2⟩ := OPs.get_ok h2
    refine ⟨⟨⟨?_, hR.rel.defers, hR.rel.size, fun t => TPs.get_ok h1 t _ (hR.rel.tm t)⟩, fun id z hz => ?_⟩, fun base => ExtB.swap fun i o' ho => ?_⟩
    · refine hR.rel.heap.swap fun i o' ho => ?_
      obtain ⟨o, q1, q2, q3⟩ := k2 i o' ho
      exact ⟨o, q1, q2, fun z _ hz => q3 _ _ _ _ hz⟩
    · have := hR.dom id z hz
      simp only [SP.mk']
      omega
    · obtain ⟨o, q1, q2, _⟩ := k2 i o' ho
      exact ⟨o, q1, q2⟩
  · cases h

theorem Goes.fits {base : Nat} {c : Code} {p : SP} {s : St} {d : p.D} {r : Ex × St} (h : p.get s = some d) (hg : Goes P n base c (p.mk' d) r) : Goes P n base c s r := by
  intro a w ρ I hR Q hQ
  obtain ⟨h1, h2⟩ := SP.rel h hR
  exact hg a w ρ I h1 Q fun a' w' ρ' I' q1 q2 => hQ a' w' ρ' I' ((h2 base).trans q1) q2

/-- the answer, said otherwise -/
theorem Goes.mono {base : Nat} {c : Code} {p : SP} {s : St} {e : Ex} {s' : St} {d : p.D} (hg : Goes P n base c s (e, s')) (h : p.get s' = some d) : Goes P n base c s (e, p.mk' d) := by
  intro a w ρ I hR Q hQ
  refine hg a w ρ I hR Q fun a' w' ρ' I' q1 q2 => ?_
  obtain ⟨h1, h2⟩ := SP.rel h q2
  exact hQ a' w' ρ' I' (q1.trans (h2 base)) h1

theorem lpOk_fuel {X : Ctx} (fuel : Nat) : (c : Code) → lpOk X n c → lpOk { X with fuel := fuel } n c
  | .seq a b, h => ⟨lpOk_fuel fuel a h.1, lpOk_fuel fuel b h.2⟩
  | .cond _ a b, h => ⟨lpOk_fuel fuel a h.1, lpOk_fuel fuel b h.2⟩
  | .block id b, h => ⟨h.1, lpOk_fuel fuel b h.2⟩
  | .loop b, h => lpOk_fuel (X := X) fuel b h
  | .skip, _ | .region .., _ | .rangeFunc .., _ | .exit _, _ | .scope _, _ | .label _, _ | .goto _, _ | .ret, _ | .refuse _, _ => trivial

def outOf (id : Nat) : Ex → Ex
  | .exit i => bif Nat.beq i id then .norm else .exit i
  | e => e
/-- A loop, round by round. -/
theorem loop_goes {X : Ctx} (hmix : X.P.follows .mixedOrders = true) (hE : EnvOk X.P X.E) {id : Nat} {b : Code} (hc : codeOk n b = true) (hl : lpOk X n b) {s s' : St} {e : Ex} (fuel : Nat) (h : (iter (evCode X b) fuel s).run = some (e, s')) :
    Goes X.P n X.base (.block id (.loop b)) s (outOf id e, s') := by
  have step := evCode_ok hmix hE b hc hl
  have hloop : ∀ (a : Act) (w : World) (ρ : Rho) (I : Nat → Prop), RelS n s ρ I a w → ∀ Q : Exit → Act → World → Prop, (∀ a' w' ρ' I', ExtB X.base s.hp.at? ρ I w s'.hp.at? ρ' I' w' → RelS n s' ρ' I' a' w' → Q (exitOf e) a' w') → (Code.loop b).wp X.P Q a w := by
    intro a w ρ I hR Q hQ
    refine wp_loop_ind (fun k a' w' => ∃ s1 ρ' I', ExtB X.base s.hp.at? ρ I w s1.hp.at? ρ' I' w' ∧ RelS n s1 ρ' I' a' w' ∧ (iter (evCode X b) k s1).run = some (e, s')) fuel ⟨s, ρ, I, ExtB.refl _ _ _ _ _, hR, h⟩ fun k a' w' hJ => ?_
    obtain ⟨s1, ρ', I', q1, q2, q3⟩ := hJ
    cases k with
    | zero => exact (fail_run q3).elim
    | succ k =>
      refine ⟨k, rfl, ?_⟩
      simp only [iter] at q3
      obtain ⟨⟨e1, s2⟩, h1, h2⟩ := bind_run q3
      refine step s1 _ h1 a' w' ρ' I' q2 _ fun a'' w'' ρ'' I'' q4 q5 => ?_
      cases e1 with
      | norm => exact ⟨s2, ρ'', I'', q1.trans q4, q5, h2⟩
      | exit id => cases leaf_run h2; exact hQ a'' w'' ρ'' I'' (q1.trans q4) q5
      | ret => cases leaf_run h2; exact hQ a'' w'' ρ'' I'' (q1.trans q4) q5
  intro a w ρ I hR Q hQ
  refine wp_block (hloop a w ρ I hR _ fun a' w' ρ' I' q1 q2 => ?_)
  cases e with
  | norm => exact hQ a' w' ρ' I' q1 q2
  | ret => exact hQ a' w' ρ' I' q1 q2
  | exit i =>
    show Exit.inBlock id Q (.exit i) a' w'
    unfold Exit.inBlock
    cases hb : Nat.beq i id with
    | true =>
      simp only [outOf, hb, cond_true] at hQ
      simp only [Nat.eq_of_beq_eq_true hb, if_true]
      exact hQ a' w' ρ' I' q1 q2
    | false =>
      simp only [outOf, hb, cond_false] at hQ
      have : i ≠ id := fun e => by rw [e, Nat.beq_refl] at hb; cases hb
      simp only [this, if_false]
      exact hQ a' w' ρ' I' q1 q2
end
end Go.Eng
