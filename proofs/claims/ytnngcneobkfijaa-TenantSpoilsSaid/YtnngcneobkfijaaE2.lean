/- The engine, part 2: what an abstract state says of a world, and what goes on holding when the world goes on. -/
import Derived.Test.YtnngcneobkfijaaE1
namespace Go.Eng

abbrev asL (cs : Shs) (l : Dat (.lst cs)) : List (Tup cs) := l

mutual
def Rd (w : World) (I : Nat → Prop) : (s : Sh) → Dat s → Value → Prop
  | .bool, b, v => v = .bool b
  | .int k, n, v => v = .int k n
  | .str, s, v => v = .string s
  | .lst cs, l, v => ∃ a cap, v = .slice a (asL cs l).length cap ∧ (asL cs l).length ≤ cap ∧ (a = none → (asL cs l).length = 0) ∧
      ∀ ad : Addr, a = some ad → (asL cs l).length ≠ 0 → ad.spot = none ∧ I ad.block ∧ ∀ i t, (asL cs l)[i]? = some t → Rt w I cs t ad.block (ad.off + i * cs.len)
def Rt (w : World) (I : Nat → Prop) : (cs : Shs) → Tup cs → Nat → Nat → Prop
  | .nil, _, _, _ => True
  | .cons s r, t, b, off => (∃ v, w.cell? ⟨b, off, none⟩ = some v ∧ Rd w I s t.1 v) ∧ Rt w I r t.2 b (off + 1)
end

/-- A label's place in memory: its block, the block's cells, the row's elements, an element's cells; is there a block at all? -/
structure Blk where
  b : Nat
  m : Nat
  len : Nat
  sz : Nat
  real : Bool

abbrev Rho := Nat → Option Blk

def Rcaps (ρ : Rho) : List (Nat × Nat) → List Value → Prop
  | [], [] => True
  | c :: cs, v :: vs => (∃ x, ρ c.1 = some x ∧ x.real = true ∧ v = .pointer (some ⟨x.b, c.2, none⟩)) ∧ Rcaps ρ cs vs
  | _, _ => False

/-- A slice's address, where there is one: at so many cells into a label's block. -/
def SlAt (x : Blk) (at0 cap : Nat) (a : Option Addr) : Prop :=
  (a = none → cap = 0) ∧ ∀ ad, a = some ad → cap = 0 ∨ (x.real = true ∧ ad = ⟨x.b, at0, none⟩ ∧ at0 + cap * x.sz ≤ x.m)

def Rc (w : World) (I : Nat → Prop) (ρ : Rho) : C → Value → Prop
  | .any, _ => True
  | .undef, v => v = Go.undef
  | .tt, v => v = .bool true
  | .ff, v => v = .bool false
  | .sb b, v => v = .bool b
  | .lit k n, v => v = .int k n
  | .int k n, v => v = .int k n
  | .str s, v => v = .string s
  | .lst cs l, v => Rd w I (.lst cs) l v
  | .dl cs l nl, v => Rd w I (.lst cs) l v ∧ ∃ a n cap, v = .slice a n cap ∧ a.isNone = nl
  | .nilsl, v => v = .slice none 0 0
  | .nilptr, v => v = .pointer none
  | .nilmap, v => v = .map none
  | .nilfn, v => v = .nilFunc
  | .ref id off, v => ∃ x, ρ id = some x ∧ x.real = true ∧ v = .pointer (some ⟨x.b, off, none⟩)
  | .rw id sz _, v => ∃ x a cap, ρ id = some x ∧ x.sz = sz ∧ v = .slice a x.len cap ∧ x.len ≤ cap ∧ SlAt x 0 cap a
  | .sl id sz off len, v => ∃ x a cap, ρ id = some x ∧ x.sz = sz ∧ v = .slice a len cap ∧ len ≤ cap ∧ off + len ≤ x.len ∧ SlAt x (off * sz) cap a
  | .rref id e j, v => ∃ x, ρ id = some x ∧ x.real = true ∧ v = .pointer (some ⟨x.b, e * x.sz + j, none⟩)
  | .lref cs l e j, v => ∃ b off, v = .pointer (some ⟨b, off + e * cs.len + j, none⟩) ∧ I b ∧ ∀ i t, l[i]? = some t → Rt w I cs t b (off + i * cs.len)
  | .mp id, v => ∃ x, ρ id = some x ∧ x.real = true ∧ v = .map (some x.b)
  | .fn k caps, v => ∃ vs, v = .func (.func k) #[] vs ∧ Rcaps ρ caps vs.toList

def Rcs (w : World) (I : Nat → Prop) (ρ : Rho) : List C → List Value → Prop
  | [], [] => True
  | c :: cs, v :: vs => Rc w I ρ c v ∧ Rcs w I ρ cs vs
  | _, _ => False

def Rw (w : World) (I : Nat → Prop) (ρ : Rho) : W → Value → Prop
  | .c x, v => Rc w I ρ x v
  | .agg cs, v => ∃ vs, v = .agg vs ∧ Rcs w I ρ cs vs.toList
def Rws (w : World) (I : Nat → Prop) (ρ : Rho) : List W → List Value → Prop
  | [], [] => True
  | c :: cs, v :: vs => Rw w I ρ c v ∧ Rws w I ρ cs vs
  | _, _ => False
def Rv (w : World) (I : Nat → Prop) (ρ : Rho) : V → Value → Prop
  | .c x, v => Rc w I ρ x v
  | .agg cs, v => ∃ vs, v = .agg vs ∧ Rcs w I ρ cs vs.toList
  | .tup ws, v => ∃ vs, v = .tuple vs ∧ Rws w I ρ ws vs.toList
def Rvs (w : World) (I : Nat → Prop) (ρ : Rho) : List V → List Value → Prop
  | [], [] => True
  | c :: cs, v :: vs => Rv w I ρ c v ∧ Rvs w I ρ cs vs
  | _, _ => False

/-- cells of data, held as one value -/
def Rtv (w : World) (I : Nat → Prop) (agg : Bool) (cs : Shs) (t : Tup cs) (v : Value) : Prop :=
  match agg with
  | true => ∃ vs, v = .agg vs ∧ Rcs w I (fun _ => none) (cellsT cs t) vs.toList
  | false => Rcs w I (fun _ => none) (cellsT cs t) [v]
def Rents (w : World) (I : Nat → Prop) (agg : Bool) (cs : Shs) : List (ByteArray × Tup cs) → List MapEntry → Prop
  | [], [] => True
  | x :: xs, e :: es => e.key = .string x.1 ∧ Rtv w I agg cs x.2 e.val ∧ Rents w I agg cs xs es
  | _, _ => False
def Unfrozen (fz : Nat × Nat) (n : Nat) : Prop := ∀ off, off < n → ¬ (fz.1 ≤ off ∧ off < fz.2)

def Ro (w : World) (I : Nat → Prop) (ρ : Rho) (x : Blk) : Obj → Prop
  | .box cs => x.real = true ∧ ∃ c T fz, w.heap[x.b]? = some (.cells c T fz) ∧ x.m = c.size ∧ Unfrozen fz c.size ∧ Rcs w I ρ cs c.toList
  | .row cs l o => x.len = List.length l ∧ x.sz = cs.len ∧ (x.real = false → List.length l = 0) ∧
      (x.real = true → ∃ c T fz, w.heap[x.b]? = some (.cells c T fz) ∧ x.m = c.size ∧ List.length l * cs.len ≤ c.size ∧
        (∀ i t, l[i]? = some t → Rt w I cs t x.b (i * cs.len)) ∧ (o = .own → Unfrozen fz c.size) ∧ (o = .imm → I x.b))
  | .map agg cs es => x.real = true ∧ ∃ ents clock, w.heap[x.b]? = some (.map ents clock) ∧ Rents w I agg cs es ents.toList ∧
      (∀ e ∈ ents.toList, e.born < clock) ∧ (ents.toList.map (·.born)).Pairwise (· < ·)

def owned : Obj → Bool
  | .row _ _ .imm => false
  | _ => true

structure Vw where
  tm : Nat → V
  ob : Nat → Option Obj

def ActB (ob : Nat → Option Obj) (ρ : Rho) (b : Nat) : Prop :=
  ∃ id o x, ob id = some o ∧ owned o = true ∧ ρ id = some x ∧ x.real = true ∧ x.b = b

structure RelH (ob : Nat → Option Obj) (ρ : Rho) (I : Nat → Prop) (w : World) : Prop where
  obj : ∀ id o, ob id = some o → ∃ x, ρ id = some x ∧ Ro w I ρ x o
  blk : ∀ id x, ρ id = some x → x.real = true → x.b < w.heap.size
  disj : ∀ id id' o o' x x', ob id = some o → ob id' = some o' → owned o = true → owned o' = true → id ≠ id' → ρ id = some x → ρ id' = some x' → x.real = true → x'.real = true → x.b ≠ x'.b
  actI : ∀ id o x, ob id = some o → owned o = true → ρ id = some x → x.real = true → ¬ I x.b
  immB : ∀ b, I b → b < w.heap.size

theorem RelH.apart {ob : Nat → Option Obj} {ρ : Rho} {I : Nat → Prop} {w : World} (h : RelH ob ρ I w) (id id' : Nat) (o o' : Obj) (x x' : Blk) (h1 : ob id = some o) (h2 : ob id' = some o') (h3 : owned o' = true) (h4 : id ≠ id') (h5 : ρ id = some x) (h6 : ρ id' = some x') (h7 : x.real = true) (h8 : x'.real = true) : x.b ≠ x'.b := by
  cases ho : owned o with
  | true => exact h.disj id id' o o' x x' h1 h2 ho h3 h4 h5 h6 h7 h8
  | false =>
    obtain ⟨y, hy, hro⟩ := h.obj id o h1
    rw [h5] at hy; cases hy
    match o, ho, hro with
    | .row cs l .imm, _, ⟨_, _, _, k⟩ =>
      obtain ⟨c, T, fz, _, _, _, _, _, hi⟩ := k h7
      exact fun e => h.actI id' o' x' h2 h3 h6 h8 (e ▸ hi rfl)

structure RelF (n : Nat) (f : Vw) (ρ : Rho) (I : Nat → Prop) (a : Act) (w : World) : Prop where
  heap : RelH f.ob ρ I w
  defers : a.defers = []
  size : a.tmps.size = n
  tm : ∀ t, Rv w I ρ (f.tm t) (a.tmps.getD t Go.undef)

structure Ext (ob : Nat → Option Obj) (ρ : Rho) (I : Nat → Prop) (w : World) (ob' : Nat → Option Obj) (ρ' : Rho) (I' : Nat → Prop) (w' : World) : Prop where
  os : w'.os = w.os
  tape : w'.tape = w.tape
  output : w'.output = w.output
  size : w.heap.size ≤ w'.heap.size
  rho : ∀ id x, ρ id = some x → ρ' id = some x
  imm : ∀ b, I b → I' b
  immNew : ∀ b, b < w.heap.size → I' b → I b ∨ ActB ob ρ b
  act : ∀ b, b < w.heap.size → ActB ob' ρ' b → ActB ob ρ b
  frame : ∀ b, b < w.heap.size → ¬ ActB ob ρ b → w'.heap[b]? = w.heap[b]?

theorem Ext.refl (ob : Nat → Option Obj) (ρ : Rho) (I : Nat → Prop) (w : World) : Ext ob ρ I w ob ρ I w :=
  ⟨rfl, rfl, rfl, Nat.le_refl _, fun _ _ h => h, fun _ h => h, fun _ _ h => .inl h, fun _ _ h => h, fun _ _ _ => rfl⟩

theorem Ext.trans {ob0 ob1 ob2 : Nat → Option Obj} {ρ0 ρ1 ρ2 : Rho} {I0 I1 I2 : Nat → Prop} {w0 w1 w2 : World}
    (h : Ext ob0 ρ0 I0 w0 ob1 ρ1 I1 w1) (k : Ext ob1 ρ1 I1 w1 ob2 ρ2 I2 w2) : Ext ob0 ρ0 I0 w0 ob2 ρ2 I2 w2 := {
  os := k.os.trans h.os
  tape := k.tape.trans h.tape
  output := k.output.trans h.output
  size := Nat.le_trans h.size k.size
  rho := fun id x hx => k.rho id x (h.rho id x hx)
  imm := fun b hb => k.imm b (h.imm b hb)
  immNew := fun b hb hi => by
    rcases k.immNew b (Nat.lt_of_lt_of_le hb h.size) hi with h1 | h1
    · exact h.immNew b hb h1
    · exact .inr (h.act b hb h1)
  act := fun b hb ha => h.act b hb (k.act b (Nat.lt_of_lt_of_le hb h.size) ha)
  frame := fun b hb ha => (k.frame b (Nat.lt_of_lt_of_le hb h.size) fun h1 => ha (h.act b hb h1)).trans (h.frame b hb ha) }

theorem cell?_of_heap {w w' : World} {b : Nat} (h : w'.heap[b]? = w.heap[b]?) (off : Nat) : w'.cell? ⟨b, off, none⟩ = w.cell? ⟨b, off, none⟩ := by
  simp only [World.cell?, h]

/- what is known of immutable blocks goes on holding -/
mutual
theorem Rd.mono {w w' : World} {I I' : Nat → Prop} (hI : ∀ b, I b → I' b) (hw : ∀ b, I b → w'.heap[b]? = w.heap[b]?) :
    (s : Sh) → (x : Dat s) → (v : Value) → Rd w I s x v → Rd w' I' s x v
  | .bool, _, _, h => by simpa only [Rd] using h
  | .int _, _, _, h => by simpa only [Rd] using h
  | .str, _, _, h => by simpa only [Rd] using h
  | .lst cs, l, v, h => by
    simp only [Rd] at h ⊢
    obtain ⟨a, cap, h1, h2, h3, h4⟩ := h
    refine ⟨a, cap, h1, h2, h3, fun ad ha hl => ?_⟩
    obtain ⟨k1, k2, k3⟩ := h4 ad ha hl
    exact ⟨k1, hI _ k2, fun i t hi => Rt.mono hI hw cs _ _ _ k2 (k3 i t hi)⟩
theorem Rt.mono {w w' : World} {I I' : Nat → Prop} (hI : ∀ b, I b → I' b) (hw : ∀ b, I b → w'.heap[b]? = w.heap[b]?) :
    (cs : Shs) → (t : Tup cs) → (b off : Nat) → I b → Rt w I cs t b off → Rt w' I' cs t b off
  | .nil, _, _, _, _, _ => trivial
  | .cons s r, t, b, off, hb, h => by
    simp only [Rt] at h ⊢
    obtain ⟨⟨v, h1, h2⟩, h3⟩ := h
    exact ⟨⟨v, by rw [cell?_of_heap (hw b hb)]; exact h1, Rd.mono hI hw s _ _ h2⟩, Rt.mono hI hw r _ _ _ hb h3⟩
end

/-- the same, of a block that may not be immutable, but is as it was -/
theorem Rt.mono' {w w' : World} {I I' : Nat → Prop} (hI : ∀ b, I b → I' b) (hw : ∀ b, I b → w'.heap[b]? = w.heap[b]?) :
    (cs : Shs) → (t : Tup cs) → (b off : Nat) → (w'.heap[b]? = w.heap[b]?) → Rt w I cs t b off → Rt w' I' cs t b off
  | .nil, _, _, _, _, _ => trivial
  | .cons s r, t, b, off, hb, h => by
    simp only [Rt] at h ⊢
    obtain ⟨⟨v, h1, h2⟩, h3⟩ := h
    exact ⟨⟨v, by rw [cell?_of_heap hb]; exact h1, Rd.mono hI hw s _ _ h2⟩, Rt.mono' hI hw r _ _ _ hb h3⟩

theorem Rcaps.mono {ρ ρ' : Rho} (hρ : ∀ id x, ρ id = some x → ρ' id = some x) : (cs : List (Nat × Nat)) → (vs : List Value) → Rcaps ρ cs vs → Rcaps ρ' cs vs
  | [], [], _ => trivial
  | [], _ :: _, h => h.elim
  | _ :: _, [], h => h.elim
  | _ :: cs, _ :: vs, ⟨⟨x, h1, h2, h3⟩, h4⟩ => ⟨⟨x, hρ _ _ h1, h2, h3⟩, Rcaps.mono hρ cs vs h4⟩

theorem Rc.mono {w w' : World} {I I' : Nat → Prop} {ρ ρ' : Rho} (hI : ∀ b, I b → I' b) (hw : ∀ b, I b → w'.heap[b]? = w.heap[b]?)
    (hρ : ∀ id x, ρ id = some x → ρ' id = some x) {c : C} {v : Value} (h : Rc w I ρ c v) : Rc w' I' ρ' c v := by
  cases c with
  | lst cs l => exact Rd.mono hI hw _ _ _ h
  | dl cs l nl => exact ⟨Rd.mono hI hw _ _ _ h.1, h.2⟩
  | ref id off => obtain ⟨x, h1, h2⟩ := h; exact ⟨x, hρ _ _ h1, h2⟩
  | rw id sz k => obtain ⟨x, a, cap, h1, h2⟩ := h; exact ⟨x, a, cap, hρ _ _ h1, h2⟩
  | sl id sz off len => obtain ⟨x, a, cap, h1, h2⟩ := h; exact ⟨x, a, cap, hρ _ _ h1, h2⟩
  | rref id e j => obtain ⟨x, h1, h2⟩ := h; exact ⟨x, hρ _ _ h1, h2⟩
  | lref cs l e j => obtain ⟨b, off, h1, h2, h3⟩ := h; exact ⟨b, off, h1, hI _ h2, fun i t hi => Rt.mono hI hw cs _ _ _ h2 (h3 i t hi)⟩
  | mp id => obtain ⟨x, h1, h2⟩ := h; exact ⟨x, hρ _ _ h1, h2⟩
  | fn k caps => obtain ⟨vs, h1, h2⟩ := h; exact ⟨vs, h1, Rcaps.mono hρ _ _ h2⟩
  | _ => exact h

theorem Rcs.mono {w w' : World} {I I' : Nat → Prop} {ρ ρ' : Rho} (hI : ∀ b, I b → I' b) (hw : ∀ b, I b → w'.heap[b]? = w.heap[b]?)
    (hρ : ∀ id x, ρ id = some x → ρ' id = some x) : {cs : List C} → {vs : List Value} → Rcs w I ρ cs vs → Rcs w' I' ρ' cs vs
  | [], [], _ => trivial
  | [], _ :: _, h => h.elim
  | _ :: _, [], h => h.elim
  | _ :: _, _ :: _, ⟨h1, h2⟩ => ⟨h1.mono hI hw hρ, Rcs.mono hI hw hρ h2⟩

theorem Rw.mono {w w' : World} {I I' : Nat → Prop} {ρ ρ' : Rho} (hI : ∀ b, I b → I' b) (hw : ∀ b, I b → w'.heap[b]? = w.heap[b]?)
    (hρ : ∀ id x, ρ id = some x → ρ' id = some x) : {c : W} → {v : Value} → Rw w I ρ c v → Rw w' I' ρ' c v
  | .c _, _, h => Rc.mono hI hw hρ h
  | .agg _, _, ⟨vs, h1, h2⟩ => ⟨vs, h1, Rcs.mono hI hw hρ h2⟩
theorem Rws.mono {w w' : World} {I I' : Nat → Prop} {ρ ρ' : Rho} (hI : ∀ b, I b → I' b) (hw : ∀ b, I b → w'.heap[b]? = w.heap[b]?)
    (hρ : ∀ id x, ρ id = some x → ρ' id = some x) : {cs : List W} → {vs : List Value} → Rws w I ρ cs vs → Rws w' I' ρ' cs vs
  | [], [], _ => trivial
  | [], _ :: _, h => h.elim
  | _ :: _, [], h => h.elim
  | _ :: _, _ :: _, ⟨h1, h2⟩ => ⟨h1.mono hI hw hρ, Rws.mono hI hw hρ h2⟩
theorem Rv.mono {w w' : World} {I I' : Nat → Prop} {ρ ρ' : Rho} (hI : ∀ b, I b → I' b) (hw : ∀ b, I b → w'.heap[b]? = w.heap[b]?)
    (hρ : ∀ id x, ρ id = some x → ρ' id = some x) : {c : V} → {v : Value} → Rv w I ρ c v → Rv w' I' ρ' c v
  | .c _, _, h => Rc.mono hI hw hρ h
  | .agg _, _, ⟨vs, h1, h2⟩ => ⟨vs, h1, Rcs.mono hI hw hρ h2⟩
  | .tup _, _, ⟨vs, h1, h2⟩ => ⟨vs, h1, Rws.mono hI hw hρ h2⟩
theorem Rvs.mono {w w' : World} {I I' : Nat → Prop} {ρ ρ' : Rho} (hI : ∀ b, I b → I' b) (hw : ∀ b, I b → w'.heap[b]? = w.heap[b]?)
    (hρ : ∀ id x, ρ id = some x → ρ' id = some x) : {cs : List V} → {vs : List Value} → Rvs w I ρ cs vs → Rvs w' I' ρ' cs vs
  | [], [], _ => trivial
  | [], _ :: _, h => h.elim
  | _ :: _, [], h => h.elim
  | _ :: _, _ :: _, ⟨h1, h2⟩ => ⟨h1.mono hI hw hρ, Rvs.mono hI hw hρ h2⟩

theorem Rtv.mono {w w' : World} {I I' : Nat → Prop} {agg : Bool} {cs : Shs} {t : Tup cs} {v : Value} (hI : ∀ b, I b → I' b) (hw : ∀ b, I b → w'.heap[b]? = w.heap[b]?)
    (h : Rtv w I agg cs t v) : Rtv w' I' agg cs t v := by
  cases agg with
  | true => obtain ⟨vs, h1, h2⟩ := h; exact ⟨vs, h1, h2.mono hI hw fun _ _ h => h⟩
  | false => exact Rcs.mono hI hw (fun _ _ h => h) h
theorem Rents.mono {w w' : World} {I I' : Nat → Prop} {agg : Bool} {cs : Shs} (hI : ∀ b, I b → I' b) (hw : ∀ b, I b → w'.heap[b]? = w.heap[b]?) :
    {xs : List (ByteArray × Tup cs)} → {es : List MapEntry} → Rents w I agg cs xs es → Rents w' I' agg cs xs es
  | [], [], _ => trivial
  | [], _ :: _, h => h.elim
  | _ :: _, [], h => h.elim
  | _ :: _, _ :: _, ⟨h1, h2, h3⟩ => ⟨h1, h2.mono hI hw, Rents.mono hI hw h3⟩

theorem Ro.mono {w w' : World} {I I' : Nat → Prop} {ρ ρ' : Rho} {x : Blk} (hI : ∀ b, I b → I' b) (hw : ∀ b, I b → w'.heap[b]? = w.heap[b]?)
    (hρ : ∀ id x, ρ id = some x → ρ' id = some x) (hb : x.real = true → w'.heap[x.b]? = w.heap[x.b]?) {o : Obj} (h : Ro w I ρ x o) : Ro w' I' ρ' x o := by
  cases o with
  | box cs => obtain ⟨hr, c, T, fz, h1, h2, h3, h4⟩ := h; exact ⟨hr, c, T, fz, (hb hr).trans h1, h2, h3, h4.mono hI hw hρ⟩
  | row cs l o =>
    obtain ⟨h1, h2, h3, h4⟩ := h
    refine ⟨h1, h2, h3, fun hr => ?_⟩
    obtain ⟨c, T, fz, k1, k2, k3, k4, k5, k6⟩ := h4 hr
    exact ⟨c, T, fz, (hb hr).trans k1, k2, k3, fun i t hi => Rt.mono' hI hw cs _ _ _ (hb hr) (k4 i t hi), k5, fun ho => hI _ (k6 ho)⟩
  | map agg cs es => obtain ⟨hr, c, T, h1, h2, h3, h4⟩ := h; exact ⟨hr, c, T, (hb hr).trans h1, h2.mono hI hw, h3, h4⟩

/-- A heap's word goes on holding where no label's block has turned and none of the immutable. -/
theorem RelH.mono {ob : Nat → Option Obj} {ρ : Rho} {I : Nat → Prop} {w w' : World} (h : RelH ob ρ I w) (hs : w.heap.size ≤ w'.heap.size)
    (hw : ∀ b, b < w.heap.size → w'.heap[b]? = w.heap[b]?) : RelH ob ρ I w' := {
  obj := fun id o ho => by
    obtain ⟨x, h1, h2⟩ := h.obj id o ho
    exact ⟨x, h1, h2.mono (fun _ h => h) (fun b hb => hw b (h.immB b hb)) (fun _ _ h => h) fun hr => hw _ (h.blk id x h1 hr)⟩
  blk := fun id x hx hr => Nat.lt_of_lt_of_le (h.blk id x hx hr) hs
  disj := h.disj
  actI := h.actI
  immB := fun b hb => Nat.lt_of_lt_of_le (h.immB b hb) hs }

theorem RelH.sub {ob ob' : Nat → Option Obj} {ρ : Rho} {I : Nat → Prop} {w : World} (h : RelH ob ρ I w) (hs : ∀ id o, ob' id = some o → ob id = some o) : RelH ob' ρ I w := {
  obj := fun id o ho => h.obj id o (hs id o ho)
  blk := h.blk
  disj := fun id id' o o' x x' h1 h2 => h.disj id id' o o' x x' (hs _ _ h1) (hs _ _ h2)
  actI := fun id o x h1 => h.actI id o x (hs _ _ h1)
  immB := h.immB }

theorem Rv.any {w : World} {I : Nat → Prop} {ρ : Rho} {v : Value} : Rv w I ρ (.c .any) v := trivial

theorem RelF.put {n : Nat} {f : Vw} {ρ : Rho} {I : Nat → Prop} {a : Act} {w : World} (h : RelF n f ρ I a w) {d : Nat} (hd : d < n) {x : V} {v : Value} (hv : Rv w I ρ x v) :
    RelF n { f with tm := fun t => if t = d then x else f.tm t } ρ I (a.put (some d) v) w := {
  heap := h.heap
  defers := h.defers
  size := by simp [Act.put, h.size]
  tm := fun t => by
    by_cases e : t = d
    · subst e
      have : t < a.tmps.size := by rw [h.size]; exact hd
      simp [Act.put, Array.getD, this]
      exact hv
    · have := h.tm t
      simp only [e, if_false]
      have e' : ¬ d = t := fun h => e h.symm
      simpa [Act.put, Array.getD_eq_getD_getElem?, Array.getElem?_setIfInBounds, e'] using this }

end Go.Eng
