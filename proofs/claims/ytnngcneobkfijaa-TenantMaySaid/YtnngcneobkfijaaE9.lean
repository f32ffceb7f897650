/- The engine, part 9: data out of cells; building; new objects; stores. -/
import Derived.Test.YtnngcneobkfijaaE8
set_option linter.unusedSimpArgs false
set_option linter.unusedVariables false
namespace Go.Eng
section
variable {P : Program} {w : World} {I : Nat → Prop} {ρ : Rho} {ob : Nat → Option Obj} {h : Heap}

theorem castL_ok {cs cs' : Shs} {l : List (Tup cs)} {l' : List (Tup cs')} (hc : castL cs cs' l = some l') : ∃ e : cs = cs', l' = e ▸ l := by
  unfold castL at hc
  split at hc
  · rename_i e; exact ⟨e, (Option.some.inj hc).symm⟩
  · cases hc

theorem datB_ok {c : C} {x : Bool} (hd : datB c = some x) {v : Value} (hc : Rc w I ρ c v) : v = .bool x := by
  cases c <;> simp [datB] at hd <;> (subst hd; exact hc)
theorem datI_ok {k : IntKind} {c : C} {x : Int} (hd : datI k c = some x) {v : Value} (hc : Rc w I ρ c v) : v = .int k x := by
  cases c <;> simp [datI] at hd
  · obtain ⟨rfl, rfl⟩ := hd; exact hc
  · obtain ⟨rfl, rfl⟩ := hd; exact hc
theorem datS_ok {c : C} {x : ByteArray} (hd : datS c = some x) {v : Value} (hc : Rc w I ρ c v) : v = .string x := by
  cases c <;> simp [datS] at hd
  subst hd; exact hc
theorem datL_ok {cs : Shs} {c : C} {x : List (Tup cs)} (hd : datL cs c = some x) {v : Value} (hc : Rc w I ρ c v) : Rd w I (.lst cs) x v := by
  cases c <;> simp only [datL, reduceCtorEq, Option.some.injEq] at hd
  · obtain ⟨e, h2⟩ := castL_ok hd
    subst e
    subst h2
    exact hc
  · subst hd
    have e : v = .slice none 0 0 := hc
    subst e
    exact ⟨none, 0, rfl, Nat.le_refl _, fun _ => rfl, fun _ h => by cases h⟩
theorem datC_ok : {s : Sh} → {c : C} → {x : Dat s} → datC s c = some x → {v : Value} → Rc w I ρ c v → Rd w I s x v
  | .bool, _, _, hd, _, hc => datB_ok hd hc
  | .int _, _, _, hd, _, hc => datI_ok hd hc
  | .str, _, _, hd, _, hc => datS_ok hd hc
  | .lst _, _, _, hd, _, hc => datL_ok hd hc

theorem tupC_ok : {cs : Shs} → {xs : List C} → {t : Tup cs} → tupC cs xs = some t → {vs : List Value} → Rcs w I ρ xs vs → {b off : Nat} → (∀ j v, vs[j]? = some v → w.cell? ⟨b, off + j, none⟩ = some v) → Rt w I cs t b off
  | .nil, _, _, _, _, _, _, _, _ => trivial
  | .cons s r, [], _, h, _, _, _, _, _ => by simp [tupC] at h
  | .cons s r, x :: xs, t, h, [], hr, _, _, _ => hr.elim
  | .cons s r, x :: xs, t, h, v :: vs, ⟨h1, h2⟩, b, off, hc => by
    simp only [tupC] at h
    split at h
    · rename_i a c ha hb
      cases h
      refine ⟨⟨v, by simpa using hc 0 v rfl, datC_ok ha h1⟩, tupC_ok hb h2 fun j u hu => ?_⟩
      have := hc (j + 1) u (by simpa using hu)
      rwa [show off + 1 + j = off + (j + 1) by omega]
    · cases h

theorem tupC_length : {cs : Shs} → {xs : List C} → {t : Tup cs} → tupC cs xs = some t → xs.length = cs.len
  | .nil, [], _, _ => rfl
  | .nil, _ :: _, _, h => by simp [tupC] at h
  | .cons s r, [], _, h => by simp [tupC] at h
  | .cons s r, x :: xs, t, h => by
    simp only [tupC] at h
    split at h
    · rename_i hb; simp [Shs.len, tupC_length hb]
    · cases h

theorem tupsC_ok {cs : Shs} : {n : Nat} → {xs : List C} → {l : List (Tup cs)} → tupsC cs n xs = some l → {vs : List Value} → Rcs w I ρ xs vs → {b off : Nat} → (∀ j v, vs[j]? = some v → w.cell? ⟨b, off + j, none⟩ = some v) →
    l.length = n ∧ ∀ i t, l[i]? = some t → Rt w I cs t b (off + i * cs.len)
  | 0, xs, l, h, vs, hr, b, off, hc => by simp [tupsC] at h; subst h; simp
  | n + 1, xs, l, h, vs, hr, b, off, hc => by
    simp only [tupsC] at h
    split at h
    · rename_i t r h1 h2
      cases h
      have hl := tupC_length h1
      have k1 := tupC_ok h1 (Rcs_take cs.len hr) (b := b) (off := off) (fun j v hj => by
        rw [List.getElem?_take] at hj
        split at hj
        · exact hc j v hj
        · cases hj)
      obtain ⟨k2, k3⟩ := tupsC_ok h2 (Rcs_drop cs.len hr) (b := b) (off := off + cs.len) (fun j v hj => by
        rw [List.getElem?_drop] at hj
        have := hc _ v hj
        rwa [Nat.add_assoc])
      refine ⟨by simp [k2], fun i t' hi => ?_⟩
      cases i with
      | zero => simp at hi; subst hi; simpa using k1
      | succ i =>
        simp at hi
        have := k3 i t' hi
        rwa [show off + (i + 1) * cs.len = off + cs.len + i * cs.len by rw [Nat.add_mul]; omega]
    · cases h

/- values as cells -/
theorem sane_cells {x : V} {v : Value} (hs : x.sane = true) (hr : Rv w I ρ x v) : Rcs w I ρ x.cells v.cells.toList := by
  cases x with
  | c x =>
    have : v.cells = #[v] := by
      cases x <;> first | (simp [V.sane, leafC] at hs; done) | skip
      case lst cs l => obtain ⟨_, _, rfl, _⟩ := hr; rfl
      case dl => obtain ⟨_, _, _, _, rfl, _⟩ := hr; rfl
      case ref => obtain ⟨_, _, _, rfl⟩ := hr; rfl
      case rw => obtain ⟨_, _, _, _, _, rfl, _⟩ := hr; rfl
      case sl => obtain ⟨_, _, _, _, _, rfl, _⟩ := hr; rfl
      case rref => obtain ⟨_, _, _, rfl⟩ := hr; rfl
      case lref => obtain ⟨_, _, rfl, _⟩ := hr; rfl
      case mp => obtain ⟨_, _, _, rfl⟩ := hr; rfl
      case fn => obtain ⟨_, rfl, _⟩ := hr; rfl
      all_goals (have e : v = _ := hr; subst e; rfl)
    rw [this]
    exact ⟨hr, trivial⟩
  | agg cs => obtain ⟨vs, rfl, h⟩ := hr; exact h
  | tup _ => simp [V.sane] at hs

theorem leaf_one {c : C} {v : Value} (hs : leafC c = true) (hr : Rc w I ρ c v) : v.oneCell' = true := by
  cases c <;> first | (simp [leafC] at hs; done) | skip
  case lst cs l => obtain ⟨_, _, rfl, _⟩ := hr; rfl
  case dl => obtain ⟨_, _, _, _, rfl, _⟩ := hr; rfl
  case ref => obtain ⟨_, _, _, rfl⟩ := hr; rfl
  case rw => obtain ⟨_, _, _, _, _, rfl, _⟩ := hr; rfl
  case sl => obtain ⟨_, _, _, _, _, rfl, _⟩ := hr; rfl
  case rref => obtain ⟨_, _, _, rfl⟩ := hr; rfl
  case lref => obtain ⟨_, _, rfl, _⟩ := hr; rfl
  case mp => obtain ⟨_, _, _, rfl⟩ := hr; rfl
  case fn => obtain ⟨_, rfl, _⟩ := hr; rfl
  all_goals (have e : v = _ := hr; subst e; rfl)

def spliceV (vs : List Value) (off : Nat) (xs : List Value) : List Value := vs.take off ++ xs ++ vs.drop (off + xs.length)
theorem splice_ok {cs : List C} {vs : List Value} {xs : List C} {ys : List Value} (h1 : Rcs w I ρ cs vs) (h2 : Rcs w I ρ xs ys) (off : Nat) : Rcs w I ρ (spliceL cs off xs) (spliceV vs off ys) := by
  unfold spliceL spliceV
  rw [Rcs_length h2]
  exact Rcs_append (Rcs_append (Rcs_take off h1) h2) (Rcs_drop _ h1)

theorem foldl_set (off : Nat) : (xs : List Value) → (i : Nat) → (arr : Array Value) → off + i + xs.length ≤ arr.size →
    ((xs.zipIdx i).foldl (fun cs (c : Value × Nat) => cs.setIfInBounds (off + c.2) c.1) arr).toList = spliceV arr.toList (off + i) xs
  | [], i, arr, _ => by simp [spliceV]
  | x :: xs, i, arr, hl => by
    simp only [List.length_cons] at hl
    simp only [List.zipIdx_cons, List.foldl_cons]
    rw [foldl_set off xs (i + 1) (arr.setIfInBounds (off + i) x) (by simp; omega)]
    unfold spliceV
    simp only [Array.toList_setIfInBounds, List.length_cons]
    apply List.ext_getElem?
    intro j
    simp only [List.getElem?_append, List.length_append, List.length_take, List.length_set, Array.length_toList, List.getElem?_take, List.getElem?_set, List.getElem?_drop]
    rw [Nat.min_eq_left (by omega), Nat.min_eq_left (by omega)]
    by_cases h1 : j < off + i
    · simp [h1, show j < off + (i + 1) by omega, show j < off + (i + 1) + xs.length by omega, show j < off + i + (xs.length + 1) by omega, show ¬ (off + i = j) by omega]
    · by_cases h2 : j = off + i
      · subst h2
        simp [show off + i < arr.size by omega]
        omega
      · by_cases h3 : j < off + i + (xs.length + 1)
        · simp [h1, show ¬ j < off + (i + 1) by omega, show j < off + (i + 1) + xs.length by omega, h3]
          obtain ⟨k, rfl⟩ : ∃ k, j = off + i + 1 + k := ⟨j - (off + i + 1), by omega⟩
          rw [show off + i + 1 + k - (off + (i + 1)) = k by omega, show off + i + 1 + k - (off + i) = k + 1 by omega]
          simp
        · simp [h1, show ¬ j < off + (i + 1) by omega, show ¬ j < off + (i + 1) + xs.length by omega, h3, show ¬ (off + i = off + (i + 1) + xs.length + (j - (off + (i + 1) + xs.length))) by omega]
          congr 1; omega

def Rparts (w : World) (I : Nat → Prop) (ρ : Rho) : List (Nat × V) → List (Nat × Value) → Prop
  | [], [] => True
  | x :: xs, y :: ys => x.1 = y.1 ∧ Rv w I ρ x.2 y.2 ∧ Rparts w I ρ xs ys
  | _, _ => False

theorem fillC_ok {place : Nat → Option (Nat × Nat)} : {ps : List (Nat × V)} → {qs : List (Nat × Value)} → Rparts w I ρ ps qs → {cs cs' : List C} → {vs : Array Value} → Rcs w I ρ cs vs.toList → fillC P place cs ps = some cs' →
    ∃ vs', Instr.fill place vs qs = some vs' ∧ Rcs w I ρ cs' vs'.toList
  | [], [], _, cs, cs', vs, hr, hf => ⟨vs, rfl, by simp [fillC] at hf; exact hf ▸ hr⟩
  | [], _ :: _, h, _, _, _, _, _ => h.elim
  | _ :: _, [], h, _, _, _, _, _ => h.elim
  | (i, x) :: ps, (j, y) :: qs, ⟨h1, h2, h3⟩, cs, cs', vs, hr, hf => by
    simp only at h1; subst h1
    simp only [fillC] at hf
    split at hf
    · rename_i off sz hp
      split at hf
      · rename_i hc
        have hy := sane_cells hc.1 h2
        have hyl := Rcs_length hy
        have hvl := Rcs_length hr
        have hlen : y.cells.size = sz := by rw [← hc.2.1, hyl]; simp
        have key : (y.cells.zipIdx.foldl (fun cs (c : Value × Nat) => cs.setIfInBounds (off + c.2) c.1) vs).toList = spliceV vs.toList off y.cells.toList := by
          rw [← Array.foldl_toList, Array.toList_zipIdx]
          have := foldl_set off y.cells.toList 0 vs (by simp [hlen]; simp at hvl; omega)
          simpa using this
        obtain ⟨vs', k1, k2⟩ := fillC_ok h3 (vs := y.cells.zipIdx.foldl (fun cs (c : Value × Nat) => cs.setIfInBounds (off + c.2) c.1) vs) (by rw [key]; exact splice_ok hr hy off) hf
        refine ⟨vs', ?_, k2⟩
        simp only [Instr.fill, hp]
        rw [if_neg (by rw [hlen]; simp; simp at hvl; omega)]
        exact k1
      · cases hf
    · cases hf
end
end Go.Eng
