/- The engine, part 23: what a claim's reading says of a value, as plain data. -/
import Derived.Test.YtnngcneobkfijaaE22
import Derived.ProofKit
set_option linter.unusedSimpArgs false
set_option linter.unusedVariables false
namespace Go.Eng

def layFs (P : Program) (lay : TypeId → Option Shs) : List Go.Field → Nat → Option Shs
  | [], _ => some .nil
  | f :: fs, o => if f.offset = o then match lay f.type, layFs P lay fs (o + P.cellsOf f.type) with
    | some a, some b => if a.len = P.cellsOf f.type then some (a.app b) else none
    | _, _ => none
    else none
/-- a type of plain data: its cells, one behind the other -/
def lay (P : Program) : Nat → TypeId → Option Shs
  | 0, _ => none
  | n + 1, t => match P.underlying t with
    | some .bool => some (.cons .bool .nil)
    | some (.int k) => some (.cons (.int k) .nil)
    | some .string => some (.cons .str .nil)
    | some (.slice e) => match lay P n e with
      | some cs => if cs.len = P.cellsOf e ∧ P.cellsOf e ≠ 0 then some (.cons (.lst cs) .nil) else none
      | none => none
    | some (.struct fs) => match layFs P (lay P n) fs.toList 0 with
      | some s => if s.len = P.cellsOf t then some s else none
      | none => none
    | _ => none

mutual
def WfD : (s : Sh) → Dat s → Prop
  | .bool, _ => True
  | .int k, n => let m : Int := n; k.min ≤ m ∧ m ≤ k.max
  | .str, s => ByteArray.size s ≤ maxLen
  | .lst cs, l => List.length (asL cs l) ≤ maxLen ∧ ∀ (i : Nat) (t : Tup cs), (asL cs l)[i]? = some t → WfT cs t
def WfT : (cs : Shs) → Tup cs → Prop
  | .nil, _ => True
  | .cons s r, t => WfD s t.1 ∧ WfT r t.2
end

def appT : (a b : Shs) → Tup a → Tup b → Tup (a.app b)
  | .nil, _, _, y => y
  | .cons _ r, b, x, y => (x.1, appT r b x.2 y)
theorem cellsT_app : (a b : Shs) → (x : Tup a) → (y : Tup b) → cellsT (a.app b) (appT a b x y) = cellsT a x ++ cellsT b y
  | .nil, _, _, _ => rfl
  | .cons s r, b, x, y => congrArg (cellD s x.1 :: ·) (cellsT_app r b x.2 y)
theorem WfT_app : (a b : Shs) → (x : Tup a) → (y : Tup b) → WfT a x → WfT b y → WfT (a.app b) (appT a b x y)
  | .nil, _, _, _, _, h => h
  | .cons s r, b, x, y, ⟨h1, h2⟩, h => ⟨h1, WfT_app r b x.2 y h2 h⟩
theorem len_app : (a b : Shs) → (a.app b).len = a.len + b.len
  | .nil, b => by simp [Shs.app, Shs.len]
  | .cons _ r, b => by simp [Shs.app, Shs.len, len_app r b]; omega

theorem choose_list {α : Type} {p : Nat → α → Prop} : (n : Nat) → (∀ i, i < n → ∃ t, p i t) → ∃ l : List α, l.length = n ∧ ∀ i t, l[i]? = some t → p i t
  | 0, _ => ⟨[], rfl, fun i t h => by simp at h⟩
  | n + 1, h => by
    obtain ⟨l, h1, h2⟩ := choose_list n fun i hi => h i (by omega)
    obtain ⟨t, ht⟩ := h n (by omega)
    refine ⟨l ++ [t], by simp [h1], fun i u hi => ?_⟩
    rw [List.getElem?_append] at hi
    split at hi
    · exact h2 i u hi
    · rename_i hge
      have hlt : i - l.length < 1 := by
        have := (List.getElem?_eq_some_iff.1 hi).1
        simpa using this
      have e : i = n := by omega
      subst e
      rw [h1, Nat.sub_self] at hi
      simp at hi
      subst hi
      exact ht

section
variable {H : Type} {enc : TypeId × Value → H} {P : Program} {w : World} {base : Nat} {sp : Nat → Bool} {held : Bool} {I : Nat → Prop} {ρ : Rho}

theorem layFs_ok {n : Nat} {fuel : Nat} {cs : List Value} (ih : ∀ t S, lay P n t = some S → ∀ cs d ps, DataW.trod enc P w base sp held fuel t cs = some (d, ps) → ∃ tup : Tup S, Rcs w I ρ (cellsT S tup) cs ∧ WfT S tup) : (fs : List Go.Field) → (o : Nat) → {S : Shs} → layFs P (lay P n) fs o = some S → {xs : List (DataW H × List MemPlace)} →
    (fs.mapM fun f => DataW.trod enc P w base sp held fuel f.type ((cs.drop f.offset).take (P.cellsOf f.type))) = some xs → ∃ tup : Tup S, Rcs w I ρ (cellsT S tup) ((cs.drop o).take S.len) ∧ WfT S tup
  | [], o, S, h, xs, _ => by
    simp [layFs] at h
    subst h
    exact ⟨(), by simp [Shs.len]; trivial, trivial⟩
  | f :: fs, o, S, h, xs, hx => by
    simp only [layFs] at h
    split at h
    · rename_i ho
      split at h
      · rename_i a b ha hb
        split at h
        · rename_i hl
          cases h
          simp only [List.mapM_cons, Option.bind_eq_bind, Option.bind_eq_some_iff, Option.pure_def, Option.some.injEq] at hx
          obtain ⟨⟨d, ps⟩, h1, ys, h2, _⟩ := hx
          obtain ⟨ta, k1, k2⟩ := ih f.type a ha _ _ _ h1
          obtain ⟨tb, m1, m2⟩ := layFs_ok ih fs (o + P.cellsOf f.type) hb h2
          refine ⟨appT a b ta tb, ?_, WfT_app a b ta tb k2 m2⟩
          rw [cellsT_app, len_app, List.take_add]
          refine Rcs_app ?_ ?_
          · rw [hl, ← ho]; exact k1
          · rw [hl, List.drop_drop]; exact m1
        · cases h
      · cases h
    · cases h

theorem trod_data (hI : ∀ b, b < w.heap.size → I b) : (n : Nat) → (t : TypeId) → (S : Shs) → lay P n t = some S → ∀ (fuel : Nat) (cs : List Value) (d : DataW H) (ps : List MemPlace), DataW.trod enc P w base sp held fuel t cs = some (d, ps) →
    ∃ tup : Tup S, Rcs w I ρ (cellsT S tup) cs ∧ WfT S tup
  | 0, t, S, h => by simp [lay] at h
  | n + 1, t, S, h => by
    intro fuel cs d ps hd
    cases fuel with
    | zero => simp [DataW.trod] at hd
    | succ fuel =>
      simp only [lay] at h
      split at h
      · rename_i hu
        cases h
        unfold DataW.trod at hd
        simp only [hu] at hd
        split at hd
        all_goals first
          | (exfalso; simp_all; done)
          | skip
        rename_i b _
        exact ⟨(b, ()), ⟨rfl, trivial⟩, by simp [WfT, WfD]⟩
      · rename_i k hu
        cases h
        unfold DataW.trod at hd
        simp only [hu] at hd
        split at hd
        all_goals first
          | (exfalso; simp_all; done)
          | skip
        rename_i k' q m he
        simp only [Option.some.injEq, TypeDesc.int.injEq] at he
        subst he
        split at hd
        · rename_i hk
          obtain ⟨rfl, hw⟩ := hk
          simp only [Lit.wf, Bool.and_eq_true, decide_eq_true_eq] at hw
          exact ⟨((m : Int), ()), ⟨rfl, trivial⟩, hw, trivial⟩
        · cases hd
      · rename_i hu
        cases h
        unfold DataW.trod at hd
        simp only [hu] at hd
        split at hd
        all_goals first
          | (exfalso; simp_all; done)
          | skip
        rename_i s _
        split at hd
        · rename_i hs
          exact ⟨(s, ()), ⟨rfl, trivial⟩, hs, trivial⟩
        · cases hd
      · rename_i e hu
        split at h
        · rename_i cs0 hcs
          split at h
          · rename_i hc
            cases h
            unfold DataW.trod at hd
            simp only [hu] at hd
            split at hd
            all_goals first
              | (exfalso; simp_all; done)
              | skip
            · exact ⟨(([] : List (Tup cs0)), ()), ⟨⟨none, 0, rfl, Nat.le_refl _, fun _ => rfl, fun ad had => by cases had⟩, trivial⟩, ⟨Nat.zero_le _, fun i t hi => by simp at hi⟩, trivial⟩
            · rename_i e' a len cap he
              simp only [Option.some.injEq, TypeDesc.slice.injEq] at he
              subst he
              split at hd
              · rename_i hb
                simp only [Option.bind_eq_some_iff] at hd
                obtain ⟨elems, h1, _⟩ := hd
                have hel : ∀ i, i < len → ∃ cs' d' ps', w.cells? base (a.add (i * P.cellsOf e)) (P.cellsOf e) = some cs' ∧ DataW.trod enc P w base sp held fuel e cs' = some (d', ps') := by
                  intro i hi
                  have hlen : elems.length = len := by simpa using mapM_some_length h1
                  have := mapM_some_get h1 i i (by simp [hi])
                  obtain ⟨x, hx⟩ : ∃ x, elems[i]? = some x := ⟨_, List.getElem?_eq_getElem (by omega)⟩
                  rw [hx] at this
                  simp only [Option.bind_eq_some_iff] at this
                  obtain ⟨cs', k1, k2⟩ := this
                  exact ⟨cs', x.1, x.2, k1, k2⟩
                have hspot : len ≠ 0 → a.spot = none ∧ a.block < w.heap.size := by
                  intro hne
                  obtain ⟨cs', d', ps', k1, _⟩ := hel 0 (by omega)
                  obtain ⟨_, k3, k4⟩ := World.cells?_some k1
                  have := k4 0 (by omega)
                  rw [Nat.zero_mul] at this
                  have e0 : (a.add 0).add 0 = a := rfl
                  rw [e0] at this
                  obtain ⟨v, hv⟩ : ∃ v, cs'[0]? = some v := ⟨_, List.getElem?_eq_getElem (by omega)⟩
                  rw [hv] at this
                  unfold World.cell? at this
                  split at this
                  · rename_i c T fz hbk
                    split at this
                    · cases this
                    · rename_i hs
                      refine ⟨by simpa using hs, ?_⟩
                      exact (Array.getElem?_eq_some_iff.1 hbk).1
                  · cases this
                obtain ⟨l, m1, m2⟩ := choose_list (p := fun i (t : Tup cs0) => Rt w I cs0 t a.block (a.off + i * cs0.len) ∧ WfT cs0 t) len fun i hi => by
                  obtain ⟨cs', d', ps', k1, k2⟩ := hel i hi
                  obtain ⟨tup, q1, q2⟩ := trod_data hI n e cs0 hcs fuel cs' d' ps' k2
                  refine ⟨tup, Rt_of_cells cs0 tup _ cs' q1 fun j v hj => ?_, q2⟩
                  obtain ⟨_, k3, k4⟩ := World.cells?_some k1
                  have hjl := (List.getElem?_eq_some_iff.1 hj).1
                  have := k4 j (by omega)
                  rw [hj] at this
                  have hsp := (hspot (by omega)).1
                  obtain ⟨b, off, s⟩ := a
                  simp only at hsp
                  subst hsp
                  rw [add_plain, add_plain, ← hc.1] at this
                  exact this
                refine ⟨(l, ()), ⟨⟨some a, cap, ?_, ?_, fun h => by (cases h), fun ad had hne => ?_⟩, trivial⟩, ⟨?_, fun i t hi => (m2 i t hi).2⟩, trivial⟩
                · show Value.slice (some a) len cap = .slice (some a) l.length cap
                  rw [m1]
                · show l.length ≤ cap
                  rw [m1]; exact hb.2.1
                · cases had
                  have hne' : len ≠ 0 := by rw [← m1]; exact hne
                  obtain ⟨s1, s2⟩ := hspot hne'
                  exact ⟨s1, hI _ s2, fun i t hi => (m2 i t hi).1⟩
                · show l.length ≤ maxLen
                  rw [m1]; omega
              · cases hd
          · cases h
        · cases h
      · rename_i fs hu
        split at h
        · rename_i s hs
          split at h
          · rename_i hl
            cases h
            unfold DataW.trod at hd
            simp only [hu] at hd
            split at hd
            all_goals first
              | (exfalso; simp_all; done)
              | skip
            rename_i hcl
            simp only [Option.map_eq_some_iff] at hd
            obtain ⟨xs, h1, _⟩ := hd
            obtain ⟨tup, k1, k2⟩ := layFs_ok (fun t S h cs d ps hd => trod_data hI n t S h fuel cs d ps hd) fs.toList 0 hs h1
            rw [List.drop_zero, List.take_of_length_le (by omega)] at k1
            exact ⟨tup, k1, k2⟩
          · cases h
        · cases h
      · cases h
end
end Go.Eng
