/- The engine, part 27: a row handed back as data; slices.Clone. -/
import Derived.Test.YtnngcneobkfijaaE26
set_option linter.unusedSimpArgs false
set_option linter.unusedVariables false
namespace Go.Eng
open Go.RowKit
section
variable {P : Program} {w : World} {I : Nat → Prop} {ρ : Rho} {ob : Nat → Option Obj}

/-- A new row that a call hands back, as data. -/
theorem Triple.freeze {k : FuncId} {args : List V} {m' : Heap} {i sz : Nat} {kn : Bool} {cs : Shs} {l : List (Tup cs)} {o : Own} (h : Triple P k args [] (.full (.c (.rw i sz kn)) m')) (hm : m'.at? i = some (.row cs l o)) : Triple P k args [] (.pure (.c (.lst cs l))) := by
  intro ρ I w vals hH hdom hargs
  refine (h ρ I w vals hH hdom hargs).mono fun cv w' hh => ?_
  obtain ⟨ρ', I', he⟩ := hh
  have hna : ∀ b, ¬ ActB (obOf []) ρ b := fun b ⟨id, o, x, h1, _⟩ => by simp [obOf] at h1
  obtain ⟨x, a, cap, hx, hsz, hcv, hcap, hat⟩ := he.rel
  obtain ⟨x', hx', hro⟩ := he.heap.obj i _ hm
  rw [hx] at hx'; cases hx'
  have hnew : x.real = true → ¬ I' x.b → w.heap.size ≤ x.b := fun hr hni => by
    rcases Nat.lt_or_ge x.b w.heap.size with hlt | hge
    · exfalso
      cases o with
      | own => exact hna _ (he.ext.act x.b hlt ⟨i, _, x, hm, rfl, hx, hr, rfl⟩)
      | imm =>
        obtain ⟨_, _, _, k⟩ := hro
        obtain ⟨_, _, _, _, _, _, _, _, k⟩ := k hr
        exact hni (k rfl)
    · exact hge
  refine ⟨fun b => I' b ∨ (x.real = true ∧ b = x.b), he.ext.os, he.ext.tape, he.ext.output, he.ext.size, fun b hb => he.ext.frame b hb (hna b), fun b hb => .inl (he.ext.imm b hb), fun b hb hi => ?_, fun b hb => ?_, ?_⟩
  · have hold : I' b → I b := fun hi => by
      rcases he.ext.immNew b hb hi with h | h
      · exact h
      · exact absurd h (hna b)
    rcases hi with hi | ⟨hr, rfl⟩
    · exact hold hi
    · by_cases hni : I' x.b
      · exact hold hni
      · have := hnew hr hni; omega
  · rcases hb with hb | ⟨hr, rfl⟩
    · exact he.heap.immB b hb
    · exact he.heap.blk i x hx hr
  · have hlen := hro.1
    have hszx := hro.2.1
    have hro' : Ro w' (fun b => I' b ∨ (x.real = true ∧ b = x.b)) ρ' x (.row cs l o) := hro.mono (fun b hb => .inl hb) (fun _ _ => rfl) (fun _ _ h => h) (fun _ => rfl)
    have := row_data (off := 0) (n := x.len) hro' (fun hr => .inr ⟨hr, rfl⟩) (by simpa using hat) (by omega) hcap
    rw [List.drop_zero, List.take_of_length_le (by omega)] at this
    show Rd _ _ _ _ _
    rw [hcv]
    simpa using this

def cloneSpec (CS : Shs) (tb : Nat) : Spec := fun args m => match args, m with
  | [.c (.lst cs l)], [] => match castL cs CS l with
    | some l => .node (decide (l.length * tb ≤ 140737488355328)) (.leaf (.pure (.c (.lst CS l)))) .fail
    | none => .fail
  | [.c .nilsl], [] => .leaf (.pure (.c .nilsl))
  | _, _ => .fail

theorem clone_ok {k : FuncId} {CS : Shs} {tb : Nat} {sp : Spec} (hsp : SpecOk P k sp) (h1 : ∀ l, (sp [.c (.dl CS l true)] []).run = some (.pure (.c .nilsl)))
    (h2 : ∀ l, l.length * tb ≤ 140737488355328 → ∃ i sz kn m' o, (sp [.c (.dl CS l false)] []).run = some (.full (.c (.rw i sz kn)) m') ∧ m'.at? i = some (.row CS l o)) : SpecOk P k (cloneSpec CS tb) := by
  intro args m r he
  unfold cloneSpec at he
  split at he
  · rename_i cs l
    split at he
    · rename_i l' hl
      obtain ⟨e, hl'⟩ := castL_ok hl
      subst e
      subst hl'
      obtain ⟨hn, he⟩ := node_fail he
      cases leaf_run he
      intro ρ I w vals hH hdom hargs
      have hargs' := hargs
      obtain ⟨vl⟩ := vals
      match vl, hargs with
      | [], h => exact h.elim
      | _ :: _ :: _, ⟨_, h⟩ => exact h.elim
      | [v], ⟨⟨a, cap, hv, hc, hz, hd⟩, _⟩ =>
        cases ha : a.isNone with
        | false =>
          obtain ⟨i, sz, kn, m', o, k1, k2⟩ := h2 l' (of_decide_eq_true hn)
          exact (hsp _ _ _ k1).freeze k2 ρ I w ⟨[v]⟩ hH hdom ⟨⟨⟨a, cap, hv, hc, hz, hd⟩, a, _, cap, hv, ha⟩, trivial⟩
        | true =>
          have ha' : a = none := by cases a <;> simp_all
          have hl0 : l' = [] := List.eq_nil_of_length_eq_zero (hz ha')
          refine (hsp _ _ _ (h1 l') ρ I w ⟨[v]⟩ hH hdom ⟨⟨⟨a, cap, hv, hc, hz, hd⟩, a, _, cap, hv, ha⟩, trivial⟩).mono fun cv w' ⟨I', hp⟩ => ⟨I', hp.os, hp.tape, hp.output, hp.size, hp.old, hp.imm, hp.immOld, hp.immB, ?_⟩
          have hcv : cv = .slice none 0 0 := hp.rel
          subst hl0
          exact ⟨none, 0, hcv, Nat.le_refl _, fun _ => rfl, fun ad h => by cases h⟩
    · exact (fail_run he).elim
  · cases leaf_run he
    intro ρ I w vals hH hdom hargs
    obtain ⟨vl⟩ := vals
    match vl, hargs with
    | [], h => exact h.elim
    | _ :: _ :: _, ⟨_, h⟩ => exact h.elim
    | [v], ⟨hv, _⟩ =>
      have hv : v = .slice none 0 0 := hv
      exact hsp _ _ _ (h1 []) ρ I w ⟨[v]⟩ hH hdom ⟨⟨⟨none, 0, hv, Nat.le_refl _, fun _ => rfl, fun ad h => by cases h⟩, none, 0, 0, hv, rfl⟩, trivial⟩
  · exact (fail_run he).elim
end
end Go.Eng
