/- The contract of slices.Sorted at a map's keys. -/
import Derived.Test.YtnngcneobkfijaaF0
import Derived.Test.YtnngcneobkfijaaE26
import Derived.Test.YtnngcneobkfijaaIter
set_option maxRecDepth 100000
set_option linter.unusedVariables false
namespace Go.Proofs.Ytnngcneobkfijaa
open Go.Eng Go.RowKit

def namesOf {cs : Shs} (es : List (ByteArray × Tup cs)) : List (Tup (.cons .str .nil)) := (sortB (es.map (·.1))).map fun s => (s, ())
def sortedSpec : Eng.Spec := fun args m => match args, m with
  | [.c (.fn k [(0, 0)])], [.box [.mp 1], .map ag cs es] => bif Nat.beq k 36 then .node (keysOk (es.map (·.1))) (.leaf (.full (.c (.rw 2 1 true)) [some (.box [.mp 1]), some (.map ag cs es), some (.row (.cons .str .nil) (namesOf es) .own)])) .fail else .fail
  | _, _ => .fail

theorem sortedOk : SpecOk Try.prog 22 sortedSpec := by
  intro args m r he
  unfold sortedSpec at he
  split at he
  · rename_i k ag cs es
    cases hk36 : Nat.beq k 36 with
    | false => rw [hk36] at he; exact (fail_run he).elim
    | true =>
    rw [hk36, cond_true] at he
    have := Nat.eq_of_beq_eq_true hk36
    subst this
    obtain ⟨hk, he⟩ := node_fail he
    cases leaf_run he
    intro ρ I w vals hH hdom hargs
    obtain ⟨l⟩ := vals
    match l, hargs with
    | [], h => exact h.elim
    | _ :: _ :: _, ⟨_, h⟩ => exact h.elim
    | [v], ⟨⟨vs, hv, hcaps⟩, _⟩ =>
    obtain ⟨vl⟩ := vs
    match vl, hcaps with
    | [], h => exact h.elim
    | _ :: _ :: _, ⟨_, h⟩ => exact h.elim
    | [p], ⟨⟨x0, hx0, hr0, hp⟩, _⟩ =>
    subst hp
    subst hv
    obtain ⟨x0', hx0', hro0⟩ := hH.obj 0 (.box [.mp 1]) rfl
    rw [hx0] at hx0'; cases hx0'
    obtain ⟨x1, hx1, hr1, ents, clock, hb1, hrents, hborn, hpw⟩ := hH.obj 1 (.map ag cs es) rfl
    obtain ⟨_, c, T, fz, hb0, hm0, _, hrc⟩ := hro0
    obtain ⟨cl⟩ := c
    match cl, hrc with
    | [], h => exact h.elim
    | _ :: _ :: _, ⟨_, h⟩ => exact h.elim
    | [mv], ⟨⟨x1', hx1', _, hmv⟩, _⟩ =>
    rw [hx1] at hx1'; cases hx1'
    subst hmv
    obtain ⟨D, hown, hperm, hsize⟩ := rents_owns (P := Try.prog) (k := 9) (by kernel_rfl) hb1 hrents hborn hpw hk
    have hlt0 : x0.b < w.heap.size := hH.blk 0 x0 hx0 hr0
    have hcell : w.cell? ⟨x0.b, 0, none⟩ = some (.map (some x1.b)) := by simp [World.cell?, hb0]
    have hlen16 : es.length * 16 ≤ 140737488355328 := by
      simp only [keysOk, Bool.and_eq_true] at hk
      have := Nat.le_of_ble_eq_true hk.2
      simpa using this
    have hseq : SeqGives Fence.wide 2 Try.prog 36 #[.pointer (some ⟨x0.b, 0, none⟩)] encStr (fun ss => ss.Perm (strKeys D)) (Maps.size D) w :=
      AnyZ.keys_gives (ρ := Try.keys23_ren) { Try.keys23 with } Fence.wide _ trivial rfl (by omega) x0.b x1.b ents.size D w hlt0 hcell hown
    have hcalls := AnyZ.sorted_in Try.sorted22 Fence.wide 5 trivial trivial trivial trivial rfl (by omega) (Try.sorts22 _) (enters_of Try.func35 (by kernel_rfl) rfl) 36 #[.pointer (some ⟨x0.b, 0, none⟩)] trivial (enters_of Try.func36 (by kernel_rfl) rfl) _ (Maps.size D) (by rw [hsize]; simp only [maxLen]; omega) (by rw [hsize]; exact hlen16) w hseq
    refine .inl ⟨(enters_of Try.func22 (by kernel_rfl) rfl) _ _, Calls.mono (callsIn_wide.1 hcalls) ?_⟩
    rintro e w' ⟨v, ss, rfl, hS, ⟨hl, hrow⟩, hnil, hbel⟩
    have hss : ss.mergeSort (fun x y => decide (x ≤ y)) = (sortB (es.map (·.1))).map fun x => x.data.toList := sortB_merge (hS.trans hperm)
    have hsl : ss.length = es.length := by rw [hS.length_eq, hperm.length_eq]; simp
    have hnl : (namesOf es).length = ss.length := by unfold namesOf; exact (List.length_map _).trans ((sortB_perm _).length_eq.trans (by simp [hsl]))
    have hn2 : ρ 2 = none := by
      cases h : ρ 2 with
      | none => rfl
      | some y => exact absurd (hdom 2 y h) (by simp)
    have hob : newO (obOf [.box [.mp 1], .map ag cs es]) 2 [.row (.cons .str .nil) (namesOf es) .own] = Heap.at? [some (.box [.mp 1]), some (.map ag cs es), some (.row (.cons .str .nil) (namesOf es) .own)] := by
      funext i
      rw [newO_one]
      match i with
      | 0 => rfl
      | 1 => rfl
      | 2 => rfl
      | i + 3 => simp [obOf, Heap.at?]
    refine ⟨v, rfl, ?_⟩
    rcases hrow with ⟨rfl, h0⟩ | ⟨g, cap, cur, rfl, hg, hcells, hcap, _, hcs, htake⟩
    · obtain ⟨hE1, hH1⟩ := ext_below hH hbel
      obtain ⟨hE2, hH2⟩ := empty_step (nid := 2) (cs := .cons .str .nil) (upd := []) hH1 hn2 (fun _ _ h => h) 0
      have hne : namesOf es = [] := List.eq_nil_of_length_eq_zero (by rw [hnl]; exact h0)
      simp only [updO] at hE2 hH2
      rw [← hne] at hE2 hH2
      rw [hob] at hE2 hH2
      refine ⟨_, I, hE1.trans hE2, hH2, fun id x hx => ?_, ?_⟩
      · by_cases e : id = 2
        · subst e; simp
        · rw [if_neg e] at hx; have := hdom id x hx; simp at this ⊢; omega
      · exact ⟨⟨0, 0, 0, 1, false⟩, none, 0, if_pos rfl, rfl, rfl, Nat.le_refl _, fun _ => rfl, (fun ad h => by cases h)⟩
    · have hg' : g < w'.heap.size := by
        rcases Nat.lt_or_ge g w'.heap.size with h | h
        · exact h
        · rw [Array.getElem?_eq_none h] at hcells; cases hcells
      have hrows : ∀ i t, (namesOf es)[i]? = some t → Rt w' I (.cons .str .nil) t g (i * (Shs.cons .str .nil).len) := fun i t ht => by
        have hi : i < ss.length := by rw [← hnl]; exact (List.getElem?_eq_some_iff.1 ht).1
        have hget : cur.toList[i]? = some (.string t.1) := by
          have h1 : (cur.toList.take (ss.length * 1))[i]? = cur.toList[i]? := by rw [List.getElem?_take, if_pos (by omega)]
          rw [← h1, htake, hss, List.map_map, List.getElem?_map]
          have ht' : ((sortB (es.map (·.1)))[i]?).map (fun s => ((s, ()) : Tup (.cons .str .nil))) = some t := by
            rw [← ht]; unfold namesOf; exact List.getElem?_map.symm
          obtain ⟨s, hs, hst⟩ := Option.map_eq_some_iff.1 ht'
          subst hst
          rw [hs]
          rfl
        refine ⟨⟨.string t.1, ?_, rfl⟩, trivial⟩
        simp only [World.cell?, hcells, Shs.len, Nat.mul_one]
        simpa using hget
      obtain ⟨hE, hH'⟩ := land_step (nid := 2) (obj := .row (.cons .str .nil) (namesOf es) .own) (x := ⟨g, cur.size, ss.length, 1, true⟩) hH hn2 hbel hg hg' rfl rfl
        ⟨hnl.symm, rfl, (fun h => by cases h), fun _ => ⟨cur, 9, (0, 0), hcells, rfl, by simp only [Shs.len]; rw [hnl, hcs]; omega, hrows, fun _ => unfrozen_zero _, fun h => by cases h⟩⟩
      rw [hob] at hE hH'
      refine ⟨_, I, hE, hH', fun id x hx => ?_, ?_⟩
      · by_cases e : id = 2
        · subst e; simp
        · rw [if_neg e] at hx; have := hdom id x hx; simp at this ⊢; omega
      · exact ⟨⟨g, cur.size, ss.length, 1, true⟩, _, cap, if_pos rfl, rfl, rfl, hcap, (fun h => by cases h), fun ad had => .inr ⟨rfl, (Option.some.inj had).symm, by simp [hcs]⟩⟩
  · exact (fail_run he).elim
end Go.Proofs.Ytnngcneobkfijaa
