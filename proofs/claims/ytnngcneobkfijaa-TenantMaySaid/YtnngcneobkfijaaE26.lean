/- The engine, part 26: a row that a library's contract hands back; texts sorted. -/
import Derived.Test.YtnngcneobkfijaaE25
import Derived.Sort.KeysCollected
import Derived.Sort.Walk0
set_option linter.unusedSimpArgs false
set_option linter.unusedVariables false
namespace Go.Eng
open Go.RowKit
section
variable {P : Program} {w : World} {I : Nat → Prop} {ρ : Rho} {ob : Nat → Option Obj}

theorem land_step {w' : World} {nid : Nat} {obj : Obj} {x : Blk} (hH : RelH ob ρ I w) (hn : ρ nid = none) (hb : Below w.heap.size w w')
    (hx : w.heap.size ≤ x.b) (hx' : x.b < w'.heap.size) (hreal : x.real = true) (hown : owned obj = true) (hro : Ro w' I (fun i => if i = nid then some x else ρ i) x obj) :
    Ext ob ρ I w (newO ob nid [obj]) (fun i => if i = nid then some x else ρ i) I w' ∧ RelH (newO ob nid [obj]) (fun i => if i = nid then some x else ρ i) I w' := by
  have hold : ∀ b, b < w.heap.size → w'.heap[b]? = w.heap[b]? := fun b h => hb.block b h
  have hsz : w.heap.size ≤ w'.heap.size := hb.size
  have hρ : ∀ id y, ρ id = some y → (if id = nid then some x else ρ id) = some y := fun id y h => by
    by_cases e : id = nid
    · subst e; rw [hn] at h; cases h
    · rw [if_neg e]; exact h
  rw [newO_one]
  constructor
  · refine ⟨hb.os, hb.tape, hb.output, hsz, hρ, fun _ h => h, fun _ _ h => .inl h, ?_, fun b hb _ => hold b hb⟩
    rintro b hb ⟨id, o', y, h1, h2, h3, h4, h5⟩
    by_cases e : id = nid
    · simp only [e, if_true, Option.some.injEq] at h3; subst h3; omega
    · simp only [e, if_false] at h1 h3; exact ⟨id, o', y, h1, h2, h3, h4, h5⟩
  · refine ⟨?_, ?_, ?_, ?_, fun b hb => by have := hH.immB b hb; omega⟩
    · intro id o' h1
      by_cases e : id = nid
      · simp only [e, if_true, Option.some.injEq] at h1 ⊢; subst h1; exact ⟨x, rfl, hro⟩
      · simp only [e, if_false] at h1 ⊢
        obtain ⟨y, h2, h3⟩ := hH.obj id o' h1
        exact ⟨y, h2, h3.mono (fun _ h => h) (fun b hb => hold b (hH.immB b hb)) hρ fun hr => hold _ (hH.blk id y h2 hr)⟩
    · intro id y h1 h2
      by_cases e : id = nid
      · simp only [e, if_true, Option.some.injEq] at h1; subst h1; omega
      · simp only [e, if_false] at h1; have := hH.blk id y h1 h2; omega
    · intro id id' o1 o2 x1 x2 h1 h2 w1 w2 hne h3 h4 h5 h6
      by_cases e : id = nid
      · have e' : id' ≠ nid := fun h => hne (e.trans h.symm)
        simp only [e, e', if_true, if_false, Option.some.injEq] at h1 h2 h3 h4
        subst h3
        have := hH.blk id' x2 h4 h6
        omega
      · by_cases e' : id' = nid
        · simp only [e, e', if_true, if_false, Option.some.injEq] at h1 h2 h3 h4
          subst h4
          have := hH.blk id x1 h3 h5
          omega
        · simp only [e, e', if_false] at h1 h2 h3 h4
          exact hH.disj id id' o1 o2 x1 x2 h1 h2 w1 w2 hne h3 h4 h5 h6
    · intro id o' y h1 h2 h3 h4
      by_cases e : id = nid
      · simp only [e, if_true, Option.some.injEq] at h3; subst h3
        intro hI; have := hH.immB _ hI; omega
      · simp only [e, if_false] at h1 h3; exact hH.actI id o' y h1 h2 h3 h4

/-- a heap's word goes on where a call left all old blocks as they were -/
theorem ext_below {w' : World} (hH : RelH ob ρ I w) (hb : Below w.heap.size w w') : Ext ob ρ I w ob ρ I w' ∧ RelH ob ρ I w' :=
  ⟨⟨hb.os, hb.tape, hb.output, hb.size, fun _ _ h => h, fun _ h => h, fun _ _ h => .inl h, fun _ _ h => h, fun b h _ => hb.block b h⟩, hH.mono hb.size hb.block⟩

/- texts sorted -/
def insB (x : ByteArray) : List ByteArray → List ByteArray
  | [] => [x]
  | y :: r => bif Op.bytesLess y.data.toList x.data.toList then y :: insB x r else x :: y :: r
def sortB : List ByteArray → List ByteArray
  | [] => []
  | x :: r => insB x (sortB r)
def nodupK : List ByteArray → Bool
  | [] => true
  | x :: r => r.all (fun y => !(x == y)) && nodupK r
def keysOk (l : List ByteArray) : Bool := nodupK l && l.all (fun x => Nat.ble x.size 9223372036854775807) && Nat.ble (l.length * 16) 140737488355328

theorem insB_perm (x : ByteArray) : (l : List ByteArray) → (insB x l).Perm (x :: l)
  | [] => .refl _
  | y :: r => by
    simp only [insB]
    cases Op.bytesLess y.data.toList x.data.toList with
    | true => exact ((insB_perm x r).cons y).trans (.swap x y r)
    | false => exact .refl _
theorem sortB_perm : (l : List ByteArray) → (sortB l).Perm l
  | [] => .refl _
  | x :: r => (insB_perm x _).trans ((sortB_perm r).cons x)
theorem insB_sorted (x : ByteArray) : (l : List ByteArray) → l.Pairwise (fun a b => a.data.toList ≤ b.data.toList) → (insB x l).Pairwise (fun a b => a.data.toList ≤ b.data.toList)
  | [], _ => by simp [insB]
  | y :: r, h => by
    simp only [insB]
    rw [Go.Proofs.bytesLess_eq]
    by_cases hlt : y.data.toList < x.data.toList
    · simp only [hlt, decide_true, cond_true]
      rw [List.pairwise_cons] at h ⊢
      refine ⟨fun z hz => ?_, insB_sorted x r h.2⟩
      rcases List.mem_cons.1 ((insB_perm x r).mem_iff.1 hz) with rfl | hz
      · exact List.le_of_lt hlt
      · exact h.1 z hz
    · simp only [hlt, decide_false, cond_false]
      have hxy : x.data.toList ≤ y.data.toList := List.not_lt.1 hlt
      rw [List.pairwise_cons]
      refine ⟨fun z hz => ?_, h⟩
      rcases List.mem_cons.1 hz with rfl | hz
      · exact hxy
      · exact List.le_trans hxy ((List.pairwise_cons.1 h).1 z hz)
theorem sortB_sorted : (l : List ByteArray) → (sortB l).Pairwise (fun a b => a.data.toList ≤ b.data.toList)
  | [] => .nil
  | x :: r => insB_sorted x _ (sortB_sorted r)
theorem sortB_merge {l : List ByteArray} {ss : List (List UInt8)} (hp : ss.Perm (l.map fun x => x.data.toList)) : ss.mergeSort (fun x y => decide (x ≤ y)) = (sortB l).map fun x => x.data.toList := by
  have tr : ∀ a b c : List UInt8, leB a b = true → leB b c = true → leB a c = true := fun a b c h1 h2 => by simp only [leB, decide_eq_true_eq] at *; exact List.le_trans h1 h2
  have to : ∀ a b : List UInt8, (leB a b || leB b a) = true := fun a b => by simp only [leB, Bool.or_eq_true, decide_eq_true_eq]; exact List.le_total a b
  refine List.Perm.eq_of_pairwise (le := fun a b => leB a b = true) (fun a b _ _ h1 h2 => ?_) (List.pairwise_mergeSort tr to ss) ?_ ((List.mergeSort_perm ss leB).trans (hp.trans ((sortB_perm l).map _).symm))
  · simp only [leB, decide_eq_true_eq] at h1 h2; exact List.le_antisymm h1 h2
  · refine List.pairwise_map.2 ((sortB_sorted l).imp fun h => ?_)
    simpa [leB] using h

theorem nodupK_ok : {l : List ByteArray} → nodupK l = true → l.Nodup
  | [], _ => .nil
  | x :: r, h => by
    simp only [nodupK, Bool.and_eq_true, List.all_eq_true] at h
    refine List.nodup_cons.2 ⟨fun hm => ?_, nodupK_ok h.2⟩
    have := h.1 x hm
    rw [mget_beq] at this
    simp at this
/- a map's keys, as the library's contracts want them -/
theorem insert_perm {H : Type} (x : Lit × DataW H) : (l : List (Lit × DataW H)) → (DataW.insert x l).Perm (x :: l)
  | [] => .refl _
  | y :: r => by
    unfold DataW.insert
    split
    · exact .refl _
    · exact ((insert_perm x r).cons y).trans (.swap x y r)
theorem foldr_insert_perm {H : Type} : (l : List (Lit × DataW H)) → (l.foldr DataW.insert []).Perm l
  | [] => .refl _
  | x :: r => (insert_perm x _).trans ((foldr_insert_perm r).cons x)
theorem Rents_keys {ag : Bool} {cs : Shs} : {es : List (ByteArray × Tup cs)} → {l : List MapEntry} → Rents w I ag cs es l → l.map (·.key) = es.map fun e => Value.string e.1
  | [], [], _ => rfl
  | [], _ :: _, h => h.elim
  | _ :: _, [], h => h.elim
  | _ :: _, _ :: _, ⟨h1, _, h2⟩ => by rw [List.map_cons, List.map_cons, h1, Rents_keys h2]

theorem rents_owns {k : TypeId} (hk : P.underlying k = some .string) {b : Nat} {ents : Array MapEntry} {clock : Nat} {ag : Bool} {cs : Shs} {es : List (ByteArray × Tup cs)} (hb : w.heap[b]? = some (.map ents clock)) (hr : Rents w I ag cs es ents.toList)
    (hborn : ∀ e ∈ ents.toList, e.born < clock) (hpw : (ents.toList.map (·.born)).Pairwise (· < ·)) (hok : keysOk (es.map (·.1)) = true) :
    ∃ D : DataW Unit, w.ownsMap P k (fun _ => some (.nil, [])) b ents.size D ∧ (strKeys D).Perm ((es.map (·.1)).map fun x => x.data.toList) ∧ Maps.size D = es.length := by
  have hkeys := Rents_keys hr
  have hlen := Rents_length hr
  simp only [keysOk, Bool.and_eq_true, List.all_eq_true] at hok
  obtain ⟨⟨hnd, hsz⟩, hn⟩ := hok
  have hn := Nat.le_of_ble_eq_true hn
  have hsz' : ∀ x ∈ ents.toList, ∃ s : ByteArray, x.key = .string s ∧ s.size ≤ maxLen := fun x hx => by
    have : x.key ∈ ents.toList.map (·.key) := List.mem_map_of_mem hx
    rw [hkeys] at this
    obtain ⟨e, he, h1⟩ := List.mem_map.1 this
    exact ⟨e.1, h1.symm, Nat.le_of_ble_eq_true (hsz e.1 (List.mem_map_of_mem he))⟩
  have hrd : ∀ x ∈ ents.toList, ∃ s : ByteArray, x.key = .string s ∧ Go.WideElems.rd (H := Unit) P k (fun _ => some (.nil, [])) x = some (.string s.data.toList, .nil) := fun x hx => by
    obtain ⟨s, h1, h2⟩ := hsz' x hx
    refine ⟨s, h1, ?_⟩
    unfold Go.WideElems.rd
    rw [h1]
    simp [keyOf, hk, mapKey, h2]
  have hstr : (ents.toList.map (Go.WideElems.rg (H := Unit) P k (fun _ => some (.nil, [])))).map (fun p => strOf p.1) = (es.map (·.1)).map fun x => x.data.toList := by
    have e1 : (ents.toList.map (Go.WideElems.rg (H := Unit) P k (fun _ => some (.nil, [])))).map (fun p => strOf p.1) = (ents.toList.map (·.key)).map fun v => match v with | .string s => s.data.toList | _ => [] := by
      rw [List.map_map, List.map_map]
      refine List.map_congr_left fun x hx => ?_
      obtain ⟨s, h1, h2⟩ := hrd x hx
      simp only [Function.comp, Go.WideElems.rg_of h2, h1]
      rfl
    rw [e1, hkeys, List.map_map, List.map_map]
    rfl
  refine ⟨.map ((ents.toList.map (Go.WideElems.rg P k (fun _ => some (.nil, [])))).foldr DataW.insert []), ⟨ents, clock, hb, ⟨?_, ?_, ?_⟩, Nat.le_refl _, rfl⟩, ?_, ?_⟩
  · simp only [List.length_map] at hn
    simp only [Array.length_toList] at hlen
    simp only [maxLen]
    omega
  · refine ⟨hborn, hpw.imp (fun h => Nat.ne_of_lt h), ?_⟩
    rw [hkeys]
    have := nodupK_ok hnd
    have e : (es.map fun e => Value.string e.1) = (es.map (·.1)).map Value.string := by rw [List.map_map]; rfl
    rw [e]
    exact List.pairwise_map.2 (this.imp fun h e => h (by simpa using e))
  · intro x hx
    obtain ⟨s, _, h2⟩ := hrd x hx
    exact ⟨_, h2⟩
  · show (List.map (fun p : Lit × DataW Unit => strOf p.1) _).Perm _
    rw [← hstr]
    exact (foldr_insert_perm _).map _
  · show List.length _ = _
    rw [(foldr_insert_perm _).length_eq]
    simp [hlen]
end
end Go.Eng
