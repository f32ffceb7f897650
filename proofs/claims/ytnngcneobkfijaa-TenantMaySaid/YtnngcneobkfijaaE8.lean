/- The engine, part 8: steps of memory: a new block, a row that is shut, a block that is written. -/
import Derived.Test.YtnngcneobkfijaaE7
set_option linter.unusedSimpArgs false
set_option linter.unusedVariables false
namespace Go.Eng
section
variable {P : Program} {w : World} {I : Nat → Prop} {ρ : Rho} {ob : Nat → Option Obj}

theorem newO_one {nid : Nat} {o : Obj} : newO ob nid [o] = fun i => if i = nid then some o else ob i := by
  funext i
  simp only [newO, List.length_singleton]
  by_cases e : i = nid
  · subst e; simp
  · rw [if_neg (by omega), if_neg e]

theorem alloc_step {w' : World} {nid : Nat} {o : Go.Obj} {obj : Obj} {x : Blk} (hH : RelH ob ρ I w) (hn : ρ nid = none) (hheap : w'.heap = w.heap.push o) (hos : w'.os = w.os) (htape : w'.tape = w.tape) (hout : w'.output = w.output)
    (hx : x.b = w.heap.size) (hreal : x.real = true) (hown : owned obj = true) (hro : Ro w' I (fun i => if i = nid then some x else ρ i) x obj) :
    Ext ob ρ I w (newO ob nid [obj]) (fun i => if i = nid then some x else ρ i) I w' ∧ RelH (newO ob nid [obj]) (fun i => if i = nid then some x else ρ i) I w' := by
  have hold : ∀ b, b < w.heap.size → w'.heap[b]? = w.heap[b]? := fun b hb => by rw [hheap, Array.getElem?_push, if_neg (by omega)]
  have hsz : w'.heap.size = w.heap.size + 1 := by rw [hheap, Array.size_push]
  have hρ : ∀ id y, ρ id = some y → (if id = nid then some x else ρ id) = some y := fun id y h => by
    by_cases e : id = nid
    · subst e; rw [hn] at h; cases h
    · rw [if_neg e]; exact h
  rw [newO_one]
  constructor
  · refine ⟨hos, htape, hout, by omega, hρ, fun _ h => h, fun _ _ h => .inl h, ?_, fun b hb _ => hold b hb⟩
    rintro b hb ⟨id, o', y, h1, h2, h3, h4, h5⟩
    by_cases e : id = nid
    · simp only [e, if_true, Option.some.injEq] at h3; subst h3; omega
    · simp only [e, if_false] at h1 h3; exact ⟨id, o', y, h1, h2, h3, h4, h5⟩
  · refine ⟨?_, ?_, ?_, ?_, fun b hb => by have := hH.immB b hb; omega⟩
    · intro id o' h1
      by_cases e : id = nid
      · simp only [e, if_true, Option.some.injEq] at h1 ⊢; subst h1; exact ⟨x, rfl, hro⟩
      · simp only [e, if_false] at h1 ⊢
        obtain ⟨y, h2, h3⟩ := hH.obj id o' h1
        exact ⟨y, h2, h3.mono (fun _ h => h) (fun b hb => hold b (hH.immB b hb)) hρ fun hr => hold _ (hH.blk id y h2 hr)⟩
    · intro id y h1 h2
      by_cases e : id = nid
      · simp only [e, if_true, Option.some.injEq] at h1; subst h1; omega
      · simp only [e, if_false] at h1; have := hH.blk id y h1 h2; omega
    · intro id id' o1 o2 x1 x2 h1 h2 w1 w2 hne h3 h4 h5 h6
      by_cases e : id = nid
      · have e' : id' ≠ nid := fun h => hne (e.trans h.symm)
        simp only [e, e', if_true, if_false, Option.some.injEq] at h1 h2 h3 h4
        subst h3
        have := hH.blk id' x2 h4 h6
        omega
      · by_cases e' : id' = nid
        · simp only [e, e', if_true, if_false, Option.some.injEq] at h1 h2 h3 h4
          subst h4
          have := hH.blk id x1 h3 h5
          omega
        · simp only [e, e', if_false] at h1 h2 h3 h4
          exact hH.disj id id' o1 o2 x1 x2 h1 h2 w1 w2 hne h3 h4 h5 h6
    · intro id o' y h1 h2 h3 h4
      by_cases e : id = nid
      · simp only [e, if_true, Option.some.injEq] at h3; subst h3
        intro hI; have := hH.immB _ hI; omega
      · simp only [e, if_false] at h1 h3; exact hH.actI id o' y h1 h2 h3 h4

/-- Some rows are shut: from now on nobody writes them. -/
def shutI (I : Nat → Prop) (ρ : Rho) (S : Nat → Prop) : Nat → Prop := fun b => I b ∨ ∃ id x, S id ∧ ρ id = some x ∧ x.real = true ∧ x.b = b
theorem freeze_step {S : Nat → Prop} {ob' : Nat → Option Obj} (hH : RelH ob ρ I w) (h1 : ∀ id, ¬ S id → ob' id = ob id) (h2 : ∀ id, S id → ∃ a l, ob id = some (.row a l .own) ∧ ob' id = some (.row a l .imm)) :
    Ext ob ρ I w ob' ρ (shutI I ρ S) w ∧ RelH ob' ρ (shutI I ρ S) w := by
  have hact : ∀ id o, ob' id = some o → owned o = true → ¬ S id ∧ ob id = some o := by
    intro id o h3 h4
    by_cases hs : S id
    · obtain ⟨a, l, _, h5⟩ := h2 id hs
      rw [h5] at h3; cases h3; simp [owned] at h4
    · exact ⟨hs, by rw [← h1 id hs]; exact h3⟩
  have hfrom : ∀ id o, ob' id = some o → ∃ o', ob id = some o' := by
    intro id o h3
    by_cases hs : S id
    · obtain ⟨a, l, h4, _⟩ := h2 id hs; exact ⟨_, h4⟩
    · exact ⟨o, by rw [← h1 id hs]; exact h3⟩
  constructor
  · refine ⟨rfl, rfl, rfl, Nat.le_refl _, fun _ _ h => h, fun b h => .inl h, ?_, ?_, fun _ _ _ => rfl⟩
    · rintro b _ (h | ⟨id, x, h3, h4, h5, h6⟩)
      · exact .inl h
      · obtain ⟨a, l, h7, _⟩ := h2 id h3
        exact .inr ⟨id, _, x, h7, rfl, h4, h5, h6⟩
    · rintro b _ ⟨id, o, x, h3, h4, h5⟩
      exact ⟨id, o, x, (hact id o h3 h4).2, h4, h5⟩
  · refine ⟨?_, hH.blk, ?_, ?_, ?_⟩
    · intro id o h3
      by_cases hs : S id
      · obtain ⟨a, l, h4, h5⟩ := h2 id hs
        rw [h5] at h3; cases h3
        obtain ⟨x, hx, hro⟩ := hH.obj id _ h4
        refine ⟨x, hx, ?_⟩
        obtain ⟨k1, k2, k3, k4⟩ := Ro.mono (I' := shutI I ρ S) (fun b h => .inl h) (fun _ _ => rfl) (fun _ _ h => h) (fun _ => rfl) hro
        refine ⟨k1, k2, k3, fun hr => ?_⟩
        obtain ⟨c, T, fz, m1, m2, m3, m4, m5, _⟩ := k4 hr
        exact ⟨c, T, fz, m1, m2, m3, m4, (fun h => by cases h), fun _ => .inr ⟨id, x, hs, hx, hr, rfl⟩⟩
      · rw [h1 id hs] at h3
        obtain ⟨x, hx, hro⟩ := hH.obj id _ h3
        exact ⟨x, hx, Ro.mono (fun b h => .inl h) (fun _ _ => rfl) (fun _ _ h => h) (fun _ => rfl) hro⟩
    · intro id id' o o' x x' h3 h4 w1 w2 hne h5 h6 h7 h8
      exact hH.disj id id' _ _ x x' (hact id o h3 w1).2 (hact id' o' h4 w2).2 w1 w2 hne h5 h6 h7 h8
    · intro id o x h3 h4 h5 h6
      obtain ⟨hs, k1⟩ := hact id o h3 h4
      rintro (h | ⟨id', x', h7, h8, h9, h10⟩)
      · exact hH.actI id o x k1 h4 h5 h6 h
      · obtain ⟨a, l, h11, _⟩ := h2 id' h7
        have hne : id ≠ id' := fun e => hs (e ▸ h7)
        exact hH.disj id id' _ _ x x' k1 h11 h4 rfl hne h5 h8 h6 h9 h10.symm
    · rintro b (h | ⟨id, x, _, h4, h5, h6⟩)
      · exact hH.immB b h
      · exact h6 ▸ hH.blk id x h4 h5

/-- An object of our own is written. -/
theorem write_step {w' : World} {id : Nat} {o o' : Obj} {x : Blk} (hH : RelH ob ρ I w) (ho : ob id = some o) (hown : owned o = true) (hx : ρ id = some x) (hreal : x.real = true) (hown' : owned o' = true)
    (hos : w'.os = w.os) (htape : w'.tape = w.tape) (hout : w'.output = w.output) (hsz : w'.heap.size = w.heap.size) (hold : ∀ b, b ≠ x.b → w'.heap[b]? = w.heap[b]?) (hro : Ro w' I ρ x o') :
    Ext ob ρ I w (fun i => if i = id then some o' else ob i) ρ I w' ∧ RelH (fun i => if i = id then some o' else ob i) ρ I w' := by
  have hI : ∀ b, I b → w'.heap[b]? = w.heap[b]? := fun b hb => hold b fun e => hH.actI id o x ho hown hx hreal (e ▸ hb)
  constructor
  · refine ⟨hos, htape, hout, by omega, fun _ _ h => h, fun _ h => h, fun _ _ h => .inl h, ?_, ?_⟩
    · rintro b _ ⟨id', o1, y, h1, h2, h3, h4, h5⟩
      by_cases e : id' = id
      · subst e; rw [hx] at h3; cases h3; exact ⟨id', o, x, ho, hown, hx, hreal, h5⟩
      · simp only [e, if_false] at h1; exact ⟨id', o1, y, h1, h2, h3, h4, h5⟩
    · intro b _ hna
      exact hold b fun e => hna ⟨id, o, x, ho, hown, hx, hreal, e.symm⟩
  · refine ⟨?_, fun id y h1 h2 => by have := hH.blk id y h1 h2; omega, ?_, ?_, fun b hb => by have := hH.immB b hb; omega⟩
    · intro id' o1 h1
      by_cases e : id' = id
      · subst e; simp only [if_true, Option.some.injEq] at h1; subst h1; exact ⟨x, hx, hro⟩
      · simp only [e, if_false] at h1
        obtain ⟨y, h2, h3⟩ := hH.obj id' o1 h1
        exact ⟨y, h2, h3.mono (fun _ h => h) hI (fun _ _ h => h) fun hr => hold _ (hH.apart id' id o1 o y x h1 ho hown e h2 hx hr hreal)⟩
    · intro i i' o1 o2 x1 x2 h1 h2 w1 w2 hne h3 h4 h5 h6
      have k1 : ∃ o, ob i = some o ∧ owned o = true := by
        by_cases e : i = id
        · exact ⟨o, e ▸ ho, hown⟩
        · simp only [e, if_false] at h1; exact ⟨o1, h1, w1⟩
      have k2 : ∃ o, ob i' = some o ∧ owned o = true := by
        by_cases e : i' = id
        · exact ⟨o, e ▸ ho, hown⟩
        · simp only [e, if_false] at h2; exact ⟨o2, h2, w2⟩
      obtain ⟨_, k1, v1⟩ := k1
      obtain ⟨_, k2, v2⟩ := k2
      exact hH.disj i i' _ _ x1 x2 k1 k2 v1 v2 hne h3 h4 h5 h6
    · intro i o1 y h1 h2 h3 h4
      by_cases e : i = id
      · subst e; rw [hx] at h3; cases h3; exact hH.actI i o x ho hown hx hreal
      · simp only [e, if_false] at h1; exact hH.actI i o1 y h1 h2 h3 h4

/- the rows that a list of cells shuts -/
def idsIn (cs : List C) (id : Nat) : Prop := ∃ c, c ∈ cs ∧ idOf c = some id
theorem idsIn_cons {c : C} {cs : List C} {id : Nat} : idsIn (c :: cs) id ↔ idOf c = some id ∨ idsIn cs id := by simp [idsIn]
def shutS (h : Heap) (cs : List C) (id : Nat) : Prop := idsIn cs id ∧ ∃ a l, h.at? id = some (.row a l .own)

theorem updO_shut {h : Heap} : (cs : List C) → (ob : Nat → Option Obj) → (id : Nat) →
    (¬ shutS h cs id → updO ob (shutIds h cs) id = ob id) ∧ (∀ a l, idsIn cs id → h.at? id = some (.row a l .own) → updO ob (shutIds h cs) id = some (.row a l .imm))
  | [], ob, id => ⟨fun _ => rfl, fun a l ⟨c, hc, _⟩ => by cases hc⟩
  | c :: cs, ob, id => by
    have plain : idOf c = none → shutIds h (c :: cs) = shutIds h cs := by
      intro hc; cases c <;> first | rfl | (simp [idOf] at hc)
    cases hi : idOf c with
    | none =>
      rw [plain hi]
      obtain ⟨k1, k2⟩ := updO_shut cs ob id
      refine ⟨fun hs => k1 fun ⟨h1, h2⟩ => hs ⟨idsIn_cons.2 (.inr h1), h2⟩, fun a l h1 h2 => k2 a l ((idsIn_cons.1 h1).resolve_left (by rw [hi]; simp)) h2⟩
    | some i0 =>
      have hsh : shutIds h (c :: cs) = match h.at? i0 with
          | some (.row a l .own) => (i0, some (.row a l .imm)) :: shutIds h cs
          | _ => shutIds h cs := by
        cases c <;> simp [idOf] at hi <;> subst hi <;> rfl
      rw [hsh]
      by_cases hrow : ∃ a l, h.at? i0 = some (.row a l .own)
      · obtain ⟨a, l, hrow⟩ := hrow
        simp only [hrow, updO]
        obtain ⟨k1, k2⟩ := updO_shut cs (fun i => if i = i0 then some (Obj.row a l .imm) else ob i) id
        refine ⟨fun hs => ?_, fun a' l' h1 h2 => ?_⟩
        · have hne : id ≠ i0 := fun e => hs ⟨idsIn_cons.2 (.inl (by rw [hi, e])), a, l, e ▸ hrow⟩
          rw [k1 fun ⟨h1, h2⟩ => hs ⟨idsIn_cons.2 (.inr h1), h2⟩, if_neg hne]
        · by_cases hin : idsIn cs id
          · exact k2 a' l' hin h2
          · have e : id = i0 := by
              rcases idsIn_cons.1 h1 with h | h
              · rw [hi] at h; exact (Option.some.inj h).symm
              · exact absurd h hin
            subst e
            rw [hrow] at h2
            cases h2
            rw [k1 fun ⟨h1, _⟩ => hin h1, if_pos rfl]
      · have hsh2 : (match h.at? i0 with
          | some (.row a l .own) => (i0, some (Obj.row a l .imm)) :: shutIds h cs
          | _ => shutIds h cs) = shutIds h cs := by
          split
          · rename_i a l hh; exact absurd ⟨a, l, hh⟩ hrow
          · rfl
        rw [hsh2]
        obtain ⟨k1, k2⟩ := updO_shut cs ob id
        refine ⟨fun hs => k1 fun ⟨h1, h2⟩ => hs ⟨idsIn_cons.2 (.inr h1), h2⟩, fun a l h1 h2 => k2 a l ((idsIn_cons.1 h1).resolve_left fun e => ?_) h2⟩
        rw [hi] at e; cases e
        exact hrow ⟨a, l, h2⟩

theorem updO_append : (l l' : List (Nat × Option Obj)) → (ob : Nat → Option Obj) → updO ob (l ++ l') = updO (updO ob l) l'
  | [], _, _ => rfl
  | (_, _) :: l, l', ob => updO_append l l' _

/-- What is shut may be read as data. -/
theorem shut_step {h : Heap} (cs : List C) (hH : RelH ob ρ I w) (hm : ∀ id o, h.at? id = some o → ob id = some o) :
    Ext ob ρ I w (updO ob (shutIds h cs)) ρ (shutI I ρ (shutS h cs)) w ∧ RelH (updO ob (shutIds h cs)) ρ (shutI I ρ (shutS h cs)) w :=
  freeze_step hH (fun id hs => (updO_shut cs ob id).1 hs) (fun id ⟨h1, a, l, h2⟩ => ⟨a, l, hm id _ h2, (updO_shut cs ob id).2 a l h1 h2⟩)

theorem row_data {I' : Nat → Prop} {x : Blk} {cs : Shs} {l : List (Tup cs)} {o : Own} (hro : Ro w I' ρ x (.row cs l o)) (hI : x.real = true → I' x.b) {ad : Option Addr} {cap off n : Nat} (hat : SlAt x (off * x.sz) cap ad) (hn : off + n ≤ l.length) (hcap : n ≤ cap) :
    Rd w I' (.lst cs) ((l.drop off).take n) (.slice ad n cap) := by
  obtain ⟨k1, k2, k3, k4⟩ := hro
  have hl : ((l.drop off).take n).length = n := by simp; omega
  refine ⟨ad, cap, by rw [show List.length (asL cs ((l.drop off).take n)) = n from hl], by show List.length ((l.drop off).take n) ≤ _; rw [hl]; exact hcap, ?_, ?_⟩
  · intro h
    show List.length ((l.drop off).take n) = 0
    have := hat.1 h
    omega
  · intro y hy hl0
    have hl0 : n ≠ 0 := by have h : List.length ((l.drop off).take n) ≠ 0 := hl0; rwa [hl] at h
    rcases hat.2 y hy with h | ⟨h1, rfl, h3⟩
    · omega
    · obtain ⟨c, T, fz, m1, m2, m3, m4, _⟩ := k4 h1
      refine ⟨rfl, hI h1, fun i t hi => ?_⟩
      obtain ⟨h4, _⟩ := sub_get hi
      have := m4 (off + i) t h4
      rw [k2]
      rwa [Nat.add_mul] at this

theorem conv_ok {h : Heap} {I' : Nat → Prop} {ob' : Nat → Option Obj} (hH' : RelH ob' ρ I' w) (hI : ∀ b, I b → I' b) {c : C} (hrow : ∀ id a l o, idOf c = some id → h.at? id = some (.row a l o) → ob' id = some (.row a l .imm)) {v : Value} (hc : Rc w I ρ c v) : Rc w I' ρ (convC h c) v := by
  have hc' := hc.mono hI (fun _ _ => rfl) (fun _ _ h => h)
  cases c with
  | rw id sz k =>
    simp only [convC]
    split
    · rename_i a l o hat
      obtain ⟨x, ad, cap, h1, h2, rfl, h4, h5⟩ := hc
      obtain ⟨y, hy, hro⟩ := hH'.obj id _ (hrow id a l o rfl hat)
      rw [h1] at hy; cases hy
      have hro' := hro
      obtain ⟨k1, k2, k3, k4⟩ := hro'
      have := row_data (off := 0) (n := x.len) hro (fun hr => by obtain ⟨_, _, _, _, _, _, _, _, h⟩ := k4 hr; exact h rfl) (by simpa using h5) (by omega) h4
      rw [List.drop_zero, k1, List.take_of_length_le (Nat.le_refl _)] at this
      rwa [← k1] at this
    · exact hc'
  | sl id sz off len =>
    simp only [convC]
    split
    · rename_i a l o hat
      obtain ⟨x, ad, cap, h1, h2, rfl, h4, h5, h6⟩ := hc
      obtain ⟨y, hy, hro⟩ := hH'.obj id _ (hrow id a l o rfl hat)
      rw [h1] at hy; cases hy
      have hro' := hro
      obtain ⟨k1, k2, k3, k4⟩ := hro'
      exact row_data hro (fun hr => by obtain ⟨_, _, _, _, _, _, _, _, h⟩ := k4 hr; exact h rfl) (by rw [h2]; exact h6) (by omega) h4
    · exact hc'
  | _ => exact hc'

/-- the cells of a list, converted, behind its shutting -/
theorem conv_all {h : Heap} (cs : List C) (hH : RelH ob ρ I w) (hm : ∀ id o, h.at? id = some o → ob id = some o) : {ds : List C} → {vs : List Value} → (∀ c, c ∈ ds → c ∈ cs) → Rcs w I ρ ds vs →
    Rcs w (shutI I ρ (shutS h cs)) ρ (ds.map (convC h)) vs
  | [], [], _, _ => trivial
  | [], _ :: _, _, hr => hr.elim
  | _ :: _, [], _, hr => hr.elim
  | c :: ds, v :: vs, hin, ⟨h1, h2⟩ => by
    obtain ⟨_, hH'⟩ := shut_step cs hH hm
    refine ⟨conv_ok hH' (fun b hb => .inl hb) ?_ h1, conv_all cs hH hm (fun c hc => hin c (List.mem_cons_of_mem _ hc)) h2⟩
    intro id a l o hid hat
    have hin' : idsIn cs id := ⟨c, hin c (List.mem_cons_self ..), hid⟩
    cases o with
    | own => exact (updO_shut cs ob id).2 a l hin' hat
    | imm =>
      rw [(updO_shut cs ob id).1 fun ⟨_, a', l', h⟩ => by rw [hat] at h; cases h]
      exact hm id _ hat
end
end Go.Eng
