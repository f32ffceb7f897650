/- Contracts by reckoning. -/
import Derived.Test.YtnngcneobkfijaaF0
import Derived.Test.YtnngcneobkfijaaFN
import Derived.Test.YtnngcneobkfijaaFC
import Derived.Test.YtnngcneobkfijaaK1
set_option maxRecDepth 100000
namespace Go.Proofs.Ytnngcneobkfijaa
open Go.Eng
noncomputable def envF1_0 : List (Nat × Bool × Eng.Spec) := (66, false, idxSpec) :: []
theorem envOkF1_0 : EnvOk Try.prog (envOf envF1_0) := envOf_cons idxOk envOf_nil
noncomputable def X59 : Ctx := ⟨Try.prog, envOf envF1_0, 19, fun _ _ => none, 64, [], 0, 0⟩
noncomputable def sp59 : Eng.Spec := evSpec X59 Try.f59 (bodyOf Try.f59)
theorem ok59 : SpecOk Try.prog 59 sp59 := evSpec_ok (X := X59) mixed envOkF1_0 Try.func59 (by kernel_rfl) (by kernel_rfl) (by kernel_rfl) (fun _ => lpOk_none (fun _ _ => rfl) _)
noncomputable def envF1_1 : List (Nat × Bool × Eng.Spec) := (59, false, sp59) :: envF1_0
theorem envOkF1_1 : EnvOk Try.prog (envOf envF1_1) := envOf_cons ok59 envOkF1_0
noncomputable def X47 : Ctx := ⟨Try.prog, envOf envF1_1, 19, fun _ _ => none, 64, [], 0, 0⟩
noncomputable def sp47 : Eng.Spec := evSpec X47 Try.f47 (bodyOf Try.f47)
theorem ok47 : SpecOk Try.prog 47 sp47 := evSpec_ok (X := X47) mixed envOkF1_1 Try.func47 (by kernel_rfl) (by kernel_rfl) (by kernel_rfl) (fun _ => lpOk_none (fun _ _ => rfl) _)
noncomputable def envF1_2 : List (Nat × Bool × Eng.Spec) := (47, false, sp47) :: envF1_1
theorem envOkF1_2 : EnvOk Try.prog (envOf envF1_2) := envOf_cons ok47 envOkF1_1
noncomputable def X29 : Ctx := ⟨Try.prog, envOf envF1_2, 5, fun _ _ => none, 64, [], 0, 0⟩
noncomputable def sp29 : Eng.Spec := evSpec X29 Try.f29 (bodyOf Try.f29)
theorem ok29 : SpecOk Try.prog 29 sp29 := evSpec_ok (X := X29) mixed envOkF1_2 Try.func29 (by kernel_rfl) (by kernel_rfl) (by kernel_rfl) (fun _ => lpOk_none (fun _ _ => rfl) _)
noncomputable def envF1_3 : List (Nat × Bool × Eng.Spec) := (29, false, sp29) :: envF1_2
theorem envOkF1_3 : EnvOk Try.prog (envOf envF1_3) := envOf_cons ok29 envOkF1_2
noncomputable def X28 : Ctx := ⟨Try.prog, envOf envF1_3, 5, fun _ _ => none, 64, [], 0, 0⟩
noncomputable def sp28 : Eng.Spec := evSpec X28 Try.f28 (bodyOf Try.f28)
theorem ok28 : SpecOk Try.prog 28 sp28 := evSpec_ok (X := X28) mixed envOkF1_3 Try.func28 (by kernel_rfl) (by kernel_rfl) (by kernel_rfl) (fun _ => lpOk_none (fun _ _ => rfl) _)
noncomputable def envF1_4 : List (Nat × Bool × Eng.Spec) := (28, false, sp28) :: envF1_3
theorem envOkF1_4 : EnvOk Try.prog (envOf envF1_4) := envOf_cons ok28 envOkF1_3
noncomputable def X39 : Ctx := ⟨Try.prog, envOf envF1_4, 66483, fun _ _ => none, 64, [], 0, 0⟩
noncomputable def sp39 : Eng.Spec := evSpec X39 Try.f39 (bodyOf Try.f39)
theorem ok39 : SpecOk Try.prog 39 sp39 := evSpec_ok (X := X39) mixed envOkF1_4 Try.func39 (by kernel_rfl) (by kernel_rfl) (by kernel_rfl) (fun _ => lpOk_none (fun _ _ => rfl) _)
noncomputable def envF1_5 : List (Nat × Bool × Eng.Spec) := (39, false, sp39) :: envF1_4
theorem envOkF1_5 : EnvOk Try.prog (envOf envF1_5) := envOf_cons ok39 envOkF1_4
noncomputable def X30 : Ctx := ⟨Try.prog, envOf envF1_5, 19, fun _ _ => none, 64, [], 0, 0⟩
noncomputable def sp30 : Eng.Spec := evSpec X30 Try.f30 (bodyOf Try.f30)
theorem ok30 : SpecOk Try.prog 30 sp30 := evSpec_ok (X := X30) mixed envOkF1_5 Try.func30 (by kernel_rfl) (by kernel_rfl) (by kernel_rfl) (fun _ => lpOk_none (fun _ _ => rfl) _)
noncomputable def envF1_6 : List (Nat × Bool × Eng.Spec) := (30, false, sp30) :: envF1_5
theorem envOkF1_6 : EnvOk Try.prog (envOf envF1_6) := envOf_cons ok30 envOkF1_5
noncomputable def X43 : Ctx := ⟨Try.prog, envOf envF1_6, 5, fun _ _ => none, 64, [], 0, 0⟩
noncomputable def sp43 : Eng.Spec := evSpec X43 Try.f43 (bodyOf Try.f43)
theorem ok43 : SpecOk Try.prog 43 sp43 := evSpec_ok (X := X43) mixed envOkF1_6 Try.func43 (by kernel_rfl) (by kernel_rfl) (by kernel_rfl) (fun _ => lpOk_none (fun _ _ => rfl) _)
noncomputable def envF1_7 : List (Nat × Bool × Eng.Spec) := (43, false, sp43) :: envF1_6
theorem envOkF1_7 : EnvOk Try.prog (envOf envF1_7) := envOf_cons ok43 envOkF1_6
noncomputable def X38 : Ctx := ⟨Try.prog, envOf envF1_7, 5, fun _ _ => none, 64, [], 0, 0⟩
noncomputable def sp38 : Eng.Spec := evSpec X38 Try.f38 (bodyOf Try.f38)
theorem ok38 : SpecOk Try.prog 38 sp38 := evSpec_ok (X := X38) mixed envOkF1_7 Try.func38 (by kernel_rfl) (by kernel_rfl) (by kernel_rfl) (fun _ => lpOk_none (fun _ _ => rfl) _)
noncomputable def envF1_8 : List (Nat × Bool × Eng.Spec) := (38, false, sp38) :: envF1_7
theorem envOkF1_8 : EnvOk Try.prog (envOf envF1_8) := envOf_cons ok38 envOkF1_7
noncomputable def X37 : Ctx := ⟨Try.prog, envOf envF1_8, 66483, fun _ _ => none, 64, [], 0, 0⟩
noncomputable def sp37 : Eng.Spec := evSpec X37 Try.f37 (bodyOf Try.f37)
theorem ok37 : SpecOk Try.prog 37 sp37 := evSpec_ok (X := X37) mixed envOkF1_8 Try.func37 (by kernel_rfl) (by kernel_rfl) (by kernel_rfl) (fun _ => lpOk_none (fun _ _ => rfl) _)
noncomputable def envF1_9 : List (Nat × Bool × Eng.Spec) := (37, false, sp37) :: envF1_8
theorem envOkF1_9 : EnvOk Try.prog (envOf envF1_9) := envOf_cons ok37 envOkF1_8
noncomputable def X42 : Ctx := ⟨Try.prog, envOf envF1_9, 2098157, fun _ _ => none, 64, [], 0, 0⟩
noncomputable def sp42 : Eng.Spec := evSpec X42 Try.f42 (bodyOf Try.f42)
theorem ok42 : SpecOk Try.prog 42 sp42 := evSpec_ok (X := X42) mixed envOkF1_9 Try.func42 (by kernel_rfl) (by kernel_rfl) (by kernel_rfl) (fun _ => lpOk_none (fun _ _ => rfl) _)
noncomputable def envF1_10 : List (Nat × Bool × Eng.Spec) := (42, false, sp42) :: envF1_9
theorem envOkF1_10 : EnvOk Try.prog (envOf envF1_10) := envOf_cons ok42 envOkF1_9
noncomputable def X41 : Ctx := ⟨Try.prog, envOf envF1_10, 11, fun _ _ => none, 64, [], 0, 0⟩
noncomputable def sp41 : Eng.Spec := evSpec X41 Try.f41 (bodyOf Try.f41)
theorem ok41 : SpecOk Try.prog 41 sp41 := evSpec_ok (X := X41) mixed envOkF1_10 Try.func41 (by kernel_rfl) (by kernel_rfl) (by kernel_rfl) (fun _ => lpOk_none (fun _ _ => rfl) _)
noncomputable def envF1_11 : List (Nat × Bool × Eng.Spec) := (41, false, sp41) :: envF1_10
theorem envOkF1_11 : EnvOk Try.prog (envOf envF1_11) := envOf_cons ok41 envOkF1_10
noncomputable def X40 : Ctx := ⟨Try.prog, envOf envF1_11, 3885, fun _ _ => none, 64, [], 0, 0⟩
noncomputable def sp40 : Eng.Spec := evSpec X40 Try.f40 (bodyOf Try.f40)
theorem ok40 : SpecOk Try.prog 40 sp40 := evSpec_ok (X := X40) mixed envOkF1_11 Try.func40 (by kernel_rfl) (by kernel_rfl) (by kernel_rfl) (fun _ => lpOk_none (fun _ _ => rfl) _)
noncomputable def envF1_12 : List (Nat × Bool × Eng.Spec) := (40, false, sp40) :: envF1_11
theorem envOkF1_12 : EnvOk Try.prog (envOf envF1_12) := envOf_cons ok40 envOkF1_11
noncomputable def X31 : Ctx := ⟨Try.prog, envOf envF1_12, 4294971389, fun _ _ => none, 64, [], 0, 0⟩
noncomputable def sp31 : Eng.Spec := evSpec X31 Try.f31 (bodyOf Try.f31)
theorem ok31 : SpecOk Try.prog 31 sp31 := evSpec_ok (X := X31) mixed envOkF1_12 Try.func31 (by kernel_rfl) (by kernel_rfl) (by kernel_rfl) (fun _ => lpOk_none (fun _ _ => rfl) _)
noncomputable def envF1_13 : List (Nat × Bool × Eng.Spec) := (31, false, sp31) :: envF1_12
theorem envOkF1_13 : EnvOk Try.prog (envOf envF1_13) := envOf_cons ok31 envOkF1_12
noncomputable def X32 : Ctx := ⟨Try.prog, envOf envF1_13, 4644337115741427, fun _ _ => none, 64, [], 0, 0⟩
noncomputable def sp32 : Eng.Spec := evSpec X32 Try.f32 (bodyOf Try.f32)
theorem ok32 : SpecOk Try.prog 32 sp32 := evSpec_ok (X := X32) mixed envOkF1_13 Try.func32 (by kernel_rfl) (by kernel_rfl) (by kernel_rfl) (fun _ => lpOk_none (fun _ _ => rfl) _)
noncomputable def envF1_14 : List (Nat × Bool × Eng.Spec) := (32, false, sp32) :: envF1_13
theorem envOkF1_14 : EnvOk Try.prog (envOf envF1_14) := envOf_cons ok32 envOkF1_13
noncomputable def X20 : Ctx := ⟨Try.prog, envOf envF1_14, 15, fun _ _ => none, 64, [], 0, 0⟩
noncomputable def sp20 : Eng.Spec := evSpec X20 Try.f20 (bodyOf Try.f20)
theorem ok20 : SpecOk Try.prog 20 sp20 := evSpec_ok (X := X20) mixed envOkF1_14 Try.func20 (by kernel_rfl) (by kernel_rfl) (by kernel_rfl) (fun _ => lpOk_none (fun _ _ => rfl) _)
noncomputable def envF1_15 : List (Nat × Bool × Eng.Spec) := (20, false, sp20) :: envF1_14
theorem envOkF1_15 : EnvOk Try.prog (envOf envF1_15) := envOf_cons ok20 envOkF1_14
noncomputable def X19 : Ctx := ⟨Try.prog, envOf envF1_15, 7, fun _ _ => none, 64, [], 0, 0⟩
noncomputable def sp19 : Eng.Spec := evSpec X19 Try.f19 (bodyOf Try.f19)
theorem ok19 : SpecOk Try.prog 19 sp19 := evSpec_ok (X := X19) mixed envOkF1_15 Try.func19 (by kernel_rfl) (by kernel_rfl) (by kernel_rfl) (fun _ => lpOk_none (fun _ _ => rfl) _)
noncomputable def envF1_16 : List (Nat × Bool × Eng.Spec) := (19, false, sp19) :: envF1_15
theorem envOkF1_16 : EnvOk Try.prog (envOf envF1_16) := envOf_cons ok19 envOkF1_15
noncomputable def X33 : Ctx := ⟨Try.prog, envOf envF1_16, 66483, fun _ _ => none, 64, [], 0, 0⟩
noncomputable def sp33 : Eng.Spec := evSpec X33 Try.f33 (bodyOf Try.f33)
theorem ok33 : SpecOk Try.prog 33 sp33 := evSpec_ok (X := X33) mixed envOkF1_16 Try.func33 (by kernel_rfl) (by kernel_rfl) (by kernel_rfl) (fun _ => lpOk_none (fun _ _ => rfl) _)
noncomputable def envF1_17 : List (Nat × Bool × Eng.Spec) := (33, false, sp33) :: envF1_16
theorem envOkF1_17 : EnvOk Try.prog (envOf envF1_17) := envOf_cons ok33 envOkF1_16
noncomputable def X21 : Ctx := ⟨Try.prog, envOf envF1_17, 19, fun _ _ => none, 64, [], 0, 0⟩
noncomputable def sp21 : Eng.Spec := evSpec X21 Try.f21 (bodyOf Try.f21)
theorem ok21 : SpecOk Try.prog 21 sp21 := evSpec_ok (X := X21) mixed envOkF1_17 Try.func21 (by kernel_rfl) (by kernel_rfl) (by kernel_rfl) (fun _ => lpOk_none (fun _ _ => rfl) _)
noncomputable def envF1_18 : List (Nat × Bool × Eng.Spec) := (21, false, sp21) :: envF1_17
theorem envOkF1_18 : EnvOk Try.prog (envOf envF1_18) := envOf_cons ok21 envOkF1_17
noncomputable def X14 : Ctx := ⟨Try.prog, envOf envF1_18, 1073742301, fun _ _ => none, 64, [], 0, 0⟩
noncomputable def sp14 : Eng.Spec := evSpec X14 Try.f14 (bodyOf Try.f14)
theorem ok14 : SpecOk Try.prog 14 sp14 := evSpec_ok (X := X14) mixed envOkF1_18 Try.func14 (by kernel_rfl) (by kernel_rfl) (by kernel_rfl) (fun _ => lpOk_none (fun _ _ => rfl) _)
noncomputable def envF1_19 : List (Nat × Bool × Eng.Spec) := (14, false, sp14) :: envF1_18
theorem envOkF1_19 : EnvOk Try.prog (envOf envF1_19) := envOf_cons ok14 envOkF1_18
noncomputable def X7 : Ctx := ⟨Try.prog, envOf envF1_19, 1, fun _ _ => none, 64, [], 0, 0⟩
noncomputable def sp7 : Eng.Spec := evSpec X7 Try.f7 (bodyOf Try.f7)
theorem ok7 : SpecOk Try.prog 7 sp7 := evSpec_ok (X := X7) mixed envOkF1_19 Try.func7 (by kernel_rfl) (by kernel_rfl) (by kernel_rfl) (fun _ => lpOk_none (fun _ _ => rfl) _)
noncomputable def envF1_20 : List (Nat × Bool × Eng.Spec) := (7, false, sp7) :: envF1_19
theorem envOkF1_20 : EnvOk Try.prog (envOf envF1_20) := envOf_cons ok7 envOkF1_19
noncomputable def X27 : Ctx := ⟨Try.prog, envOf envF1_20, 5, fun _ _ => none, 64, [], 0, 0⟩
noncomputable def sp27 : Eng.Spec := evSpec X27 Try.f27 (bodyOf Try.f27)
theorem ok27 : SpecOk Try.prog 27 sp27 := evSpec_ok (X := X27) mixed envOkF1_20 Try.func27 (by kernel_rfl) (by kernel_rfl) (by kernel_rfl) (fun _ => lpOk_none (fun _ _ => rfl) _)
noncomputable def envF1_21 : List (Nat × Bool × Eng.Spec) := (27, false, sp27) :: envF1_20
theorem envOkF1_21 : EnvOk Try.prog (envOf envF1_21) := envOf_cons ok27 envOkF1_20
noncomputable def X18 : Ctx := ⟨Try.prog, envOf envF1_21, 23, fun _ _ => none, 64, [], 0, 0⟩
noncomputable def sp18 : Eng.Spec := evSpec X18 Try.f18 (bodyOf Try.f18)
theorem ok18 : SpecOk Try.prog 18 sp18 := evSpec_ok (X := X18) mixed envOkF1_21 Try.func18 (by kernel_rfl) (by kernel_rfl) (by kernel_rfl) (fun _ => lpOk_none (fun _ _ => rfl) _)
noncomputable def envF1_22 : List (Nat × Bool × Eng.Spec) := (18, false, sp18) :: envF1_21
theorem envOkF1_22 : EnvOk Try.prog (envOf envF1_22) := envOf_cons ok18 envOkF1_21
noncomputable def X17 : Ctx := ⟨Try.prog, envOf envF1_22, 11, fun _ _ => none, 64, [], 0, 0⟩
noncomputable def sp17 : Eng.Spec := evSpec X17 Try.f17 (bodyOf Try.f17)
theorem ok17 : SpecOk Try.prog 17 sp17 := evSpec_ok (X := X17) mixed envOkF1_22 Try.func17 (by kernel_rfl) (by kernel_rfl) (by kernel_rfl) (fun _ => lpOk_none (fun _ _ => rfl) _)
noncomputable def envF1_23 : List (Nat × Bool × Eng.Spec) := (17, false, sp17) :: envF1_22
theorem envOkF1_23 : EnvOk Try.prog (envOf envF1_23) := envOf_cons ok17 envOkF1_22
noncomputable def X26 : Ctx := ⟨Try.prog, envOf envF1_23, 66483, fun _ _ => none, 64, [], 0, 0⟩
noncomputable def sp26 : Eng.Spec := evSpec X26 Try.f26 (bodyOf Try.f26)
theorem ok26 : SpecOk Try.prog 26 sp26 := evSpec_ok (X := X26) mixed envOkF1_23 Try.func26 (by kernel_rfl) (by kernel_rfl) (by kernel_rfl) (fun _ => lpOk_none (fun _ _ => rfl) _)
noncomputable def envF1_24 : List (Nat × Bool × Eng.Spec) := (26, false, sp26) :: envF1_23
theorem envOkF1_24 : EnvOk Try.prog (envOf envF1_24) := envOf_cons ok26 envOkF1_23
noncomputable def X16 : Ctx := ⟨Try.prog, envOf envF1_24, 19, fun _ _ => none, 64, [], 0, 0⟩
noncomputable def sp16 : Eng.Spec := evSpec X16 Try.f16 (bodyOf Try.f16)
theorem ok16 : SpecOk Try.prog 16 sp16 := evSpec_ok (X := X16) mixed envOkF1_24 Try.func16 (by kernel_rfl) (by kernel_rfl) (by kernel_rfl) (fun _ => lpOk_none (fun _ _ => rfl) _)
noncomputable def envF1_25 : List (Nat × Bool × Eng.Spec) := (16, false, sp16) :: envF1_24
theorem envOkF1_25 : EnvOk Try.prog (envOf envF1_25) := envOf_cons ok16 envOkF1_24
noncomputable def X10 : Ctx := ⟨Try.prog, envOf envF1_25, 16575, fun _ _ => none, 64, [], 0, 0⟩
noncomputable def sp10 : Eng.Spec := evSpec X10 Try.f10 (bodyOf Try.f10)
theorem ok10 : SpecOk Try.prog 10 sp10 := evSpec_ok (X := X10) mixed envOkF1_25 Try.func10 (by kernel_rfl) (by kernel_rfl) (by kernel_rfl) (fun _ => lpOk_none (fun _ _ => rfl) _)
noncomputable def envF1_26 : List (Nat × Bool × Eng.Spec) := (10, false, sp10) :: envF1_25
theorem envOkF1_26 : EnvOk Try.prog (envOf envF1_26) := envOf_cons ok10 envOkF1_25
noncomputable def envF1_27 : List (Nat × Bool × Eng.Spec) := (24, false, cloneSpec24) :: envF1_26
theorem envOkF1_27 : EnvOk Try.prog (envOf envF1_27) := envOf_cons cloneOk24 envOkF1_26
noncomputable def envF1_28 : List (Nat × Bool × Eng.Spec) := (25, false, cloneSpec25) :: envF1_27
theorem envOkF1_28 : EnvOk Try.prog (envOf envF1_28) := envOf_cons cloneOk25 envOkF1_27
noncomputable def X15 : Ctx := ⟨Try.prog, envOf envF1_28, 1967, fun _ _ => none, 64, [], 0, 0⟩
noncomputable def sp15 : Eng.Spec := evSpec X15 Try.f15 (bodyOf Try.f15)
theorem ok15 : SpecOk Try.prog 15 sp15 := evSpec_ok (X := X15) mixed envOkF1_28 Try.func15 (by kernel_rfl) (by kernel_rfl) (by kernel_rfl) (fun _ => lpOk_none (fun _ _ => rfl) _)
noncomputable def envF1_29 : List (Nat × Bool × Eng.Spec) := (15, false, sp15) :: envF1_28
theorem envOkF1_29 : EnvOk Try.prog (envOf envF1_29) := envOf_cons ok15 envOkF1_28
noncomputable def X8 : Ctx := ⟨Try.prog, envOf envF1_29, 671351143, fun _ _ => none, 64, [], 0, 0⟩
noncomputable def sp8 : Eng.Spec := evSpec X8 Try.f8 (bodyOf Try.f8)
theorem ok8 : SpecOk Try.prog 8 sp8 := evSpec_ok (X := X8) mixed envOkF1_29 Try.func8 (by kernel_rfl) (by kernel_rfl) (by kernel_rfl) (fun _ => lpOk_none (fun _ _ => rfl) _)
noncomputable def envF1_30 : List (Nat × Bool × Eng.Spec) := (8, false, sp8) :: envF1_29
theorem envOkF1_30 : EnvOk Try.prog (envOf envF1_30) := envOf_cons ok8 envOkF1_29
noncomputable def X9 : Ctx := ⟨Try.prog, envOf envF1_30, 4719047, fun _ _ => none, 64, [], 0, 0⟩
noncomputable def sp9 : Eng.Spec := evSpec X9 Try.f9 (bodyOf Try.f9)
theorem ok9 : SpecOk Try.prog 9 sp9 := evSpec_ok (X := X9) mixed envOkF1_30 Try.func9 (by kernel_rfl) (by kernel_rfl) (by kernel_rfl) (fun _ => lpOk_none (fun _ _ => rfl) _)
noncomputable def envF1_31 : List (Nat × Bool × Eng.Spec) := (9, false, sp9) :: envF1_30
theorem envOkF1_31 : EnvOk Try.prog (envOf envF1_31) := envOf_cons ok9 envOkF1_30
noncomputable def X12 : Ctx := ⟨Try.prog, envOf envF1_31, 131155, fun _ _ => none, 64, [], 0, 0⟩
noncomputable def sp12 : Eng.Spec := evSpec X12 Try.f12 (bodyOf Try.f12)
theorem ok12 : SpecOk Try.prog 12 sp12 := evSpec_ok (X := X12) mixed envOkF1_31 Try.func12 (by kernel_rfl) (by kernel_rfl) (by kernel_rfl) (fun _ => lpOk_none (fun _ _ => rfl) _)
noncomputable def envF1_32 : List (Nat × Bool × Eng.Spec) := (12, false, sp12) :: envF1_31
theorem envOkF1_32 : EnvOk Try.prog (envOf envF1_32) := envOf_cons ok12 envOkF1_31
noncomputable def X13 : Ctx := ⟨Try.prog, envOf envF1_32, 243, fun _ _ => none, 64, [], 0, 0⟩
noncomputable def sp13 : Eng.Spec := evSpec X13 Try.f13 (bodyOf Try.f13)
theorem ok13 : SpecOk Try.prog 13 sp13 := evSpec_ok (X := X13) mixed envOkF1_32 Try.func13 (by kernel_rfl) (by kernel_rfl) (by kernel_rfl) (fun _ => lpOk_none (fun _ _ => rfl) _)
noncomputable def envF1_33 : List (Nat × Bool × Eng.Spec) := (13, false, sp13) :: envF1_32
theorem envOkF1_33 : EnvOk Try.prog (envOf envF1_33) := envOf_cons ok13 envOkF1_32
noncomputable def X23 : Ctx := ⟨Try.prog, envOf envF1_33, 7, fun _ _ => none, 64, [], 0, 0⟩
noncomputable def sp23 : Eng.Spec := evSpec X23 Try.f23 (bodyOf Try.f23)
theorem ok23 : SpecOk Try.prog 23 sp23 := evSpec_ok (X := X23) mixed envOkF1_33 Try.func23 (by kernel_rfl) (by kernel_rfl) (by kernel_rfl) (fun _ => lpOk_none (fun _ _ => rfl) _)
noncomputable def envF1_34 : List (Nat × Bool × Eng.Spec) := (23, false, sp23) :: envF1_33
theorem envOkF1_34 : EnvOk Try.prog (envOf envF1_34) := envOf_cons ok23 envOkF1_33
noncomputable def envF1_35 : List (Nat × Bool × Eng.Spec) := (22, true, sortedSpec) :: envF1_34
theorem envOkF1_35 : EnvOk Try.prog (envOf envF1_35) := envOf_cons sortedOk envOkF1_34
noncomputable def X11 : Ctx := ⟨Try.prog, envOf envF1_35, 5, fun _ _ => none, 64, [], 0, 0⟩
noncomputable def sp11 : Eng.Spec := evSpec X11 Try.f11 (bodyOf Try.f11)
theorem ok11 : SpecOk Try.prog 11 sp11 := evSpec_ok (X := X11) mixed envOkF1_35 Try.func11 (by kernel_rfl) (by kernel_rfl) (by kernel_rfl) (fun _ => lpOk_none (fun _ _ => rfl) _)
noncomputable def envF1_36 : List (Nat × Bool × Eng.Spec) := (11, false, sp11) :: envF1_35
theorem envOkF1_36 : EnvOk Try.prog (envOf envF1_36) := envOf_cons ok11 envOkF1_35
noncomputable def X6 : Ctx := ⟨Try.prog, envOf envF1_36, 9983, fun _ _ => none, 64, [], 0, 0⟩
noncomputable def sp6 : Eng.Spec := evSpec X6 Try.f6 (bodyOf Try.f6)
theorem ok6 : SpecOk Try.prog 6 sp6 := evSpec_ok (X := X6) mixed envOkF1_36 Try.func6 (by kernel_rfl) (by kernel_rfl) (by kernel_rfl) (fun _ => lpOk_none (fun _ _ => rfl) _)
noncomputable def envF1_37 : List (Nat × Bool × Eng.Spec) := (6, false, sp6) :: envF1_36
theorem envOkF1_37 : EnvOk Try.prog (envOf envF1_37) := envOf_cons ok6 envOkF1_36
end Go.Proofs.Ytnngcneobkfijaa
