/- The document's forms: Code, Raw, lead, Size. The document's value of a sign. -/
import Derived.Test.YtikllkldhnncnaaGreatDoorFd
set_option linter.all false
namespace Go.Proofs
open Go Go.Aw
set_option maxRecDepth 100000
theorem eight {k : Nat} (h1 : 1 ≤ k) (h2 : k ≤ 8) : k = 1 ∨ k = 2 ∨ k = 3 ∨ k = 4 ∨ k = 5 ∨ k = 6 ∨ k = 7 ∨ k = 8 := by omega
def codeS (k : Nat) : List UInt8 := (formsL.getD (k - 1) ([], 0)).1
def rawN (k : Nat) : Nat := (formsL.getD (k - 1) ([], 0)).2
theorem code_spec {k : Nat} (h1 : 1 ≤ k) (h2 : k ≤ 8) : Go.Aw.Pure Tryz.prog 42 [.lit (.int .i64 k)] (.tup [.str (codeS k), .lit (.bool true)]) := by
  rcases eight h1 h2 with rfl | rfl | rfl | rfl | rfl | rfl | rfl | rfl
  all_goals
    refine Pure.ofS Tryz.func42 (c := Tryz.f42.body.getD .skip) rfl (by kernel_rfl) Tryz.ntmps42 (by simp) fun hs R hR => ?_
    refine S.run tab_ok Tryz.func42 rfl .nil _ _ fun P hP => ?_
    cbv
    exact hR
theorem raw_spec {k : Nat} (h1 : 1 ≤ k) (h2 : k ≤ 8) : Go.Aw.Pure Tryz.prog 43 [.lit (.int .i64 k)] (.lit (.int .i64 (rawN k))) := by
  rcases eight h1 h2 with rfl | rfl | rfl | rfl | rfl | rfl | rfl | rfl
  all_goals
    refine Pure.ofS Tryz.func43 (c := Tryz.f43.body.getD .skip) rfl (by kernel_rfl) Tryz.ntmps43 (by simp) fun hs R hR => ?_
    refine S.run tab_ok Tryz.func43 rfl .nil _ _ fun P hP => ?_
    cbv
    exact hR
theorem lead44_1 : Go.Aw.Pure Tryz.prog 44 [.lit (.int .i64 1)] (.lit (.int .i64 1)) := by
  refine Pure.ofS Tryz.func44 (c := Tryz.f44.body.getD .skip) rfl (by kernel_rfl) Tryz.ntmps44 (by simp) fun hs R hR => ?_
  refine S.run tab_ok Tryz.func44 rfl (.call (.lit (.int .i64 32)) .nil) _ _ fun P hP => ?_
  cbv
  exact ⟨.of (raw_spec (k := 1) (by decide) (by decide)) hP, hR⟩
theorem size77_1 : Go.Aw.Pure Tryz.prog 77 [.lit (.int .i64 1)] (.lit (.int .i64 44)) := by
  refine Pure.ofS Tryz.func77 (c := Tryz.f77.body.getD .skip) rfl (by kernel_rfl) Tryz.ntmps77 (by simp) fun hs R hR => ?_
  refine S.run tab_ok Tryz.func77 rfl (.call (.tup [.str [69], .lit (.bool true)]) (.call (.lit (.int .i64 1)) (.call (.lit (.int .i64 32)) (.call (.lit (.int .i64 1)) .nil)))) _ _ fun P hP => ?_
  cbv
  exact ⟨.of (code_spec (k := 1) (by decide) (by decide)) hP, .of lead44_1 hP, .of (raw_spec (k := 1) (by decide) (by decide)) hP, .of lead44_1 hP, hR⟩
theorem lead44_2 : Go.Aw.Pure Tryz.prog 44 [.lit (.int .i64 2)] (.lit (.int .i64 1)) := by
  refine Pure.ofS Tryz.func44 (c := Tryz.f44.body.getD .skip) rfl (by kernel_rfl) Tryz.ntmps44 (by simp) fun hs R hR => ?_
  refine S.run tab_ok Tryz.func44 rfl (.call (.lit (.int .i64 32)) .nil) _ _ fun P hP => ?_
  cbv
  exact ⟨.of (raw_spec (k := 2) (by decide) (by decide)) hP, hR⟩
theorem size77_2 : Go.Aw.Pure Tryz.prog 77 [.lit (.int .i64 2)] (.lit (.int .i64 44)) := by
  refine Pure.ofS Tryz.func77 (c := Tryz.f77.body.getD .skip) rfl (by kernel_rfl) Tryz.ntmps77 (by simp) fun hs R hR => ?_
  refine S.run tab_ok Tryz.func77 rfl (.call (.tup [.str [68], .lit (.bool true)]) (.call (.lit (.int .i64 1)) (.call (.lit (.int .i64 32)) (.call (.lit (.int .i64 1)) .nil)))) _ _ fun P hP => ?_
  cbv
  exact ⟨.of (code_spec (k := 2) (by decide) (by decide)) hP, .of lead44_2 hP, .of (raw_spec (k := 2) (by decide) (by decide)) hP, .of lead44_2 hP, hR⟩
theorem lead44_3 : Go.Aw.Pure Tryz.prog 44 [.lit (.int .i64 3)] (.lit (.int .i64 1)) := by
  refine Pure.ofS Tryz.func44 (c := Tryz.f44.body.getD .skip) rfl (by kernel_rfl) Tryz.ntmps44 (by simp) fun hs R hR => ?_
  refine S.run tab_ok Tryz.func44 rfl (.call (.lit (.int .i64 32)) .nil) _ _ fun P hP => ?_
  cbv
  exact ⟨.of (raw_spec (k := 3) (by decide) (by decide)) hP, hR⟩
theorem size77_3 : Go.Aw.Pure Tryz.prog 77 [.lit (.int .i64 3)] (.lit (.int .i64 44)) := by
  refine Pure.ofS Tryz.func77 (c := Tryz.f77.body.getD .skip) rfl (by kernel_rfl) Tryz.ntmps77 (by simp) fun hs R hR => ?_
  refine S.run tab_ok Tryz.func77 rfl (.call (.tup [.str [66], .lit (.bool true)]) (.call (.lit (.int .i64 1)) (.call (.lit (.int .i64 32)) (.call (.lit (.int .i64 1)) .nil)))) _ _ fun P hP => ?_
  cbv
  exact ⟨.of (code_spec (k := 3) (by decide) (by decide)) hP, .of lead44_3 hP, .of (raw_spec (k := 3) (by decide) (by decide)) hP, .of lead44_3 hP, hR⟩
theorem lead44_4 : Go.Aw.Pure Tryz.prog 44 [.lit (.int .i64 4)] (.lit (.int .i64 1)) := by
  refine Pure.ofS Tryz.func44 (c := Tryz.f44.body.getD .skip) rfl (by kernel_rfl) Tryz.ntmps44 (by simp) fun hs R hR => ?_
  refine S.run tab_ok Tryz.func44 rfl (.call (.lit (.int .i64 32)) .nil) _ _ fun P hP => ?_
  cbv
  exact ⟨.of (raw_spec (k := 4) (by decide) (by decide)) hP, hR⟩
theorem size77_4 : Go.Aw.Pure Tryz.prog 77 [.lit (.int .i64 4)] (.lit (.int .i64 44)) := by
  refine Pure.ofS Tryz.func77 (c := Tryz.f77.body.getD .skip) rfl (by kernel_rfl) Tryz.ntmps77 (by simp) fun hs R hR => ?_
  refine S.run tab_ok Tryz.func77 rfl (.call (.tup [.str [65], .lit (.bool true)]) (.call (.lit (.int .i64 1)) (.call (.lit (.int .i64 32)) (.call (.lit (.int .i64 1)) .nil)))) _ _ fun P hP => ?_
  cbv
  exact ⟨.of (code_spec (k := 4) (by decide) (by decide)) hP, .of lead44_4 hP, .of (raw_spec (k := 4) (by decide) (by decide)) hP, .of lead44_4 hP, hR⟩
theorem lead44_5 : Go.Aw.Pure Tryz.prog 44 [.lit (.int .i64 5)] (.lit (.int .i64 2)) := by
  refine Pure.ofS Tryz.func44 (c := Tryz.f44.body.getD .skip) rfl (by kernel_rfl) Tryz.ntmps44 (by simp) fun hs R hR => ?_
  refine S.run tab_ok Tryz.func44 rfl (.call (.lit (.int .i64 16)) .nil) _ _ fun P hP => ?_
  cbv
  exact ⟨.of (raw_spec (k := 5) (by decide) (by decide)) hP, hR⟩
theorem size77_5 : Go.Aw.Pure Tryz.prog 77 [.lit (.int .i64 5)] (.lit (.int .i64 24)) := by
  refine Pure.ofS Tryz.func77 (c := Tryz.f77.body.getD .skip) rfl (by kernel_rfl) Tryz.ntmps77 (by simp) fun hs R hR => ?_
  refine S.run tab_ok Tryz.func77 rfl (.call (.tup [.str [48, 65], .lit (.bool true)]) (.call (.lit (.int .i64 2)) (.call (.lit (.int .i64 16)) (.call (.lit (.int .i64 2)) .nil)))) _ _ fun P hP => ?_
  cbv
  exact ⟨.of (code_spec (k := 5) (by decide) (by decide)) hP, .of lead44_5 hP, .of (raw_spec (k := 5) (by decide) (by decide)) hP, .of lead44_5 hP, hR⟩
theorem lead44_6 : Go.Aw.Pure Tryz.prog 44 [.lit (.int .i64 6)] (.lit (.int .i64 1)) := by
  refine Pure.ofS Tryz.func44 (c := Tryz.f44.body.getD .skip) rfl (by kernel_rfl) Tryz.ntmps44 (by simp) fun hs R hR => ?_
  refine S.run tab_ok Tryz.func44 rfl (.call (.lit (.int .i64 2)) .nil) _ _ fun P hP => ?_
  cbv
  exact ⟨.of (raw_spec (k := 6) (by decide) (by decide)) hP, hR⟩
theorem size77_6 : Go.Aw.Pure Tryz.prog 77 [.lit (.int .i64 6)] (.lit (.int .i64 4)) := by
  refine Pure.ofS Tryz.func77 (c := Tryz.f77.body.getD .skip) rfl (by kernel_rfl) Tryz.ntmps77 (by simp) fun hs R hR => ?_
  refine S.run tab_ok Tryz.func77 rfl (.call (.tup [.str [77], .lit (.bool true)]) (.call (.lit (.int .i64 1)) (.call (.lit (.int .i64 2)) (.call (.lit (.int .i64 1)) .nil)))) _ _ fun P hP => ?_
  cbv
  exact ⟨.of (code_spec (k := 6) (by decide) (by decide)) hP, .of lead44_6 hP, .of (raw_spec (k := 6) (by decide) (by decide)) hP, .of lead44_6 hP, hR⟩
theorem lead44_7 : Go.Aw.Pure Tryz.prog 44 [.lit (.int .i64 7)] (.lit (.int .i64 1)) := by
  refine Pure.ofS Tryz.func44 (c := Tryz.f44.body.getD .skip) rfl (by kernel_rfl) Tryz.ntmps44 (by simp) fun hs R hR => ?_
  refine S.run tab_ok Tryz.func44 rfl (.call (.lit (.int .i64 626)) .nil) _ _ fun P hP => ?_
  cbv
  exact ⟨.of (raw_spec (k := 7) (by decide) (by decide)) hP, hR⟩
theorem size77_7 : Go.Aw.Pure Tryz.prog 77 [.lit (.int .i64 7)] (.lit (.int .i64 836)) := by
  refine Pure.ofS Tryz.func77 (c := Tryz.f77.body.getD .skip) rfl (by kernel_rfl) Tryz.ntmps77 (by simp) fun hs R hR => ?_
  refine S.run tab_ok Tryz.func77 rfl (.call (.tup [.str [83], .lit (.bool true)]) (.call (.lit (.int .i64 1)) (.call (.lit (.int .i64 626)) (.call (.lit (.int .i64 1)) .nil)))) _ _ fun P hP => ?_
  cbv
  exact ⟨.of (code_spec (k := 7) (by decide) (by decide)) hP, .of lead44_7 hP, .of (raw_spec (k := 7) (by decide) (by decide)) hP, .of lead44_7 hP, hR⟩
theorem lead44_8 : Go.Aw.Pure Tryz.prog 44 [.lit (.int .i64 8)] (.lit (.int .i64 0)) := by
  refine Pure.ofS Tryz.func44 (c := Tryz.f44.body.getD .skip) rfl (by kernel_rfl) Tryz.ntmps44 (by simp) fun hs R hR => ?_
  refine S.run tab_ok Tryz.func44 rfl (.call (.lit (.int .i64 6)) .nil) _ _ fun P hP => ?_
  cbv
  exact ⟨.of (raw_spec (k := 8) (by decide) (by decide)) hP, hR⟩
theorem size77_8 : Go.Aw.Pure Tryz.prog 77 [.lit (.int .i64 8)] (.lit (.int .i64 12)) := by
  refine Pure.ofS Tryz.func77 (c := Tryz.f77.body.getD .skip) rfl (by kernel_rfl) Tryz.ntmps77 (by simp) fun hs R hR => ?_
  refine S.run tab_ok Tryz.func77 rfl (.call (.tup [.str [49, 65, 65, 76], .lit (.bool true)]) (.call (.lit (.int .i64 0)) (.call (.lit (.int .i64 6)) (.call (.lit (.int .i64 0)) .nil)))) _ _ fun P hP => ?_
  cbv
  exact ⟨.of (code_spec (k := 8) (by decide) (by decide)) hP, .of lead44_8 hP, .of (raw_spec (k := 8) (by decide) (by decide)) hP, .of lead44_8 hP, hR⟩
theorem lead44_spec {k : Nat} (h1 : 1 ≤ k) (h2 : k ≤ 8) : Go.Aw.Pure Tryz.prog 44 [.lit (.int .i64 k)] (.lit (.int .i64 (leadN (rawN k)))) := by
  rcases eight h1 h2 with rfl | rfl | rfl | rfl | rfl | rfl | rfl | rfl
  · exact lead44_1
  · exact lead44_2
  · exact lead44_3
  · exact lead44_4
  · exact lead44_5
  · exact lead44_6
  · exact lead44_7
  · exact lead44_8
theorem size77_spec {k : Nat} (h1 : 1 ≤ k) (h2 : k ≤ 8) : Go.Aw.Pure Tryz.prog 77 [.lit (.int .i64 k)] (.lit (.int .i64 (zN (k - 1)))) := by
  rcases eight h1 h2 with rfl | rfl | rfl | rfl | rfl | rfl | rfl | rfl
  · exact size77_1
  · exact size77_2
  · exact size77_3
  · exact size77_4
  · exact size77_5
  · exact size77_6
  · exact size77_7
  · exact size77_8
end Go.Proofs
namespace Go.Proofs
open Go Go.Aw
set_option maxRecDepth 100000
theorem codeN_at : ∀ i < 64, codeN (alphabet.getD i 0).toNat = i + 1 := by decide +kernel
theorem codeN_no : ∀ c < 256, (∀ j < 64, (alphabet.getD j 0).toNat ≠ c) → codeN c = 0 := by decide +kernel
theorem value83_spec (c : Nat) (hc : c < 256) : Go.Aw.Pure Tryz.prog 83 [.lit (.int .u8 c)] (valueR c) := by
  refine Pure.ofS Tryz.func83 (c := Tryz.f83.body.getD .skip) rfl (by kernel_rfl) Tryz.ntmps83 (by simp) fun hs R hR => ?_
  refine S.run tab_ok Tryz.func83 rfl .nil _ _ fun P hP => ?_
  cbv
  refine ⟨?_⟩
  subst hP
  refine W.loopS (fun i : Nat => 64 - i) (fun i => i ≤ 64 ∧ ∀ j < i, (alphabet.getD j 0).toNat ≠ c) (fun i => ⟨[(0, .lit (.int .u8 c)), (5, .lit (.int .i64 (natZ i)))], []⟩) 0 ⟨by omega, by simp⟩ ⟨⟨rfl, rfl, trivial⟩, rfl⟩ fun i hi ih => ?_
  refine S.run tab_ok Tryz.func83 rfl .nil _ _ fun P hP => ?_
  cbv
  refine fk (fun h => ?_) (fun h => ?_) <;> simp only [fold, plain] at h
  · have hi64 : i < 64 := by simp at h; omega
    clear h
    cbv
    refine ⟨by simp only [fold, plain, decide_eq_true_eq, inB]; simp; omega, fk (fun h => ?_) (fun h => ?_)⟩ <;> simp only [fold, plain] at h
    · have he : (alphabet.getD i 0).toNat = c := Int.ofNat.inj (eq_of_beq h)
      clear h
      cbv
      simp only [fold, plain]
      unfold valueR at hR
      rw [← he, codeN_at i hi64] at hR
      exact hR
    · have he : (alphabet.getD i 0).toNat ≠ c := fun e => ne_of_beq_false h (congrArg Int.ofNat e)
      have ih' := fun st => ih (i + 1) st ⟨hi64, fun j hj => by
        rcases Nat.lt_succ_iff_lt_or_eq.1 hj with hj | rfl
        · exact hi.2 j hj
        · exact he⟩ (by omega)
      clear h ih
      cbv
      refine ⟨?_⟩
      subst hP
      simp only [fold, plain, Int.ofNat_eq_natCast]
      have e1 : IntKind.i64.wrap ((i : Int) + 1) = ((i + 1 : Nat) : Int) := w64 (by omega) (by omega)
      exact ih' _ ⟨⟨rfl, by simp [Aw.get, e1], trivial⟩, rfl⟩
  · have : i = 64 := by simp at h; omega
    subst this
    cbv
    unfold valueR at hR
    rw [codeN_no c hc hi.2] at hR
    exact hR
end Go.Proofs
