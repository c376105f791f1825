/- schema.Name. primitive.form: lead and size. base64: the table of values. base64: values, Value, number. -/
import Derived.Test.YtikllkldhnncnaaGreatDoorAm
import Derived.Test.YtikllkldhnncnaaGreatDoorTab
set_option linter.all false
namespace Go.Proofs
open Go Go.Aw
set_option maxRecDepth 100000
def nameCh (i n : Nat) : Bool := decide ((97 ≤ n ∧ n ≤ 122) ∨ (i ≠ 0 ∧ (n = 95 ∨ (48 ≤ n ∧ n ≤ 57))))
def nameOK (s : List UInt8) : Bool := s.length ≠ 0 && s.length ≤ 32 && (List.range s.length).all fun i => nameCh i (s.getD i 0).toNat
theorem name_spec (s : List UInt8) : Go.Aw.Pure Tryz.prog 22 [.str s] (.lit (.bool (nameOK s))) := by
  refine Pure.ofS Tryz.func22 (c := Tryz.f22.body.getD .skip) rfl (by kernel_rfl) Tryz.ntmps22 (by simp) fun hs R hR => ?_
  refine S.run tab_ok Tryz.func22 rfl .nil _ _ fun P hP => ?_
  cbv
  refine fk (fun h => ?_) (fun h => ?_) <;> simp only [fold, plain] at h
  · cbv
    rw [show nameOK s = false from by simp at h; simp [nameOK, h]] at hR; exact hR
  have h0 : s.length ≠ 0 := by simp at h; simpa using h
  clear h
  cbv
  refine fk (fun h2 => ?_) (fun h2 => ?_) <;> simp only [fold, plain] at h2
  · cbv
    rw [show nameOK s = false from by simp only [nameOK]; rw [decide_eq_false (p := s.length ≤ 32) (by simp at h2; omega)]; simp] at hR; exact hR
  have h3 : s.length ≤ 32 := by simp at h2; omega
  clear h2
  cbv
  refine ⟨?_⟩
  subst hP
  refine W.loopS (fun i : Nat => s.length - i) (fun i => i ≤ s.length ∧ ∀ j < i, nameCh j (s.getD j 0).toNat = true) (fun i => ⟨[(0, .str s), (14, .lit (.int .i64 (natZ (len s)))), (15, .lit (.int .i64 (natZ i)))], []⟩) 0 ⟨by omega, by simp⟩ (by cbv; simp) fun i hi ih => ?_
  have hc := (s.getD i 0).toNat_lt
  have hn : i < s.length → nameCh i (s.getD i 0).toNat = false → nameOK s = false := fun h1 h2 => by
    have : (List.range s.length).all (fun i => nameCh i (s.getD i 0).toNat) = false := by
      rw [List.all_eq_false]; exact ⟨i, by simpa using h1, by rw [h2]; simp⟩
    simp only [nameOK, this, Bool.and_false]
  have ih' : nameCh i (s.getD i 0).toNat = true → i < s.length → ∀ st, subS st ⟨[(0, .str s), (14, .lit (.int .i64 (natZ (len s)))), (15, .lit (.int .i64 (natZ (i + 1 : Nat))))], []⟩ → _ := fun hcc h st => ih (i + 1) st ⟨by omega, fun j hj => by
      rcases Nat.lt_succ_iff_lt_or_eq.1 hj with hj | rfl
      · exact hi.2 j hj
      · exact hcc⟩ (by omega)
  clear ih
  refine S.run tab_ok Tryz.func22 rfl .nil _ _ fun P hP => ?_
  cbv
  refine fk (fun h => ?_) (fun h => ?_) <;> simp only [fold, plain] at h
  · simp only [decide_eq_true_eq, Int.ofNat_eq_natCast, Int.ofNat_lt] at h
    have hil := h
    have hw : IntKind.i64.wrap (i + 1) = ((i + 1 : Nat) : Int) := by
      have := wrap_small (n := ((i + 1 : Nat) : Int)) (by omega) (by simp only [LIM]; omega); simpa using this
    cbv
    repeat' first
      | refine ⟨by simp only [fold, plain, decide_eq_true_eq]; simp only [inB, Int.ofNat_eq_natCast, Int.toNat_natCast]; omega, ?_⟩
      | (refine fk (fun h => ?_) (fun h => ?_) <;> simp only [fold, plain] at h <;> cbv)
    all_goals simp only [Int.ofNat_eq_natCast, Int.toNat_natCast, decide_eq_true_eq, decide_eq_false_iff_not, Bool.not_eq_true', Bool.not_eq_false', ge_iff_le, beq_iff_eq, bne_iff_ne, beq_eq_false_iff_ne] at *
    all_goals first
      | (rw [hn (by omega) (by simp only [nameCh, decide_eq_false_iff_not]; omega)] at hR; exact hR)
      | (refine ⟨?_⟩; subst hP; exact ih' (by simp only [nameCh, decide_eq_true_eq]; omega) hil _ (by cbv; simp [fold, plain, hw]))
  · cbv
    rw [show nameOK s = true from by
      simp only [nameOK, Bool.and_eq_true, List.all_eq_true, List.mem_range]
      simp at h
      exact ⟨⟨by simpa using h0, by simp; omega⟩, fun j hj => hi.2 j (by omega)⟩] at hR
    exact hR
end Go.Proofs
namespace Go.Proofs
open Go Go.Aw
set_option maxRecDepth 100000
def leadN (n : Nat) : Nat := (3 - n % 3) % 3
def sizeN (l n : Nat) : Int := (l + (n + leadN n) / 3 * 4 : Nat) - (leadN n : Int)
theorem lead_spec (s : List UInt8) (n : Nat) : Go.Aw.Pure Tryz.prog 51 [.agg [.str s, .lit (.int .i64 n)]] (.lit (.int .i64 (leadN n))) := by
  refine Pure.ofS Tryz.func51 (c := Tryz.f51.body.getD .skip) rfl (by kernel_rfl) Tryz.ntmps51 (by simp) fun hs R hR => ?_
  refine S.run tab_ok Tryz.func51 rfl .nil _ _ fun P hP => ?_
  cbv
  simp only [fold, plain, Int.ofNat_eq_natCast]
  have e1 : (n : Int).tmod 3 = n % 3 := by rw [Int.tmod_eq_emod_of_nonneg (by simp)]
  have e2 : IntKind.i64.wrap (3 - n % 3) = 3 - n % 3 := w64 (by omega) (by omega)
  rw [e1, e2, Int.tmod_eq_emod_of_nonneg (by omega), show (3 - (n : Int) % 3) % 3 = (leadN n : Int) by unfold leadN; omega]
  exact hR
theorem size_spec (s : List UInt8) (n : Nat) (h2 : n ≤ 1000) : Go.Aw.Pure Tryz.prog 49 [.agg [.str s, .lit (.int .i64 n)]] (.lit (.int .i64 (sizeN s.length n))) := by
  refine Pure.ofS Tryz.func49 (c := Tryz.f49.body.getD .skip) rfl (by kernel_rfl) Tryz.ntmps49 (by simp) fun hs R hR => ?_
  have hs8 : s.length ≤ LIM := by have := hs.1; simp [smallA, smallL, smallC] at this; exact this
  have hlead := lead_spec s n
  have hl : leadN n ≤ 2 := by unfold leadN; omega
  have hs9 : s.length ≤ 140737488355328 := by unfold LIM at hs8; exact hs8
  have e0 : sizeN s.length n = s.length + ((n : Int) + leadN n) / 3 * 4 - leadN n := by unfold sizeN; omega
  rw [e0] at hR
  generalize leadN n = L at *
  refine S.run tab_ok Tryz.func49 rfl (.call (.lit (.int .i64 L)) (.call (.lit (.int .i64 L)) .nil)) _ _ fun P hP => ?_
  cbv
  refine ⟨.of (by kernel_rfl) hP, .of hlead hP, .of hlead hP, ?_⟩
  simp only [fold, plain, Int.ofNat_eq_natCast]
  rw [w64 (n := (n : Int) + L) (by omega) (by omega), tdiv_nn (by omega), w64 (n := ((n : Int) + L) / 3) (by omega) (by omega), w64 (n := ((n : Int) + L) / 3 * 4) (by omega) (by omega),
    w64 (n := (s.length : Int) + _) (by omega) (by omega), w64 (by omega) (by omega)]
  exact hR
end Go.Proofs
namespace Go.Proofs
open Go Go.Aw
set_option maxRecDepth 100000
def alphabet : List UInt8 := [65, 66, 67, 68, 69, 70, 71, 72, 73, 74, 75, 76, 77, 78, 79, 80, 81, 82, 83, 84, 85, 86, 87, 88, 89, 90, 97, 98, 99, 100, 101, 102, 103, 104, 105, 106, 107, 108, 109, 110, 111, 112, 113, 114, 115, 116, 117, 118, 119, 120, 121, 122, 48, 49, 50, 51, 52, 53, 54, 55, 56, 57, 45, 95]
def tabN : Nat → List Nat
  | 0 => List.replicate 256 0
  | i + 1 => (tabN i).set (alphabet.getD i 0).toNat (i + 1)
def tabA (i : Nat) : List AV := (tabN i).map fun (n : Nat) => .lit (.int .u8 n)
theorem tabA_one (i : Nat) : (tabA i).all AV.one = true := by simp [tabA, AV.one]; intros; rfl
theorem tabA_lit (i : Nat) : (tabA i).all litB = true := by simp [tabA, litB]
theorem tabN_length : ∀ i, (tabN i).length = 256
  | 0 => rfl
  | i + 1 => by rw [tabN, List.length_set]; exact tabN_length i
theorem tabA_length (i : Nat) : (tabA i).length = 256 := by simp [tabA, tabN_length]
theorem tabA_take (i : Nat) : (tabA i).take 256 = tabA i := by rw [List.take_of_length_le (by rw [tabA_length]; omega)]
theorem tabA_splice (i j : Nat) : splice (tabA i) 0 (tabA j) = tabA j := splice_all (by rw [tabA_length, tabA_length])
theorem tabA_succ (i : Nat) : (tabA i).set (alphabet.getD i 0).toNat (.lit (.int .u8 ((i + 1 : Nat) : Int))) = tabA (i + 1) := by
  simp [tabA, tabN, List.map_set]
theorem newValues_spec : Go.Aw.Pure Tryz.prog 94 [] (.agg (tabA 64)) := by
  refine Pure.ofS Tryz.func94 (c := Tryz.f94.body.getD .skip) rfl (by kernel_rfl) Tryz.ntmps94 (by simp) fun hs R hR => ?_
  refine S.run tab_ok Tryz.func94 rfl .nil _ _ fun P hP => ?_
  cbv
  refine ⟨?_⟩
  subst hP
  refine W.loopS (ι := Nat × List AV × List AV) (fun x => 64 - x.1) (fun x => x.1 ≤ 64 ∧ x.2.1 = tabA 0 ∧ x.2.2 = tabA x.1) (fun x => ⟨[(3, .lit (.int .i64 (natZ x.1))), (1, .ptr 1 0), (0, .ptr 0 0)], [.box x.2.1, .box x.2.2]⟩) (0, tabA 0, tabA 0) ⟨by simp, rfl, rfl⟩ ⟨⟨rfl, rfl, rfl, trivial⟩, rfl⟩ fun ⟨i, z, xs⟩ hi ih => ?_
  dsimp only at hi
  refine S.run tab_ok Tryz.func94 rfl .nil _ _ fun P hP => ?_
  cbv
  refine fk (fun h => ?_) (fun h => ?_) <;> simp only [fold, plain] at h
  · have hi64 : i < 64 := by simp at h; omega
    have ih' := fun st => ih (i + 1, tabA 0, tabA (i + 1)) st ⟨hi64, rfl, rfl⟩ (by dsimp only; omega)
    clear h ih
    cbv
    simp only [fold, plain]
    rw [show ([65, 66, 67, 68, 69, 70, 71, 72, 73, 74, 75, 76, 77, 78, 79, 80, 81, 82, 83, 84, 85, 86, 87, 88, 89, 90, 97, 98, 99, 100, 101, 102, 103, 104, 105, 106, 107, 108, 109, 110, 111, 112, 113, 114, 115, 116, 117, 118, 119, 120, 121, 122, 48, 49, 50, 51, 52, 53, 54, 55, 56, 57, 45, 95] : List UInt8) = alphabet from rfl]
    have hb := (alphabet.getD i 0).toNat_lt
    have hl : xs.length = 256 := by rw [hi.2.2]; exact tabA_length i
    have e1 : IntKind.i64.wrap ((i : Int) + 1) = (i + 1 : Nat) := w64 (by omega) (by omega)
    have e2 : IntKind.u8.wrap ((i + 1 : Nat) : Int) = (i + 1 : Nat) := wu8 (by omega) (by omega)
    simp only [decide_eq_true_eq]
    simp only [Int.ofNat_eq_natCast, Int.toNat_natCast, e1, e2, hl, inB]
    refine ⟨by omega, by omega, by omega, ⟨?_⟩⟩
    subst hP
    refine ih' _ ⟨⟨by simp [Aw.get], rfl, rfl, trivial⟩, ?_⟩
    dsimp only
    rw [show 0 + (alphabet.getD i 0).toNat * 1 = (alphabet.getD i 0).toNat by omega, splice_cons, splice_nil, hi.2.1, hi.2.2, tabA_succ]
  · have : i = 64 := by simp at h; omega
    subst this
    clear h
    cbv
    simp only [fold, plain]
    simp only [decide_eq_true_eq]
    rw [hi.2.1, hi.2.2, List.drop_zero, tabA_take, tabA_splice, List.drop_zero, tabA_take]
    refine ⟨by rw [tabA_length]; omega, tabA_one _, ⟨tabA_length _, by simp only [tabA_length]; omega⟩, by rw [tabA_length]; omega, ?_⟩
    rw [tabA_lit]; exact hR
end Go.Proofs
namespace Go.Proofs
open Go Go.Aw
set_option maxRecDepth 100000
theorem values_spec : Go.Aw.Pure Tryz.prog 82 [] (.agg (tabA 64)) := by
  refine Pure.ofS Tryz.func82 (c := Tryz.f82.body.getD .skip) rfl (by kernel_rfl) Tryz.ntmps82 (by simp) fun hs R hR => ?_
  have hc := newValues_spec
  have hl := tabA_lit 64
  have hlen := tabA_length 64
  have hone := tabA_one 64
  generalize tabA 64 = A at *
  refine S.run tab_ok Tryz.func82 rfl (.call (.agg A) .nil) _ _ fun P hP => ?_
  cbv
  have hlen : A.length = 256 := hlen
  simp only [fold, plain, decide_eq_true_eq]
  rw [splice_all (ys := A) (by rw [hlen]; rfl), List.drop_zero, List.take_of_length_le (by omega), hl]
  exact ⟨.of hc hP, hone, ⟨hlen, by omega⟩, by omega, hR⟩
/-- What a sign of base64 stands for, and one more; 0 for no sign. -/
def codeN (c : Nat) : Nat := (tabN 64).getD c 0
theorem tabA_getD (c : Nat) : (tabA 64).getD c .any = if c < 256 then .lit (.int .u8 (codeN c)) else .any := by
  have hl := tabN_length 64
  unfold tabA codeN
  simp only [List.getD_eq_getElem?_getD, List.getElem?_map]
  split
  · rw [List.getElem?_eq_getElem (by omega)]; rfl
  · rw [List.getElem?_eq_none (by omega)]; rfl
theorem codeN_le : ∀ c, codeN c ≤ 64 := by
  have : (tabN 64).all (fun n => decide (n ≤ 64)) = true := by decide +kernel
  intro c
  unfold codeN
  rw [List.getD_eq_getElem?_getD]
  cases h : (tabN 64)[c]? with
  | none => simp
  | some x => have := List.all_eq_true.1 this x (List.mem_of_getElem? h); simpa using this
def valueR (c : Nat) : AV := .tup [.lit (.int .i64 (codeN c - 1 : Nat)), .lit (.bool (codeN c != 0))]
theorem value_spec (c : Nat) (hc : c < 256) : Go.Aw.Pure Tryz.prog 76 [.lit (.int .u8 c)] (valueR c) := by
  refine Pure.ofS Tryz.func76 (c := Tryz.f76.body.getD .skip) rfl (by kernel_rfl) Tryz.ntmps76 (by simp) fun hs R hR => ?_
  have hv := values_spec
  have hg := tabA_getD c
  rw [if_pos hc] at hg
  have hl := tabA_length 64
  have hle := codeN_le c
  unfold valueR at hR
  generalize codeN c = v at *
  generalize tabA 64 = A at *
  refine S.run tab_ok Tryz.func76 rfl (.call (.agg A) (.call (.agg A) .nil)) _ _ fun P hP => ?_
  cbv
  have hin : inB (c : Int) 256 := ⟨by omega, by simp; omega⟩
  refine ⟨.of hv hP, ?_, ?_, ?_, ?_⟩
  iterate 3 (simp only [fold, plain, Int.ofNat_eq_natCast, Int.toNat_natCast, Nat.mul_one, hl, nthC_eq, hg, decide_eq_true_eq]; first | exact hin | omega | rfl)
  refine fk (fun h => ?_) (fun h => ?_) <;> simp only [fold, plain, Int.ofNat_eq_natCast, Int.toNat_natCast, Nat.mul_one, hl, nthC_eq, hg, intOf] at h <;> cbv
  · have h : v = 0 := by simpa using h
    rw [h] at hR; exact hR
  · have h : v ≠ 0 := by simpa using h
    simp only [fold, plain, Int.ofNat_eq_natCast, Int.toNat_natCast, Nat.mul_one, hl, nthC_eq, hg, decide_eq_true_eq]
    refine ⟨.of hv hP, hin, by omega, rfl, ?_⟩
    rw [show (v != 0) = true by simp; omega] at hR
    simp only [intOf]
    rw [w64 (n := (v : Int)) (by omega) (by omega), w64 (by omega) (by omega), show (v : Int) - 1 = (v - 1 : Nat) by omega]
    exact hR
/-- The number that signs of base64 stand for. -/
def numN : Nat → List UInt8 → Option Nat
  | a, [] => some a
  | a, c :: s => if codeN c.toNat = 0 then none else numN (a * 64 + (codeN c.toNat - 1)) s
def numR (s : List UInt8) : AV := .tup [.lit (.int .i64 ((numN 0 s).getD 0 : Nat)), .lit (.bool (numN 0 s).isSome)]
theorem numN_drop {a : Nat} {s : List UInt8} {i : Nat} (hi : i < s.length) : numN a (s.drop i) = if codeN (s.getD i 0).toNat = 0 then none else numN (a * 64 + (codeN (s.getD i 0).toNat - 1)) (s.drop (i + 1)) := by
  rw [List.drop_eq_getElem_cons hi, numN]
  simp [hi]
theorem number_spec (s : List UInt8) (hl : s.length ≤ 8) : Go.Aw.Pure Tryz.prog 66 [.str s] (numR s) := by
  refine Pure.ofS Tryz.func66 (c := Tryz.f66.body.getD .skip) rfl (by kernel_rfl) Tryz.ntmps66 (by simp) fun hs R hR => ?_
  refine S.run tab_ok Tryz.func66 rfl .nil _ _ fun P hP => ?_
  cbv
  refine ⟨?_⟩
  subst hP
  refine W.loopS (ι := Nat × Nat) (fun x => s.length - x.1) (fun x => x.1 ≤ s.length ∧ x.2 < 64 ^ x.1 ∧ numN 0 s = numN x.2 (s.drop x.1))
    (fun x => ⟨[(0, .str s), (4, .lit (.int .i64 (natZ x.2))), (9, .lit (.int .i64 (natZ (len s)))), (10, .lit (.int .i64 (natZ x.1)))], []⟩) (0, 0) ⟨by simp, by simp, by simp⟩ (by cbv; simp) fun ⟨i, a⟩ hi ih => ?_
  dsimp only at hi
  have hb := (s.getD i 0).toNat_lt
  have hv64 := codeN_le (s.getD i 0).toNat
  have hval := value_spec (s.getD i 0).toNat (by omega)
  unfold valueR at hval
  rcases Nat.lt_or_ge i s.length with hil | hil
  · have hnum := numN_drop (a := a) hil
    generalize hv : codeN (s.getD i 0).toNat = v at *
    cases v with
    | zero =>
      refine S.run tab_ok Tryz.func66 rfl (.call (.tup [.lit (.int .i64 0), .lit (.bool false)]) .nil) _ _ fun P hP => ?_
      cbv
      refine fk (fun h => ?_) (fun h => ?_) <;> simp only [fold, plain] at h
      · clear ih h
        cbv
        simp only [fold, plain, decide_eq_true_eq, Int.ofNat_eq_natCast, Int.toNat_natCast, inB]
        rw [if_pos rfl] at hnum
        rw [numR, hi.2.2, hnum] at hR
        exact ⟨by simp; omega, .of hval hP, hR⟩
      · simp at h; omega
    | succ v =>
      rw [if_neg (by omega)] at hnum
      have hp : 64 ^ i ≤ 64 ^ 7 := Nat.pow_le_pow_right (by omega) (by omega)
      have hp2 : 64 ^ (i + 1) = 64 ^ i * 64 := Nat.pow_succ ..
      have ih' := fun st => ih (i + 1, a * 64 + v) st ⟨by dsimp only; omega, by dsimp only; omega, by dsimp only; rw [hi.2.2, hnum]; simp⟩ (by dsimp only; omega)
      refine S.run tab_ok Tryz.func66 rfl (.call (.tup [.lit (.int .i64 (natZ v)), .lit (.bool true)]) .nil) _ _ fun P hP => ?_
      cbv
      refine fk (fun h => ?_) (fun h => ?_) <;> simp only [fold, plain] at h
      · clear ih h
        cbv
        simp only [fold, plain, decide_eq_true_eq, Int.ofNat_eq_natCast, Int.toNat_natCast, inB]
        refine ⟨by simp; omega, .of hval hP, ⟨?_⟩⟩
        subst hP
        have e : (a : Int) * 64 = (a * 64 : Nat) := by omega
        have e1 : IntKind.i64.wrap ((a : Int) * 64) = (a * 64 : Nat) := by rw [e]; exact w64 (by omega) (by omega)
        have e2 := or64 (x := a * 64) (y := v) (by omega) (by omega)
        rw [Int.ofNat_eq_natCast] at e2
        refine ih' _ ⟨⟨rfl, ?_, by simp [Aw.get], ?_, trivial⟩, rfl⟩
        · simp only [Aw.get, natZ_eq]
          simp only [show (2 : Int) ^ min (Int.toNat 6) IntKind.i64.bits = 64 from rfl, e1, e2]
          rw [show a * 64 = a * 2 ^ 6 from rfl, or_add _ _ _ (by omega)]
          rfl
        · simp only [Aw.get, natZ_eq]
          rw [if_true, w64 (by omega) (by omega)]; rfl
      · simp at h; omega
  · have : i = s.length := by omega
    refine S.run tab_ok Tryz.func66 rfl .nil _ _ fun P hP => ?_
    cbv
    refine fk (fun h => ?_) (fun h => ?_) <;> simp only [fold, plain] at h
    · simp at h; omega
    · cbv
      simp only [fold, plain, Int.ofNat_eq_natCast]
      rw [numR, hi.2.2, this, List.drop_length] at hR
      exact hR
end Go.Proofs
