/- The document's Decode of base64. -/
import Derived.Test.YtikllkldhnncnaaGreatDoorFe
set_option linter.all false
namespace Go.Proofs
open Go Go.Aw
set_option maxRecDepth 100000
def t4 : Option (List UInt8) → AV
  | none => .lit (.slice none 0 0)
  | some o => .own 0 (len o)
def ob4 : Option (List UInt8) → List AObj
  | none => []
  | some o => [.buf 1 (encs o)]
theorem drop_four {s : List UInt8} {i : Nat} (h : i + 4 ≤ s.length) : s.drop i = s.getD i 0 :: s.getD (i + 1) 0 :: s.getD (i + 2) 0 :: s.getD (i + 3) 0 :: s.drop (i + 4) := by
  have g : ∀ j, j < s.length → s.drop j = s.getD j 0 :: s.drop (j + 1) := fun j hj => by
    rw [List.drop_eq_getElem_cons hj]; simp [hj]
  rw [g i (by omega), g (i + 1) (by omega), g (i + 2) (by omega), g (i + 3) (by omega)]
def grp (s : List UInt8) (i : Nat) : List UInt8 := [s.getD i 0, s.getD (i + 1) 0, s.getD (i + 2) 0, s.getD (i + 3) 0]
theorem grp_get (s : List UInt8) (i : Nat) : ∀ j < 4, (grp s i).getD j 0 = s.getD (i + j) 0
  | 0, _ => rfl
  | 1, _ => rfl
  | 2, _ => rfl
  | 3, _ => rfl
theorem numN_lt : ∀ (s : List UInt8) (a n k : Nat), a < 64 ^ k → numN a s = some n → n < 64 ^ (k + s.length)
  | [], a, n, k, h, e => by simp [numN] at e; subst e; simpa using h
  | c :: s, a, n, k, h, e => by
    rw [numN] at e
    split at e
    · cases e
    · have hc := codeN_le c.toNat
      have := numN_lt s (a * 64 + (codeN c.toNat - 1)) n (k + 1) (by rw [Nat.pow_succ]; omega) e
      rw [List.length_cons, show k + (s.length + 1) = k + 1 + s.length by omega]; exact this
theorem decode78_spec (s : List UInt8) : Go.Aw.Pure Tryz.prog 78 [.str s] (decR s) := by
  refine Pure.ofS Tryz.func78 (c := Tryz.f78.body.getD .skip) rfl (by kernel_rfl) Tryz.ntmps78 (by simp) fun hs R hR => ?_
  have hs8 := small_str hs
  refine S.run tab_ok Tryz.func78 rfl .nil _ _ fun P hP => ?_
  cbv
  refine fk (fun h => ?_) (fun h => ?_) <;> simp only [fold, plain] at h
  · simp at h
    have e : decErr s = 3 := by unfold decErr; rw [if_pos (by omega)]
    cbv
    rw [decR, e] at hR; exact hR
  have hlen : s.length ≤ 131072 := by simp at h; omega
  clear h
  cbv
  refine fk (fun h => ?_) (fun h => ?_) <;> simp only [fold, plain] at h
  · have hm : s.length % 4 ≠ 0 := by
      simp [tmod_nn] at h; omega
    clear h
    cbv
    have e : decErr s = 8 := by unfold decErr; rw [if_neg (by omega), if_pos (by omega)]
    rw [decR, e] at hR; exact hR
  have hmod : s.length % 4 = 0 := by simp [tmod_nn] at h; omega
  clear h hs8
  have e0 : decErr s = if (dec64 s).isNone then 4 else 0 := by unfold decErr; rw [if_neg (by omega), if_neg (by omega)]
  cbv
  refine ⟨?_⟩
  subst hP
  refine W.loopS (ι := Nat × Option (List UInt8)) (fun x => s.length - x.1) (fun x => x.1 ≤ s.length ∧ x.1 % 4 = 0 ∧ (x.2.getD []).length ≤ x.1 ∧ dec64 s = (dec64 (s.drop x.1)).map ((x.2.getD []) ++ ·))
    (fun x => ⟨[(0, .str s), (4, t4 x.2), (5, .lit (.int .i64 (natZ x.1)))], ob4 x.2⟩) (0, none) ⟨by simp, by simp, by simp, by simp⟩ ⟨⟨rfl, rfl, rfl, trivial⟩, rfl⟩ fun ⟨i, o⟩ hi ih => ?_
  dsimp only at hi ih ⊢
  rcases Nat.lt_or_ge i s.length with hil | hil
  · have h4 : i + 4 ≤ s.length := by omega
    have hdr := drop_four h4
    refine S.run tab_ok Tryz.func78 rfl .nil _ _ fun P hP => ?_
    cbv
    refine fk (fun h => ?_) (fun h => ?_) <;> simp only [fold, plain] at h
    · clear h
      cbv
      refine ⟨?_⟩
      subst hP
      refine W.loopS (ι := Nat × Nat) (fun x => 4 - x.1) (fun x => x.1 ≤ 4 ∧ x.2 < 64 ^ x.1 ∧ numN 0 (grp s i) = numN x.2 ((grp s i).drop x.1))
        (fun x => ⟨[(0, .str s), (4, t4 o), (5, .lit (.int .i64 (natZ i))), (6, .lit (.int .i64 (natZ x.2))), (25, .lit (.int .i64 (natZ x.1)))], ob4 o⟩) (0, 0) ⟨by simp, by simp, by simp⟩ (by cbv; simp) fun ⟨j, a⟩ hj ihj => ?_
      dsimp only at hj ihj ⊢
      have hwij : IntKind.i64.wrap ((i : Int) + j) = ((i + j : Nat) : Int) := w64 (by omega) (by omega)
      rcases Nat.lt_or_ge j 4 with hj4 | hj4
      · clear ih
        have hg := grp_get s i j hj4
        have hb := (s.getD (i + j) 0).toNat_lt
        have hv64 := codeN_le (s.getD (i + j) 0).toNat
        have hval := value83_spec (s.getD (i + j) 0).toNat (by omega)
        have hnum := numN_drop (a := a) (s := grp s i) (i := j) hj4
        rw [hg] at hnum
        unfold valueR at hval
        have hw1 : IntKind.i64.wrap ((j : Int) + 1) = ((j + 1 : Nat) : Int) := w64 (by omega) (by omega)
        generalize hv : codeN (s.getD (i + j) 0).toNat = v at *
        cases v with
        | zero =>
          rw [if_pos rfl] at hnum
          have e : dec64 s = none := by
            rw [hi.2.2.2, hdr, dec64, show numN 0 [s.getD i 0, s.getD (i + 1) 0, s.getD (i + 2) 0, s.getD (i + 3) 0] = none from hj.2.2.trans hnum]; rfl
          rw [decR, e0, e] at hR
          refine S.run tab_ok Tryz.func78 rfl (.call (.tup [.lit (.int .i64 0), .lit (.bool false)]) .nil) _ _ fun P hP => ?_
          cbv
          refine fk (fun h => ?_) (fun h => ?_) <;> simp only [fold, plain] at h
          · clear h
            cbv
            simp only [fold, plain, decide_eq_true_eq]
            simp only [Int.ofNat_eq_natCast, hwij, Int.toNat_natCast, inB]
            exact ⟨⟨Int.natCast_nonneg _, by omega⟩, .of hval hP, hR⟩
          · simp at h; omega
        | succ v =>
          rw [if_neg (by omega)] at hnum
          have hp : 64 ^ j ≤ 64 ^ 3 := Nat.pow_le_pow_right (by omega) (by omega)
          have hp2 : 64 ^ (j + 1) = 64 ^ j * 64 := Nat.pow_succ ..
          have ih' := fun st => ihj (j + 1, a * 64 + v) st ⟨by dsimp only; omega, by dsimp only; omega, by dsimp only; rw [hj.2.2, hnum]; simp⟩ (by dsimp only; omega)
          clear ihj
          refine S.run tab_ok Tryz.func78 rfl (.call (.tup [.lit (.int .i64 (natZ v)), .lit (.bool true)]) .nil) _ _ fun P hP => ?_
          cbv
          refine fk (fun h => ?_) (fun h => ?_) <;> simp only [fold, plain] at h
          · clear h
            cbv
            simp only [fold, plain, decide_eq_true_eq]
            simp only [Int.ofNat_eq_natCast, hwij, Int.toNat_natCast, inB]
            refine ⟨⟨Int.natCast_nonneg _, by omega⟩, .of hval hP, ⟨?_⟩⟩
            subst hP
            have e : (a : Int) * 64 = (a * 64 : Nat) := by omega
            have e1 : IntKind.i64.wrap ((a : Int) * 64) = (a * 64 : Nat) := by rw [e]; exact w64 (by omega) (by omega)
            have e2 := or64 (x := a * 64) (y := v) (by omega) (by omega)
            rw [Int.ofNat_eq_natCast] at e2
            refine ih' _ ⟨⟨rfl, rfl, ?_, ?_, ?_, trivial⟩, rfl⟩
            · simp [Aw.get]
            · simp only [Aw.get, natZ_eq]
              simp only [show (2 : Int) ^ min (Int.toNat 6) IntKind.i64.bits = 64 from rfl, e1, e2]
              rw [show a * 64 = a * 2 ^ 6 from rfl, or_add _ _ _ (by omega)]
              rfl
            · simp only [Aw.get, natZ_eq, if_true, hw1]
          · simp at h; omega
      · have hj4 : j = 4 := by omega
        subst hj4
        have hnum : numN 0 [s.getD i 0, s.getD (i + 1) 0, s.getD (i + 2) 0, s.getD (i + 3) 0] = some a := hj.2.2
        have hw4 : IntKind.i64.wrap ((i : Int) + 4) = ((i + 4 : Nat) : Int) := w64 (by omega) (by omega)
        have hih : (some (o.getD [] ++ three a)).getD [] = o.getD [] ++ three a := rfl
        have ih' := fun st => ih (i + 4, some (o.getD [] ++ three a)) st ⟨h4, by dsimp only; omega, by simp [three]; omega, by
          rw [hi.2.2.2, hdr, dec64, hnum]
          cases dec64 (s.drop (i + 4)) <;> simp⟩ (by dsimp only; omega)
        clear ih ihj hwij
        cases o with
        | none =>
          refine S.run tab_ok Tryz.func78 rfl .nil _ _ fun P hP => ?_
          cbv
          refine ⟨?_⟩
          subst hP
          simp only [fold, plain, rows]
          simp only [Int.ofNat_eq_natCast, hw4]
          refine ih' _ ⟨⟨rfl, ?_, ?_, trivial⟩, ?_⟩
          · simp [Aw.get, t4, three]
          · simp [Aw.get]
          · simp only [ob4, encs_eq, Option.getD_none, List.nil_append, three_enc]; rfl
        | some o =>
          refine S.run tab_ok Tryz.func78 rfl .nil _ _ fun P hP => ?_
          cbv
          simp only [fold, plain, rows, decide_eq_true_eq]
          simp only [Int.ofNat_eq_natCast, hw4]
          have hol : o.length ≤ 131072 := by have := hi.2.2.1; simp at this; omega
          refine ⟨⟨trivial, by omega, by omega⟩, ⟨?_⟩⟩
          subst hP
          refine ih' _ ⟨⟨rfl, ?_, ?_, trivial⟩, ?_⟩
          · simp [Aw.get, t4, three]
          · simp [Aw.get]
          · simp only [ob4, encs_eq, Option.getD_some, List.map_append, three_enc]; rfl
    · simp at h; omega
  · have hie : i = s.length := by omega
    have e : dec64 s = some (o.getD []) := by rw [hi.2.2.2, hie, List.drop_length]; simp [dec64]
    rw [decR, e0, e] at hR
    clear ih
    cases o with
    | none =>
      refine S.run tab_ok Tryz.func78 rfl .nil _ _ fun P hP => ?_
      cbv
      refine fk (fun h => ?_) (fun h => ?_) <;> simp only [fold, plain] at h
      · simp at h; omega
      · clear h; cbv; exact hR
    | some o =>
      refine S.run tab_ok Tryz.func78 rfl .nil _ _ fun P hP => ?_
      cbv
      refine fk (fun h => ?_) (fun h => ?_) <;> simp only [fold, plain] at h
      · simp at h; omega
      · clear h; cbv
        simp only [fold, plain, rows, decide_eq_true_eq]
        exact ⟨trivial, trivial, hR⟩
end Go.Proofs
