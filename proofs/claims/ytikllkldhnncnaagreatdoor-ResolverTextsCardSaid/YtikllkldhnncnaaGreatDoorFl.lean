/- The document's Encode of base64. -/
import Derived.Test.YtikllkldhnncnaaGreatDoorFk
set_option linter.all false
namespace Go.Proofs
open Go Go.Aw
set_option maxRecDepth 100000
theorem and64 {x y : Nat} (hx : x < 2 ^ 62) (hy : y < 2 ^ 62) : IntKind.i64.wrap (Int.ofNat (BitVec.ofInt IntKind.i64.bits (Int.ofNat x) &&& BitVec.ofInt IntKind.i64.bits (Int.ofNat y)).toNat) = Int.ofNat (x &&& y) := by
  have h1 : (BitVec.ofInt IntKind.i64.bits (Int.ofNat x) &&& BitVec.ofInt IntKind.i64.bits (Int.ofNat y)).toNat = x &&& y := by
    rw [BitVec.toNat_and, Int.ofNat_eq_natCast, Int.ofNat_eq_natCast, BitVec.ofInt_natCast, BitVec.ofInt_natCast, BitVec.toNat_ofNat, BitVec.toNat_ofNat]
    simp only [IntKind.bits]
    rw [Nat.mod_eq_of_lt (by omega), Nat.mod_eq_of_lt (by omega)]
  rw [h1]
  have : x &&& y ≤ x := Nat.and_le_left
  exact w64 (by simp) (by simp; omega)
def enc3 (n : Nat) : List UInt8 := [alphabet.getD (n / 262144) 0, alphabet.getD (n / 4096 % 64) 0, alphabet.getD (n / 64 % 64) 0, alphabet.getD (n % 64) 0]
def num3 (a b c : UInt8) : Nat := a.toNat * 65536 + b.toNat * 256 + c.toNat
def enc64 : List UInt8 → List UInt8
  | a :: b :: c :: s => enc3 (num3 a b c) ++ enc64 s
  | _ => []
theorem num3_lt (a b c : UInt8) : num3 a b c < 16777216 := by
  have h1 := a.toNat_lt; have h2 := b.toNat_lt; have h3 := c.toNat_lt
  unfold num3; omega
theorem numN_enc3 {n : Nat} (h : n < 16777216) : numN 0 (enc3 n) = some n := by
  unfold enc3
  have h0 := codeN_at (n / 262144) (by omega)
  have h1 := codeN_at (n / 4096 % 64) (by omega)
  have h2 := codeN_at (n / 64 % 64) (by omega)
  have h3 := codeN_at (n % 64) (by omega)
  simp only [numN, h0, h1, h2, h3]
  rw [if_neg (by omega), if_neg (by omega), if_neg (by omega), if_neg (by omega)]
  congr 1
  omega
theorem three_num3 (a b c : UInt8) : three (num3 a b c) = [a, b, c] := by
  have h1 := a.toNat_lt; have h2 := b.toNat_lt; have h3 := c.toNat_lt
  have e : ∀ (x : UInt8) (n : Nat), n % 256 = x.toNat → UInt8.ofNat n = x := fun x n h => by
    apply UInt8.toNat_inj.1
    simp [h]
  unfold three
  rw [e a _ (by unfold num3; omega), e b _ (by unfold num3; omega), e c _ (by unfold num3; omega)]
theorem dec_enc : ∀ (s : List UInt8), s.length % 3 = 0 → dec64 (enc64 s) = some s
  | [], _ => rfl
  | [_], h => by simp at h
  | [_, _], h => by simp at h
  | a :: b :: c :: s, h => by
    have ih := dec_enc s (by simp at h; omega)
    have hn := numN_enc3 (num3_lt a b c)
    rw [enc64, enc3]
    rw [enc3] at hn
    simp only [List.cons_append, List.nil_append]
    rw [dec64, hn, ih, Option.bind_some, Option.map_some, three_num3]
    rfl
theorem enc64_length : ∀ (s : List UInt8), (enc64 s).length = s.length / 3 * 4
  | [] => rfl
  | [_] => by simp [enc64]
  | [_, _] => by simp [enc64]
  | a :: b :: c :: s => by
    rw [enc64, List.length_append, enc64_length s]
    simp [enc3]; omega
theorem num_i64 (a b c : UInt8) : IntKind.i64.wrap (Int.ofNat (BitVec.ofInt IntKind.i64.bits (IntKind.i64.wrap (Int.ofNat (BitVec.ofInt IntKind.i64.bits (IntKind.i64.wrap (IntKind.i64.wrap (Int.ofNat a.toNat) * 2 ^ min (Int.toNat 16) IntKind.i64.bits)) |||
    BitVec.ofInt IntKind.i64.bits (IntKind.i64.wrap (IntKind.i64.wrap (Int.ofNat b.toNat) * 2 ^ min (Int.toNat 8) IntKind.i64.bits))).toNat)) ||| BitVec.ofInt IntKind.i64.bits (IntKind.i64.wrap (Int.ofNat c.toNat))).toNat) = Int.ofNat (num3 a b c) := by
  have h1 := a.toNat_lt; have h2 := b.toNat_lt; have h3 := c.toNat_lt
  have w : ∀ n : Nat, n ≤ 4611686018427387904 → IntKind.i64.wrap (Int.ofNat n) = Int.ofNat n := fun n hn => w64 (by simp <;> omega) (by simp <;> omega)
  rw [w a.toNat (by omega), w b.toNat (by omega), w c.toNat (by omega)]
  have e1 : Int.ofNat a.toNat * 2 ^ min (Int.toNat 16) IntKind.i64.bits = Int.ofNat (a.toNat * 65536) := by
    show Int.ofNat a.toNat * 65536 = _
    simp
  have e2 : Int.ofNat b.toNat * 2 ^ min (Int.toNat 8) IntKind.i64.bits = Int.ofNat (b.toNat * 256) := by
    show Int.ofNat b.toNat * 256 = _
    simp
  rw [e1, e2, w (a.toNat * 65536) (by omega), w (b.toNat * 256) (by omega)]
  have o1 := or64 (x := a.toNat * 65536) (y := b.toNat * 256) (by omega) (by omega)
  have o2 := or64 (x := a.toNat * 65536 + b.toNat * 256) (y := c.toNat) (by omega) (by omega)
  rw [show a.toNat * 65536 = a.toNat * 2 ^ 16 from rfl, or_add _ _ _ (by omega)] at o1
  rw [show a.toNat * 65536 + b.toNat * 256 = (a.toNat * 256 + b.toNat) * 2 ^ 8 by omega, or_add _ _ _ (by omega)] at o2
  simp only [Int.ofNat_eq_natCast] at o1 o2 ⊢
  rw [show ((a.toNat * 65536 : Nat) : Int) = ((a.toNat * 2 ^ 16 : Nat) : Int) from rfl, o1]
  rw [show a.toNat * 2 ^ 16 + b.toNat * 256 = (a.toNat * 256 + b.toNat) * 2 ^ 8 by omega, o2]
  unfold num3
  congr 1
  omega
theorem fdiv18 (n : Nat) : (Int.ofNat n).fdiv (2 ^ min (Int.toNat 18) IntKind.i64.bits) = Int.ofNat (n / 262144) := by
  show (Int.ofNat n).fdiv ((262144 : Nat) : Int) = _
  rw [fdiv_nn]; rfl
theorem fdiv12 (n : Nat) : (Int.ofNat n).fdiv (2 ^ min (Int.toNat 12) IntKind.i64.bits) = Int.ofNat (n / 4096) := by
  show (Int.ofNat n).fdiv ((4096 : Nat) : Int) = _
  rw [fdiv_nn]; rfl
theorem fdiv6 (n : Nat) : (Int.ofNat n).fdiv (2 ^ min (Int.toNat 6) IntKind.i64.bits) = Int.ofNat (n / 64) := by
  show (Int.ofNat n).fdiv ((64 : Nat) : Int) = _
  rw [fdiv_nn]; rfl
theorem and63 {x : Nat} (hx : x < 2 ^ 62) : IntKind.i64.wrap (Int.ofNat (BitVec.ofInt IntKind.i64.bits (Int.ofNat x) &&& BitVec.ofInt IntKind.i64.bits 63).toNat) = Int.ofNat (x % 64) := by
  have := and64 (x := x) (y := 63) hx (by omega)
  rw [show x % 64 = x &&& 63 from (Nat.and_two_pow_sub_one_eq_mod x 6).symm]
  exact this
theorem drop_three {s : List UInt8} {i : Nat} (h : i + 3 ≤ s.length) : s.drop i = s.getD i 0 :: s.getD (i + 1) 0 :: s.getD (i + 2) 0 :: s.drop (i + 3) := by
  have g : ∀ j, j < s.length → s.drop j = s.getD j 0 :: s.drop (j + 1) := fun j hj => by
    rw [List.drop_eq_getElem_cons hj]; simp [hj]
  rw [g i (by omega), g (i + 1) (by omega), g (i + 2) (by omega)]
theorem encode45_spec (s : List UInt8) (hl : s.length ≤ 3000) (h3 : s.length % 3 = 0) : Go.Aw.Pure Tryz.prog 45 [.str s] (.tup [.str (enc64 s), .lit (.int .i64 0)]) := by
  refine Pure.ofS Tryz.func45 (c := Tryz.f45.body.getD .skip) rfl (by kernel_rfl) Tryz.ntmps45 (by simp) fun hs R hR => ?_
  clear hs
  refine S.run tab_ok Tryz.func45 rfl .nil _ _ fun P hP => ?_
  cbv
  refine fk (fun h => ?_) (fun h => ?_) <;> simp only [fold, plain] at h
  · simp at h; omega
  clear h
  cbv
  refine fk (fun h => ?_) (fun h => ?_) <;> simp only [fold, plain] at h
  · exfalso
    simp [tmod_nn] at h; omega
  clear h
  cbv
  refine ⟨?_⟩
  subst hP
  refine W.loopS (ι := Nat × Option (List UInt8)) (fun x => s.length - x.1) (fun x => x.1 ≤ s.length ∧ x.1 % 3 = 0 ∧ (x.2.getD []).length ≤ 2 * x.1 ∧ enc64 s = (x.2.getD []) ++ enc64 (s.drop x.1))
    (fun x => ⟨[(0, .str s), (4, t4 x.2), (5, .lit (.int .i64 x.1))], ob4 x.2⟩) (0, none) ⟨by simp, by simp, by simp, by simp⟩ ⟨⟨rfl, rfl, rfl, trivial⟩, rfl⟩ fun ⟨i, o⟩ hi ih => ?_
  dsimp only at hi ih ⊢
  rcases Nat.lt_or_ge i s.length with hil | hil
  · have h4 : i + 3 ≤ s.length := by omega
    have hdr := drop_three h4
    have hn3 := num3_lt (s.getD i 0) (s.getD (i + 1) 0) (s.getD (i + 2) 0)
    have hx1 : IntKind.i64.wrap (Int.ofNat i + 1) = Int.ofNat (i + 1) := by rw [w64 (by simp; omega) (by simp; omega)]; simp
    have hx2 : IntKind.i64.wrap (Int.ofNat i + 2) = Int.ofNat (i + 2) := by rw [w64 (by simp; omega) (by simp; omega)]; simp
    have hx3 : IntKind.i64.wrap (Int.ofNat i + 3) = Int.ofNat (i + 3) := by rw [w64 (by simp; omega) (by simp; omega)]; simp
    have ih' := fun st => ih (i + 3, some (o.getD [] ++ enc3 (num3 (s.getD i 0) (s.getD (i + 1) 0) (s.getD (i + 2) 0)))) st ⟨h4, by dsimp only; omega, by simp [enc3]; omega, by
      dsimp only [Option.getD_some]
      rw [hi.2.2.2, hdr, enc64, List.append_assoc]⟩ (by dsimp only; omega)
    clear ih
    cases o with
    | none =>
      refine S.run tab_ok Tryz.func45 rfl .nil _ _ fun P hP => ?_
      cbv
      refine fk (fun h => ?_) (fun h => ?_) <;> simp only [fold, plain] at h
      · clear h
        cbv
        simp only [fold, plain, rows, decide_eq_true_eq]
        simp only [hx1, hx2, hx3, toNat_of, num_i64, fdiv18, fdiv12, fdiv6]
        rw [and63 (x := num3 (s.getD i 0) (s.getD (i + 1) 0) (s.getD (i + 2) 0) / 4096) (by omega), and63 (x := num3 (s.getD i 0) (s.getD (i + 1) 0) (s.getD (i + 2) 0) / 64) (by omega), and63 (x := num3 (s.getD i 0) (s.getD (i + 1) 0) (s.getD (i + 2) 0)) (by omega)]
        refine ⟨.of (by kernel_rfl) hP, inB_of hil, inB_of (by omega), inB_of (by omega), .of (by kernel_rfl) hP, inB_of (by omega), inB_of (by omega), inB_of (by omega), inB_of (by omega), ⟨?_⟩⟩
        subst hP
        refine ih' _ ⟨⟨rfl, ?_, ?_, trivial⟩, ?_⟩
        · simp [Aw.get, t4, enc3]
        · simp only [Aw.get, if_true]; rfl
        · simp only [ob4, encs_eq, Option.getD_none, List.nil_append, toNat_of]; rfl
      · simp at h; omega
    | some o =>
      have hol : o.length ≤ 2 * i := by simpa using hi.2.2.1
      refine S.run tab_ok Tryz.func45 rfl .nil _ _ fun P hP => ?_
      cbv
      refine fk (fun h => ?_) (fun h => ?_) <;> simp only [fold, plain] at h
      · clear h
        cbv
        simp only [fold, plain, rows, decide_eq_true_eq]
        simp only [hx1, hx2, hx3, toNat_of, num_i64, fdiv18, fdiv12, fdiv6]
        rw [and63 (x := num3 (s.getD i 0) (s.getD (i + 1) 0) (s.getD (i + 2) 0) / 4096) (by omega), and63 (x := num3 (s.getD i 0) (s.getD (i + 1) 0) (s.getD (i + 2) 0) / 64) (by omega), and63 (x := num3 (s.getD i 0) (s.getD (i + 1) 0) (s.getD (i + 2) 0)) (by omega)]
        refine ⟨.of (by kernel_rfl) hP, inB_of hil, inB_of (by omega), inB_of (by omega), .of (by kernel_rfl) hP, inB_of (by omega), inB_of (by omega), inB_of (by omega), inB_of (by omega), ⟨trivial, by omega, by omega⟩, ⟨?_⟩⟩
        subst hP
        refine ih' _ ⟨⟨rfl, ?_, ?_, trivial⟩, ?_⟩
        · simp [Aw.get, t4, enc3]
        · simp only [Aw.get, if_true]; rfl
        · simp only [ob4, encs_eq, Option.getD_some, List.map_append, toNat_of]; rfl
      · simp at h; omega
  · have hie : i = s.length := by omega
    have e : enc64 s = o.getD [] := by rw [hi.2.2.2, hie, List.drop_length]; simp [enc64]
    rw [e] at hR
    clear ih
    cases o with
    | none =>
      refine S.run tab_ok Tryz.func45 rfl .nil _ _ fun P hP => ?_
      cbv
      refine fk (fun h => ?_) (fun h => ?_) <;> simp only [fold, plain] at h
      · simp at h; omega
      · clear h; cbv; exact hR
    | some o =>
      refine S.run tab_ok Tryz.func45 rfl .nil _ _ fun P hP => ?_
      cbv
      refine fk (fun h => ?_) (fun h => ?_) <;> simp only [fold, plain] at h
      · simp at h; omega
      · clear h; cbv
        simp only [fold, plain, rows, decide_eq_true_eq]
        exact ⟨trivial, trivial, hR⟩
end Go.Proofs
