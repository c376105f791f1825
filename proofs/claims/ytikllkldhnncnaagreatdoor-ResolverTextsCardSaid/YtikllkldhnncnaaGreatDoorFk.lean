/- SHA-256: Sum. -/
import Derived.Test.YtikllkldhnncnaaGreatDoorFj
set_option linter.all false
namespace Go.Proofs
open Go Go.Aw
set_option maxRecDepth 100000
def hashA (s : List UInt8) : Nat → List AV
  | 0 => cellsU h0L
  | i + 1 => blockA (hashA s i) (cellsU k0L) (cut (padL s) (64 * i) (64 * (i + 1)))
theorem hashA_sh (s : List UInt8) : ∀ i, Sh 8 (hashA s i)
  | 0 => Sh.cells h0L
  | i + 1 => vD_sh (vC_sh (hashA_sh s i) _) _
theorem padL_mod (s : List UInt8) : (padL s).length % 64 = 0 := by
  unfold padL sizeL
  simp
  unfold zerosN
  omega
def byte4 (x : Int) (n : Int) : UInt8 := UInt8.ofNat (IntKind.u8.wrap (yShr .u32 x n)).toNat
def four (x : Int) : List UInt8 := [byte4 x 24, byte4 x 16, byte4 x 8, UInt8.ofNat (IntKind.u8.wrap x).toNat]
def outL (h : List AV) : Nat → List UInt8
  | 0 => []
  | i + 1 => outL h i ++ four (U h i)
def sumS (s : List UInt8) : List UInt8 := outL (hashA s ((padL s).length / 64)) 8
theorem outL_length (h : List AV) : ∀ n, (outL h n).length = 4 * n
  | 0 => rfl
  | n + 1 => by rw [outL, List.length_append, outL_length h n]; simp [four]; omega
def t7o : Option (List UInt8) → AV
  | none => .lit (.slice none 0 0)
  | some o => .own 2 (len o)
def ob7 (h K : List AV) : Option (List UInt8) → List AObj
  | none => [.box h, .box K]
  | some o => [.box h, .box K, .buf 1 (encs o)]
theorem four_enc (x : Int) : (four x).map encB = [[.lit (.int .u8 (IntKind.u8.wrap (x.fdiv (2 ^ min (Int.toNat 24) IntKind.u32.bits))))], [.lit (.int .u8 (IntKind.u8.wrap (x.fdiv (2 ^ min (Int.toNat 16) IntKind.u32.bits))))],
    [.lit (.int .u8 (IntKind.u8.wrap (x.fdiv (2 ^ min (Int.toNat 8) IntKind.u32.bits))))], [.lit (.int .u8 (IntKind.u8.wrap x))]] := by
  simp only [four, byte4, List.map_cons, List.map_nil, encB_u8, plain]
theorem sum_spec (s : List UInt8) (hl : s.length ≤ 100) : Go.Aw.Pure Tryz.prog 21 [.str s] (.str (sumS s)) := by
  refine Pure.ofS Tryz.func21 (c := Tryz.f21.body.getD .skip) rfl (by kernel_rfl) Tryz.ntmps21 (by simp) fun hs R hR => ?_
  have hp := pad_spec s (by omega)
  have hpm := padL_mod s
  have hpl : (padL s).length ≤ 300 := by
    have : zerosN s.length < 64 := Nat.mod_lt _ (by omega)
    unfold padL sizeL; simp; omega
  have h0 := first_spec
  have hk := constants_spec
  have hh0 : hashA s 0 = cellsU h0L := rfl
  have hsH0 := Sh.cells h0L
  have hsK : Sh 64 (cellsU k0L) := Sh.cells k0L
  have hstep : ∀ i, hashA s (i + 1) = blockA (hashA s i) (cellsU k0L) (cut (padL s) (64 * i) (64 * (i + 1))) := fun _ => rfl
  unfold sumS at hR
  have hsh := hashA_sh s
  generalize hashA s = hash at *
  generalize cellsU k0L = K at *
  generalize padL s = p at *
  rw [show cellsU h0L = hash 0 from hh0.symm] at h0
  clear hsH0 hh0
  obtain ⟨H, hH⟩ : ∃ H, H = hash 0 := ⟨_, rfl⟩
  rw [← hH] at h0
  have hsH : Sh 8 H := by rw [hH]; exact hsh 0
  refine S.run tab_ok Tryz.func21 rfl (.call (.agg H) (.call (.agg K) (.call (.str p) .nil))) _ _ fun P hP => ?_
  cbv
  have hHl := hsH.len
  have hKl := hsK.len
  have hZ : ∀ {n : Nat} {Z X : List AV}, Z.length = n → Sh n X → splice Z 0 X = X := fun h1 h2 => splice_all (by rw [h1, h2.len])
  refine ⟨.of h0 hP, .of hk hP, .of hp hP, ?_, ?_, ?_, ?_, ⟨?_⟩⟩
  · simp only [fold]; exact hsH.one
  · simp only [fold, plain, decide_eq_true_eq]; omega
  · simp only [fold]; exact hsK.one
  · simp only [fold, plain, decide_eq_true_eq]; omega
  subst hP
  refine W.sub (st' := ⟨[(3, .ptr 0 0), (4, .ptr 1 0), (5, .str p), (6, .lit (.int .i64 0))], [.box H, .box K]⟩) ⟨⟨rfl, rfl, rfl, rfl, trivial⟩, ?_⟩ ?_
  · simp only [fold]
    rw [hZ (n := 8) rfl hsH, hZ (n := 64) rfl hsK]
  refine W.loopS (ι := Nat × Nat × List AV) (fun x => p.length - x.1) (fun x => x.1 = 64 * x.2.1 ∧ x.1 ≤ p.length ∧ x.2.2 = hash x.2.1) (fun x => ⟨[(3, .ptr 0 0), (4, .ptr 1 0), (5, .str p), (6, .lit (.int .i64 x.1))], [.box x.2.2, .box K]⟩) (0, 0, H) ⟨by simp, by simp, hH⟩ ⟨⟨rfl, rfl, rfl, rfl, trivial⟩, rfl⟩ fun ⟨q, b, h⟩ hi ih => ?_
  dsimp only at hi ih ⊢
  have hsh' : Sh 8 h := by rw [hi.2.2]; exact hsh b
  have hlh := hsh'.len
  have hth : List.take 8 (List.drop 0 h) = h := by rw [List.drop_zero, List.take_of_length_le (by omega)]
  have htK : List.take 64 (List.drop 0 K) = K := by rw [List.drop_zero, List.take_of_length_le (by omega)]
  rcases Nat.lt_or_ge q p.length with hq | hq
  · have hq64 : q + 64 ≤ p.length := by omega
    have hx : IntKind.i64.wrap (Int.ofNat q + 64) = Int.ofNat (q + 64) := by rw [w64 (by simp; omega) (by simp; omega)]; simp
    have hbl := block_spec h K (cut p q (q + 64)) hsh' hsK (by simp [cut]; omega)
    have ih' := fun st => ih (q + 64, b + 1, blockA h K (cut p q (q + 64))) st ⟨by dsimp only; omega, hq64, by dsimp only; rw [hstep, hi.2.2, hi.1, show 64 * (b + 1) = 64 * b + 64 by omega]⟩ (by dsimp only; omega)
    have hsb : Sh 8 (blockA h K (cut p q (q + 64))) := vD_sh (vC_sh hsh' _) _
    clear ih
    generalize blockA h K (cut p q (q + 64)) = B at *
    refine S.run tab_ok Tryz.func21 rfl (.call (.agg B) .nil) _ _ fun P hP => ?_
    cbv
    refine fk (fun h => ?_) (fun h => ?_) <;> simp only [fold, plain] at h
    · clear h
      cbv
      simp only [fold, plain, decide_eq_true_eq, hth, htK, hx, toNat_of]
      rw [show splice h 0 B = B from hZ hlh hsb]
      refine ⟨.of (by kernel_rfl) hP, by omega, by omega, ⟨Int.natCast_nonneg _, hq64⟩, ⟨Int.natCast_nonneg _, by omega⟩, ?_, ?_, hsb.one, ⟨hsb.len, by have := hsb.len; omega⟩, ⟨?_⟩⟩
      · rw [hsh'.closed, hsK.closed]
      · rw [hsh'.norm, hsK.norm]; exact .of hbl hP
      subst hP
      refine ih' _ ⟨⟨rfl, rfl, rfl, ?_, trivial⟩, rfl⟩
      simp only [Aw.get, if_true]; rfl
    · simp at h; omega
  have hqe : q = p.length := by omega
  have hbe : p.length / 64 = b := by omega
  rw [hbe, ← hi.2.2] at hR
  clear ih hi hstep
  refine S.run tab_ok Tryz.func21 rfl .nil _ _ fun P hP => ?_
  cbv
  refine fk (fun h => ?_) (fun h => ?_) <;> simp only [fold, plain] at h
  · simp at h; omega
  clear h
  cbv
  refine ⟨by simp only [fold, plain, decide_eq_true_eq]; omega, ⟨?_⟩⟩
  subst hP
  refine W.sub (st' := ⟨[(7, .lit (.slice none 0 0)), (28, .agg h), (29, .lit (.int .i64 0))], [.box h, .box K]⟩) ⟨⟨rfl, ?_, rfl, trivial⟩, rfl⟩ ?_
  · simp only [fold, hth]; rfl
  refine W.loopS (ι := Nat × Option (List UInt8)) (fun x => 8 - x.1) (fun x => x.1 ≤ 8 ∧ x.2.getD [] = outL h x.1) (fun x => ⟨[(7, t7o x.2), (28, .agg h), (29, .lit (.int .i64 x.1))], ob7 h K x.2⟩) (0, none) ⟨by simp, rfl⟩ ⟨⟨rfl, rfl, rfl, trivial⟩, rfl⟩ fun ⟨i, o⟩ hi ih => ?_
  dsimp only at hi ih ⊢
  have hol : (o.getD []).length = 4 * i := by rw [hi.2]; exact outL_length h i
  rcases Nat.lt_or_ge i 8 with hi8 | hi8
  · have hw1 : IntKind.i64.wrap (Int.ofNat i + 1) = Int.ofNat (i + 1) := by rw [w64 (by simp; omega) (by simp; omega)]; simp
    have hu := hsh'.isI hi8
    have ih' := fun st => ih (i + 1, some (o.getD [] ++ four (U h i))) st ⟨hi8, by dsimp only [Option.getD_some]; rw [hi.2]; rfl⟩ (by dsimp only; omega)
    clear ih
    unfold U at ih'
    cases o with
    | none =>
      refine S.run tab_ok Tryz.func21 rfl .nil _ _ fun P hP => ?_
      cbv
      refine fk (fun h => ?_) (fun h => ?_) <;> simp only [fold, plain] at h
      · clear h
        cbv
        simp only [fold, plain, rows, decide_eq_true_eq]
        simp only [hw1, toNat_of, Nat.mul_one]
        refine ⟨inB_of hi8, by omega, hu, ⟨?_⟩⟩
        subst hP
        refine ih' _ ⟨⟨?_, rfl, ?_, trivial⟩, ?_⟩
        · simp [Aw.get, t7o, four]
        · simp only [Aw.get, if_true]; rfl
        · simp only [ob7, encs_eq, Option.getD_none, List.nil_append, four_enc]
      · simp at h; omega
    | some o =>
      have hol : o.length = 4 * i := by simpa using hol
      refine S.run tab_ok Tryz.func21 rfl .nil _ _ fun P hP => ?_
      cbv
      refine fk (fun h => ?_) (fun h => ?_) <;> simp only [fold, plain] at h
      · clear h
        cbv
        simp only [fold, plain, rows, decide_eq_true_eq]
        simp only [hw1, toNat_of, Nat.mul_one]
        refine ⟨inB_of hi8, by omega, hu, ⟨trivial, by omega, by omega⟩, ⟨?_⟩⟩
        subst hP
        refine ih' _ ⟨⟨?_, rfl, ?_, trivial⟩, ?_⟩
        · simp [Aw.get, t7o, four]
        · simp only [Aw.get, if_true]; rfl
        · simp only [ob7, encs_eq, Option.getD_some, List.map_append, four_enc]
      · simp at h; omega
  have hie : i = 8 := by omega
  subst hie
  cases o with
  | none => simp at hol
  | some o =>
    have ho : o = outL h 8 := hi.2
    rw [← ho] at hR
    clear ih hi ho
    refine S.run tab_ok Tryz.func21 rfl .nil _ _ fun P hP => ?_
    cbv
    simp only [fold, plain, rows, decide_eq_true_eq]
    exact ⟨trivial, trivial, hR⟩
end Go.Proofs
