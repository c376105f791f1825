/- SHA-256: right, word, first, constants. SHA-256: pad. -/
import Derived.Test.YtikllkldhnncnaaGreatDoorFh
set_option linter.all false
namespace Go.Proofs
open Go Go.Aw
set_option maxRecDepth 100000
def rotZ (x : Int) (n : Nat) : Int := yOr .u32 (yShr .u32 x (IntKind.u64.wrap (Int.ofNat n))) (yShl .u32 x (IntKind.u64.wrap (ySub .i64 32 (Int.ofNat n))))
theorem wu64 {n : Int} (h0 : 0 ≤ n) (h1 : n ≤ 4611686018427387904) : IntKind.u64.wrap n = n := by
  simp [IntKind.wrap, IntKind.bits, IntKind.signed]
  omega
theorem right_spec (x : Int) (n : Nat) (hn : n ≤ 32) : Go.Aw.Pure Tryz.prog 47 [.lit (.int .u32 x), .lit (.int .i64 n)] (.lit (.int .u32 (rotZ x n))) := by
  refine Pure.ofS Tryz.func47 (c := Tryz.f47.body.getD .skip) rfl (by kernel_rfl) Tryz.ntmps47 (by simp) fun hs R hR => ?_
  simp only [rotZ, plain] at hR
  have h1 : 0 ≤ IntKind.u64.wrap (Int.ofNat n) := by rw [wu64 (by simp) (by simp; omega)]; simp
  have h2 : 0 ≤ IntKind.u64.wrap (IntKind.i64.wrap (32 - Int.ofNat n)) := by
    rw [w64 (by simp; omega) (by simp; omega), wu64 (by simp; omega) (by simp; omega)]; simp; omega
  refine S.run tab_ok Tryz.func47 rfl .nil _ _ fun P hP => ?_
  cbv
  simp only [fold, plain, decide_eq_true_eq]
  exact ⟨h1, h2, hR⟩
def wordZ (s : List UInt8) : Int := yOr .u32 (yOr .u32 (yOr .u32 (yShl .u32 (IntKind.u32.wrap (Int.ofNat (s.getD (Int.toNat 0) 0).toNat)) 24) (yShl .u32 (IntKind.u32.wrap (Int.ofNat (s.getD (Int.toNat 1) 0).toNat)) 16))
  (yShl .u32 (IntKind.u32.wrap (Int.ofNat (s.getD (Int.toNat 2) 0).toNat)) 8)) (IntKind.u32.wrap (Int.ofNat (s.getD (Int.toNat 3) 0).toNat))
theorem word_spec (s : List UInt8) (h4 : 4 ≤ s.length) : Go.Aw.Pure Tryz.prog 46 [.str s] (.lit (.int .u32 (wordZ s))) := by
  refine Pure.ofS Tryz.func46 (c := Tryz.f46.body.getD .skip) rfl (by kernel_rfl) Tryz.ntmps46 (by simp) fun hs R hR => ?_
  simp only [wordZ, plain] at hR
  refine S.run tab_ok Tryz.func46 rfl .nil _ _ fun P hP => ?_
  cbv
  simp only [fold, plain, decide_eq_true_eq]
  refine ⟨.of (by kernel_rfl) hP, ?_, ?_, ?_, ?_, hR⟩ <;> simp only [inB] <;> simp <;> omega
def cellsU (xs : List Int) : List AV := xs.map fun x => .lit (.int .u32 x)
def h0L : List Int := [1779033703, 3144134277, 1013904242, 2773480762, 1359893119, 2600822924, 528734635, 1541459225]
def k0L : List Int := [1116352408, 1899447441, 3049323471, 3921009573, 961987163, 1508970993, 2453635748, 2870763221, 3624381080, 310598401, 607225278, 1426881987, 1925078388, 2162078206, 2614888103, 3248222580, 3835390401, 4022224774, 264347078, 604807628, 770255983, 1249150122, 1555081692, 1996064986, 2554220882, 2821834349, 2952996808, 3210313671, 3336571891, 3584528711, 113926993, 338241895, 666307205, 773529912, 1294757372, 1396182291, 1695183700, 1986661051, 2177026350, 2456956037, 2730485921, 2820302411, 3259730800, 3345764771, 3516065817, 3600352804, 4094571909, 275423344, 430227734, 506948616, 659060556, 883997877, 958139571, 1322822218, 1537002063, 1747873779, 1955562222, 2024104815, 2227730452, 2361852424, 2428436474, 2756734187, 3204031479, 3329325298]
theorem first_spec : Go.Aw.Pure Tryz.prog 32 [] (.agg (cellsU h0L)) := by
  refine Pure.ofS Tryz.func32 (c := Tryz.f32.body.getD .skip) rfl (by kernel_rfl) Tryz.ntmps32 (by simp) fun hs R hR => ?_
  refine S.run tab_ok Tryz.func32 rfl .nil _ _ fun P hP => ?_
  cbv
  exact hR
theorem constants_spec : Go.Aw.Pure Tryz.prog 33 [] (.agg (cellsU k0L)) := by
  refine Pure.ofS Tryz.func33 (c := Tryz.f33.body.getD .skip) rfl (by kernel_rfl) Tryz.ntmps33 (by simp) fun hs R hR => ?_
  refine S.run tab_ok Tryz.func33 rfl .nil _ _ fun P hP => ?_
  cbv
  exact hR
end Go.Proofs
namespace Go.Proofs
open Go Go.Aw
set_option maxRecDepth 100000
/-- So many zero bytes are put behind. -/
def zerosN (l : Nat) : Nat := (119 - l % 64) % 64
def sizeB (l : Nat) (i : Nat) : UInt8 := UInt8.ofNat (IntKind.u8.wrap (yShr .u64 (yMul .u64 (IntKind.u64.wrap (Int.ofNat l)) 8) (IntKind.u64.wrap (Int.ofNat i)))).toNat
def sizeL (l : Nat) : List UInt8 := [sizeB l 56, sizeB l 48, sizeB l 40, sizeB l 32, sizeB l 24, sizeB l 16, sizeB l 8, sizeB l 0]
def padL (s : List UInt8) : List UInt8 := s ++ [128] ++ List.replicate (zerosN s.length) 0 ++ sizeL s.length
theorem tmod64 (a : Nat) : ((Int.ofNat a).tmod 64 == 56) = (a % 64 == 56) := by
  rw [Int.ofNat_eq_natCast, tmod_nn (by omega)]
  rw [Bool.eq_iff_iff]
  simp only [beq_iff_eq]
  omega
theorem encB_u8 (x : Int) : encB (UInt8.ofNat (IntKind.u8.wrap x).toNat) = [.lit (.int .u8 (IntKind.u8.wrap x))] := by
  have h0 : 0 ≤ IntKind.u8.wrap x ∧ IntKind.u8.wrap x < 256 := by
    simp [IntKind.wrap, IntKind.bits, IntKind.signed]; omega
  simp [encB, Nat.mod_eq_of_lt (show (IntKind.u8.wrap x).toNat < 256 by omega)]
  omega
theorem sizeL_take (l : Nat) : ∀ k < 8, (sizeL l).take (k + 1) = (sizeL l).take k ++ [sizeB l (56 - 8 * k)]
  | 0, _ => rfl
  | 1, _ => rfl
  | 2, _ => rfl
  | 3, _ => rfl
  | 4, _ => rfl
  | 5, _ => rfl
  | 6, _ => rfl
  | 7, _ => rfl
theorem pad_spec (s : List UInt8) (hl : s.length ≤ 1000) : Go.Aw.Pure Tryz.prog 34 [.str s] (.str (padL s)) := by
  refine Pure.ofS Tryz.func34 (c := Tryz.f34.body.getD .skip) rfl (by kernel_rfl) Tryz.ntmps34 (by simp) fun hs R hR => ?_
  refine S.run tab_ok Tryz.func34 rfl .nil _ _ fun P hP => ?_
  cbv
  refine ⟨?_, ?_⟩
  · simp only [fold, plain, rows, decide_eq_true_eq]
    exact ⟨trivial, by omega, by omega⟩
  refine ⟨?_⟩
  subst hP
  refine W.sub (st' := ⟨[(0, .str s), (3, .own 0 (len (s ++ [128])))], [.buf 1 (encs (s ++ [128]))]⟩) ⟨⟨rfl, ?_, trivial⟩, ?_⟩ ?_
  · simp only [fold, plain, rows]; simp [Aw.get]
  · simp only [fold, plain, rows]; simp [encB]
  obtain ⟨o0, ho0⟩ : ∃ o, o = s ++ [128] := ⟨_, rfl⟩
  rw [← ho0]
  have hl0 : o0.length = s.length + 1 := by rw [ho0]; simp
  refine W.loopS (ι := Nat × List UInt8) (fun x => zerosN s.length - x.1) (fun x => x.1 ≤ zerosN s.length ∧ x.2 = o0 ++ List.replicate x.1 0) (fun x => ⟨[(0, .str s), (3, .own 0 (len x.2))], [.buf 1 (encs x.2)]⟩) (0, o0) ⟨by simp, by simp⟩ ⟨⟨rfl, rfl, trivial⟩, rfl⟩ fun ⟨j, o⟩ hi ih => ?_
  dsimp only at hi ih ⊢
  have hol : o.length = s.length + 1 + j := by rw [hi.2]; simp [hl0]
  have hz : zerosN s.length < 64 := Nat.mod_lt _ (by omega)
  have hzd : (s.length + 1 + zerosN s.length) % 64 = 56 := by unfold zerosN; omega
  rcases Nat.lt_or_ge j (zerosN s.length) with hj | hj
  · have ih' := fun st => ih (j + 1, o ++ [0]) st ⟨hj, by rw [hi.2]; simp [List.replicate_succ']⟩ (by dsimp only; omega)
    clear ih
    refine S.run tab_ok Tryz.func34 rfl .nil _ _ fun P hP => ?_
    cbv
    refine ⟨?_, fk (fun h => ?_) (fun h => ?_)⟩
    · simp only [fold, plain, rows, decide_eq_true_eq]
    · clear h
      cbv
      simp only [fold, plain, rows, decide_eq_true_eq]
      refine ⟨⟨trivial, by omega, by omega⟩, ⟨?_⟩⟩
      subst hP
      refine ih' _ ⟨⟨rfl, ?_, trivial⟩, ?_⟩
      · simp [Aw.get]
      · simp [encB]
    · exfalso
      simp only [fold, plain, rows, tmod64] at h
      have h : o.length % 64 = 56 := by simpa using h
      omega
  · have hje : j = zerosN s.length := by omega
    clear ih
    refine S.run tab_ok Tryz.func34 rfl .nil _ _ fun P hP => ?_
    cbv
    refine ⟨?_, fk (fun h => ?_) (fun h => ?_)⟩
    · simp only [fold, plain, rows, decide_eq_true_eq]
    · exfalso
      simp only [fold, plain, rows, tmod64] at h
      have h : ¬ o.length % 64 = 56 := by simpa using h
      omega
    clear h
    cbv
    refine ⟨?_⟩
    subst hP
    have hpad : padL s = o ++ sizeL s.length := by unfold padL; rw [hi.2, hje, ho0]
    refine W.loopS (ι := Nat × Int × List UInt8) (fun x => 9 - x.1) (fun x => x.1 ≤ 8 ∧ x.2.1 = 56 - 8 * (x.1 : Int) ∧ x.2.2 = o ++ (sizeL s.length).take x.1) (fun x => ⟨[(0, .str s), (3, .own 0 (len x.2.2)), (4, .lit (.int .i64 x.2.1))], [.buf 1 (encs x.2.2)]⟩) (0, 56, o) ⟨by simp, by simp, by simp⟩ (by cbv) fun ⟨k, v, q⟩ hk ih => ?_
    dsimp only at hk ih ⊢
    have hql : q.length = o.length + k := by rw [hk.2.2]; simp [sizeL]; omega
    rcases Nat.lt_or_ge k 8 with hk8 | hk8
    · have hv : 0 ≤ v := by omega
      have hw : IntKind.i64.wrap (v - 8) = v - 8 := w64 (by omega) (by omega)
      have hsb : sizeB s.length (56 - 8 * k) = UInt8.ofNat (IntKind.u8.wrap (yShr .u64 (yMul .u64 (IntKind.u64.wrap (Int.ofNat s.length)) 8) (IntKind.u64.wrap v))).toNat := by
        unfold sizeB; rw [show Int.ofNat (56 - 8 * k) = v by rw [Int.ofNat_eq_natCast]; omega]
      have hwv : 0 ≤ IntKind.u64.wrap v := by rw [wu64 (by omega) (by omega)]; exact hv
      have ih' := fun st => ih (k + 1, v - 8, q ++ [sizeB s.length (56 - 8 * k)]) st ⟨hk8, by dsimp only; omega, by dsimp only; rw [sizeL_take _ _ hk8, hk.2.2, List.append_assoc]⟩ (by dsimp only; omega)
      rw [hsb] at ih'
      simp only [plain] at ih'
      clear ih
      refine S.run tab_ok Tryz.func34 rfl .nil _ _ fun P hP => ?_
      cbv
      refine fk (fun h => ?_) (fun h => ?_) <;> simp only [fold, plain] at h
      · clear h
        cbv
        simp only [fold, plain, rows, decide_eq_true_eq]
        refine ⟨hwv, ⟨trivial, by omega, by omega⟩, ⟨?_⟩⟩
        subst hP
        refine ih' _ ⟨⟨rfl, ?_, ?_, trivial⟩, ?_⟩
        · simp [Aw.get]
        · simp only [Aw.get, if_true, hw]
        · simp only [encs_eq, List.map_append, List.map_cons, List.map_nil, encB_u8]
      · exfalso
        have := of_decide_eq_false h
        omega
    · have hke : k = 8 := by omega
      have hvn : v < 0 := by omega
      subst hke
      have hqp : padL s = q := by rw [hpad, hk.2.2]; rfl
      rw [hqp] at hR
      clear ih
      refine S.run tab_ok Tryz.func34 rfl .nil _ _ fun P hP => ?_
      cbv
      refine fk (fun h => ?_) (fun h => ?_) <;> simp only [fold, plain] at h
      · exfalso
        have := of_decide_eq_true h
        omega
      · clear h
        cbv
        simp only [fold, plain, rows, decide_eq_true_eq]
        exact ⟨trivial, trivial, hR⟩
end Go.Proofs
