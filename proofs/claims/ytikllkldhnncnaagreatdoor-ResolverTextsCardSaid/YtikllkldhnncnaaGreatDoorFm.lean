/- The document's Encode and Make, and digests. resolver.Follow and resolver.Answer where nothing is known. -/
import Derived.Test.YtikllkldhnncnaaGreatDoorFl
set_option linter.all false
namespace Go.Proofs
open Go Go.Aw
set_option maxRecDepth 100000
theorem encode31_1 (raw : List UInt8) (hr : raw.length = 32) : Go.Aw.Pure Tryz.prog 31 [.agg [.lit (.int .i64 1), .str raw]] (.tup [.str (69 :: (enc64 (0 :: raw)).drop 1), .lit (.int .i64 0)]) := by
  refine Pure.ofS Tryz.func31 (c := Tryz.f31.body.getD .skip) rfl (by kernel_rfl) Tryz.ntmps31 (by simp) fun hs R hR => ?_
  clear hs
  have he := encode45_spec (0 :: raw) (by simp; omega) (by simp; omega)
  have hel := enc64_length (0 :: raw)
  simp only [List.length_cons, hr] at hel
  generalize enc64 (0 :: raw) = x at *
  obtain ⟨z, hz⟩ : ∃ z : List UInt8, z = 0 :: raw := ⟨_, rfl⟩
  have hz2 : [0] ++ raw = z := by rw [hz]; rfl
  rw [← hz] at he
  refine S.run tab_ok Tryz.func31 rfl (.call (.tup [.str [69], .lit (.bool true)]) (.call (.lit (.int .i64 32)) (.call (.lit (.int .i64 1)) (.call (.tup [.str x, .lit (.int .i64 0)]) .nil)))) _ _ fun P hP => ?_
  cbv
  refine ⟨.of (code_spec (k := 1) (by decide) (by decide)) hP, .of (by kernel_rfl) hP, .of (raw_spec (k := 1) (by decide) (by decide)) hP, fk (fun h => ?_) (fun h => ?_)⟩ <;> simp only [fold, plain] at h
  · exfalso
    simp [hr] at h
  clear h
  cbv
  refine ⟨.of lead44_1 hP, .of (by kernel_rfl) hP, ?_⟩
  simp only [fold, plain, decide_eq_true_eq]
  have hc : cut x 1 x.length = x.drop 1 := by unfold cut; rw [List.take_of_length_le (by simp)]
  rw [hc]
  exact ⟨by omega, by rw [← hz]; exact .of he hP, ⟨by decide, by show 1 ≤ x.length; omega⟩, by simp; omega, hR⟩
theorem make20_1 (raw : List UInt8) (hr : raw.length = 32) : Go.Aw.Pure Tryz.prog 20 [.lit (.int .i64 1), .str raw] (.str (69 :: (enc64 (0 :: raw)).drop 1)) := by
  refine Pure.ofS Tryz.func20 (c := Tryz.f20.body.getD .skip) rfl (by kernel_rfl) Tryz.ntmps20 (by simp) fun hs R hR => ?_
  have he := encode31_1 raw hr
  generalize (69 :: (enc64 (0 :: raw)).drop 1 : List UInt8) = x at *
  refine S.run tab_ok Tryz.func20 rfl (.call (.tup [.str x, .lit (.int .i64 0)]) .nil) _ _ fun P hP => ?_
  cbv
  exact ⟨.of he hP, hR⟩
theorem encode31_2 (raw : List UInt8) (hr : raw.length = 32) : Go.Aw.Pure Tryz.prog 31 [.agg [.lit (.int .i64 2), .str raw]] (.tup [.str (68 :: (enc64 (0 :: raw)).drop 1), .lit (.int .i64 0)]) := by
  refine Pure.ofS Tryz.func31 (c := Tryz.f31.body.getD .skip) rfl (by kernel_rfl) Tryz.ntmps31 (by simp) fun hs R hR => ?_
  clear hs
  have he := encode45_spec (0 :: raw) (by simp; omega) (by simp; omega)
  have hel := enc64_length (0 :: raw)
  simp only [List.length_cons, hr] at hel
  generalize enc64 (0 :: raw) = x at *
  obtain ⟨z, hz⟩ : ∃ z : List UInt8, z = 0 :: raw := ⟨_, rfl⟩
  have hz2 : [0] ++ raw = z := by rw [hz]; rfl
  rw [← hz] at he
  refine S.run tab_ok Tryz.func31 rfl (.call (.tup [.str [68], .lit (.bool true)]) (.call (.lit (.int .i64 32)) (.call (.lit (.int .i64 1)) (.call (.tup [.str x, .lit (.int .i64 0)]) .nil)))) _ _ fun P hP => ?_
  cbv
  refine ⟨.of (code_spec (k := 2) (by decide) (by decide)) hP, .of (by kernel_rfl) hP, .of (raw_spec (k := 2) (by decide) (by decide)) hP, fk (fun h => ?_) (fun h => ?_)⟩ <;> simp only [fold, plain] at h
  · exfalso
    simp [hr] at h
  clear h
  cbv
  refine ⟨.of lead44_2 hP, .of (by kernel_rfl) hP, ?_⟩
  simp only [fold, plain, decide_eq_true_eq]
  have hc : cut x 1 x.length = x.drop 1 := by unfold cut; rw [List.take_of_length_le (by simp)]
  rw [hc]
  exact ⟨by omega, by rw [← hz]; exact .of he hP, ⟨by decide, by show 1 ≤ x.length; omega⟩, by simp; omega, hR⟩
theorem make20_2 (raw : List UInt8) (hr : raw.length = 32) : Go.Aw.Pure Tryz.prog 20 [.lit (.int .i64 2), .str raw] (.str (68 :: (enc64 (0 :: raw)).drop 1)) := by
  refine Pure.ofS Tryz.func20 (c := Tryz.f20.body.getD .skip) rfl (by kernel_rfl) Tryz.ntmps20 (by simp) fun hs R hR => ?_
  have he := encode31_2 raw hr
  generalize (68 :: (enc64 (0 :: raw)).drop 1 : List UInt8) = x at *
  refine S.run tab_ok Tryz.func20 rfl (.call (.tup [.str x, .lit (.int .i64 0)]) .nil) _ _ fun P hP => ?_
  cbv
  exact ⟨.of he hP, hR⟩
def digestS (s : List UInt8) : List UInt8 := 69 :: (enc64 (0 :: sumS s)).drop 1
theorem sumS_length (s : List UInt8) : (sumS s).length = 32 := outL_length _ 8
theorem digestS_length (s : List UInt8) : (digestS s).length = 44 := by
  unfold digestS
  rw [List.length_cons, List.length_drop, enc64_length]
  simp [sumS_length]
theorem digest19_spec (s : List UInt8) (hl : s.length ≤ 100) : Go.Aw.Pure Tryz.prog 19 [.str s] (.str (digestS s)) := by
  refine Pure.ofS Tryz.func19 (c := Tryz.f19.body.getD .skip) rfl (by kernel_rfl) Tryz.ntmps19 (by simp) fun hs R hR => ?_
  have h1 := sum_spec s hl
  have h2 := make20_1 (sumS s) (sumS_length s)
  unfold digestS at hR
  generalize (69 :: (enc64 (0 :: sumS s)).drop 1 : List UInt8) = x at *
  generalize sumS s = y at *
  refine S.run tab_ok Tryz.func19 rfl (.call (.str y) (.call (.str x) .nil)) _ _ fun P hP => ?_
  cbv
  exact ⟨.of h1 hP, .of h2 hP, hR⟩
theorem digest17_spec (s : List UInt8) (hl : s.length ≤ 100) : Go.Aw.Pure Tryz.prog 17 [.str s] (.str (digestS s)) := by
  refine Pure.ofS Tryz.func17 (c := Tryz.f17.body.getD .skip) rfl (by kernel_rfl) Tryz.ntmps17 (by simp) fun hs R hR => ?_
  have h1 := digest19_spec s hl
  generalize digestS s = y at *
  refine S.run tab_ok Tryz.func17 rfl (.call (.str y) .nil) _ _ fun P hP => ?_
  cbv
  exact ⟨.of h1 hP, hR⟩
theorem enc64_head (b c : UInt8) (s : List UInt8) : 65 :: (enc64 (0 :: b :: c :: s)).drop 1 = enc64 (0 :: b :: c :: s) := by
  have h1 := b.toNat_lt; have h2 := c.toNat_lt
  have : num3 0 b c / 262144 = 0 := by
    unfold num3
    have : (0 : UInt8).toNat = 0 := rfl
    omega
  rw [enc64, enc3, this]
  rfl
theorem open_digest (s : List UInt8) : openR 1 (digestS s) = (sumS s, 0) := by
  have hl := digestS_length s
  have hs := sumS_length s
  have hj : startJ (digestS s) = some 0 := by
    unfold digestS
    exact find_at (by omega) (by simp [hasP, formsL]) (fun i hi => by omega)
  have hz : zN 0 = 44 := by decide
  have hb : bodyL (digestS s) 0 = enc64 (0 :: sumS s) := by
    unfold bodyL
    rw [hz]
    show List.replicate 1 65 ++ ((digestS s).drop 1).take 43 = _
    rw [List.take_of_length_le (by simp [hl])]
    unfold digestS
    show 65 :: (enc64 (0 :: sumS s)).drop 1 = _
    match hm : sumS s, hs with
    | b :: c :: r, _ => exact enc64_head b c r
  have hd : dec64 (enc64 (0 :: sumS s)) = some (0 :: sumS s) := dec_enc _ (by simp [hs])
  have he : decErr (enc64 (0 :: sumS s)) = 0 := by
    have h := enc64_length (0 :: sumS s)
    simp only [List.length_cons, hs] at h
    unfold decErr
    rw [if_neg (by omega), if_neg (by omega), hd]; rfl
  have hp : decP (digestS s) = ⟨1, sumS s, 44, 0⟩ := by
    unfold decP
    rw [hj]
    dsimp only
    rw [hz, if_neg (by omega), hb, he, if_neg (by decide), hd]
    have h1 : hasP ((some (0 :: sumS s)).getD []) (List.replicate (leadN (formsL.getD 0 ([], 0)).2) 0) = true := rfl
    rw [if_pos h1]
    unfold cutP
    rw [if_pos h1]
    rfl
  unfold openR
  rw [hp]
  dsimp only
  rw [if_neg (by decide), if_neg (by decide), if_neg (by omega)]
theorem key_length (x : List UInt8) (h : x.length = 32) : (68 :: (enc64 (0 :: x)).drop 1 : List UInt8).length = 44 := by
  rw [List.length_cons, List.length_drop, enc64_length]
  simp [h]
end Go.Proofs
namespace Go.Proofs
open Go Go.Aw
set_option maxRecDepth 100000
theorem find39_spec (s : List UInt8) : Go.Aw.Pure Tryz.prog 39 [.agg [.seq []], .str s, .lit (.int .i64 1)] (.lit (.pointer none)) := by
  refine Pure.ofS Tryz.func39 (c := Tryz.f39.body.getD .skip) rfl (by kernel_rfl) Tryz.ntmps39 (by simp) fun hs R hR => ?_
  refine S.run tab_ok Tryz.func39 rfl .nil _ _ fun P hP => ?_
  cbv
  refine ⟨?_⟩
  subst hP
  refine W.loop_ ?_
  refine S.run tab_ok Tryz.func39 rfl .nil _ _ fun P hP => ?_
  cbv
  exact hR
theorem get28_spec (s : List UInt8) : Go.Aw.Pure Tryz.prog 28 [.agg [.seq []], .str s, .lit (.int .i64 1)] (.tup [.agg [.str [], .lit (.int .i64 0), .str [], .lit (.int .i64 0), .seq []], .lit (.bool false)]) := by
  refine Pure.ofS Tryz.func28 (c := Tryz.f28.body.getD .skip) rfl (by kernel_rfl) Tryz.ntmps28 (by simp) fun hs R hR => ?_
  refine S.run tab_ok Tryz.func28 rfl (.call (.lit (.pointer none)) .nil) _ _ fun P hP => ?_
  cbv
  exact ⟨.of (find39_spec s) hP, hR⟩
theorem follow_spec (s : List UInt8) : Go.Aw.Pure Tryz.prog 15 [.agg [.seq []], .str s, .lit (.int .i64 1)] (.tup [.str [], .lit (.int .i64 5)]) := by
  refine Pure.ofS Tryz.func15 (c := Tryz.f15.body.getD .skip) rfl (by kernel_rfl) Tryz.ntmps15 (by simp) fun hs R hR => ?_
  refine S.run tab_ok Tryz.func15 rfl (.call (.tup [.agg [.str [], .lit (.int .i64 0), .str [], .lit (.int .i64 0), .seq []], .lit (.bool false)]) .nil) _ _ fun P hP => ?_
  cbv
  exact ⟨.of (get28_spec s) hP, hR⟩
theorem zv3 : zeV Tryz.prog 3 = some (.lit (.int .i64 0)) := by kernel_rfl
def tab_zv3 (t : Nat) : Option AV := if t = 3 then some (.lit (.int .i64 0)) else none
def tab3 : Tab := ⟨tab_tk, tab_sz, tab_by, tab_ze, tab_zv3⟩
theorem tab3_ok : TabOk Tryz.prog tab3 := ⟨tab_tk_ok, tab_sz_ok, tab_by_ok, tab_ze_ok, fun {t k} h => by
  have h : tab_zv3 t = some k := h
  unfold tab_zv3 at h
  split at h
  · rename_i e; subst e; rw [zv3]; exact h
  · cases h⟩
theorem find57_spec (s : List UInt8) : Go.Aw.Pure Tryz.prog 57 [.seq [], .str s] (.lit (.int .i64 (-1))) := by
  refine Pure.ofS Tryz.func57 (c := Tryz.f57.body.getD .skip) rfl (by kernel_rfl) Tryz.ntmps57 (by simp) fun hs R hR => ?_
  refine S.run tab3_ok Tryz.func57 rfl .nil _ _ fun P hP => ?_
  cbv
  refine ⟨?_⟩
  subst hP
  refine W.loop_ ?_
  refine S.run tab3_ok Tryz.func57 rfl .nil _ _ fun P hP => ?_
  cbv
  exact hR
theorem of41_spec (s : List UInt8) : Go.Aw.Pure Tryz.prog 41 [.seq [], .str s] (.tup [.agg [.lit (.slice none 0 0)], .lit (.bool false)]) := by
  refine Pure.ofS Tryz.func41 (c := Tryz.f41.body.getD .skip) rfl (by kernel_rfl) Tryz.ntmps41 (by simp) fun hs R hR => ?_
  refine S.run tab_ok Tryz.func41 rfl (.call (.lit (.int .i64 (-1))) .nil) _ _ fun P hP => ?_
  cbv
  exact ⟨.of (find57_spec s) hP, hR⟩
theorem log29_spec (s : List UInt8) : Go.Aw.Pure Tryz.prog 29 [.agg [.seq [], .seq []], .str s] (.tup [.agg [.lit (.slice none 0 0)], .lit (.bool false)]) := by
  refine Pure.ofS Tryz.func29 (c := Tryz.f29.body.getD .skip) rfl (by kernel_rfl) Tryz.ntmps29 (by simp) fun hs R hR => ?_
  refine S.run tab_ok Tryz.func29 rfl (.call (.tup [.agg [.lit (.slice none 0 0)], .lit (.bool false)]) .nil) _ _ fun P hP => ?_
  cbv
  exact ⟨.of (of41_spec s) hP, hR⟩
theorem answer_spec (s : List UInt8) : Go.Aw.Pure Tryz.prog 16 [.agg [.seq [], .seq []], .agg [.seq []], .str s] (.tup [.seq [], .seq [], .lit (.int .i64 5)]) := by
  refine Pure.ofS Tryz.func16 (c := Tryz.f16.body.getD .skip) rfl (by kernel_rfl) Tryz.ntmps16 (by simp) fun hs R hR => ?_
  refine S.run tab_ok Tryz.func16 rfl (.call (.tup [.agg [.lit (.slice none 0 0)], .lit (.bool false)]) .nil) _ _ fun P hP => ?_
  cbv
  exact ⟨.of (log29_spec s) hP, hR⟩
/-- The sanity check. -/
theorem awake_spec : Go.Aw.Pure Tryz.prog 5 [] (.lit (.bool true)) := by
  refine Pure.ofS Tryz.func5 (c := Tryz.f5.body.getD .skip) rfl (by kernel_rfl) Tryz.ntmps5 (by simp) fun hs R hR => ?_
  have h1 := parse_spec [111, 111, 98, 105, 58, 47, 120]
  have hp : parseR [111, 111, 98, 105, 58, 47, 120] = ([], [], 4) := by decide +kernel
  rw [hp] at h1
  have h2 := digest17_spec [97] (by simp)
  have h3 := print_spec [109, 105, 108, 108] (digestS [97])
  have hpr : printR [109, 105, 108, 108] (digestS [97]) = ([111, 111, 98, 105, 58, 109, 105, 108, 108, 47] ++ digestS [97], 0) := by
    unfold printR
    rw [if_neg (by decide), open_digest, if_neg (by decide)]
    rfl
  rw [hpr] at h3
  have hdl := digestS_length [97]
  generalize digestS [97] = d at *
  obtain ⟨x, hx⟩ : ∃ x, x = [111, 111, 98, 105, 58, 109, 105, 108, 108, 47] ++ d := ⟨_, rfl⟩
  rw [← hx] at h3
  refine S.run tab_ok Tryz.func5 rfl (.call (.tup [.str [], .str [], .lit (.int .i64 4)]) (.call (.tup [.str [], .lit (.int .i64 5)]) (.call (.tup [.seq [], .seq [], .lit (.int .i64 5)]) (.call (.str d) (.call (.tup [.str x, .lit (.int .i64 0)]) (.call (.str d) .nil)))))) _ _ fun P hP => ?_
  cbv
  refine ⟨.of h1 hP, .of (follow_spec [120]) hP, .of (answer_spec [120]) hP, .of h2 hP, .of h3 hP, .of h2 hP, ?_⟩
  simp only [fold, plain, decide_eq_true_eq]
  refine ⟨by omega, ?_⟩
  rw [hx]
  simpa using hR
end Go.Proofs
