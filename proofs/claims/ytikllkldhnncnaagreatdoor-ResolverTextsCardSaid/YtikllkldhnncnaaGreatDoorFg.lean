/- The document's Decode of a primitive: it is the program's. The document's Open, Is, Digits. The document's names, and its Print. -/
import Derived.Test.YtikllkldhnncnaaGreatDoorFf
set_option linter.all false
namespace Go.Proofs
open Go Go.Aw
set_option maxRecDepth 100000
theorem find_not {p : Nat → Bool} {n : Nat} (h : ∀ j < n, p j = false) : (List.range n).find? p = none := by
  rw [List.find?_eq_none]
  intro x hx
  rw [h x (by simpa using hx)]; simp
theorem find_at {p : Nat → Bool} {n j : Nat} (hj : j < n) (hp : p j = true) (h : ∀ i < j, p i = false) : (List.range n).find? p = some j := by
  rw [List.find?_range_eq_some]
  exact ⟨hp, by simpa using hj, fun i hi => by rw [h i hi]; rfl⟩
theorem dec64_length : ∀ (s o : List UInt8), dec64 s = some o → o.length = s.length / 4 * 3
  | [], o, h => by simp [dec64] at h; subst h; simp
  | [_], o, h => by simp [dec64] at h; subst h; simp
  | [_, _], o, h => by simp [dec64] at h; subst h; simp
  | [_, _, _], o, h => by simp [dec64] at h; subst h; simp
  | a :: b :: c :: d :: s, o, h => by
    rw [dec64] at h
    cases hn : numN 0 [a, b, c, d] with
    | none => rw [hn] at h; cases h
    | some n =>
      rw [hn] at h
      cases hd : dec64 s with
      | none => rw [hd] at h; cases h
      | some o' =>
        rw [hd] at h
        have := dec64_length s o' hd
        simp at h
        subst h
        simp only [List.length_append, three, List.length_cons, List.length_nil]
        omega
theorem form_more : ∀ j < 8, leadN (formsL.getD j ([], 0)).2 + (zN j - (formsL.getD j ([], 0)).1.length) = (zN j - (formsL.getD j ([], 0)).1.length + leadN (formsL.getD j ([], 0)).2) / 4 * 4 ∧ 4 ≤ leadN (formsL.getD j ([], 0)).2 + (zN j - (formsL.getD j ([], 0)).1.length) ∧
    (formsL.getD j ([], 0)).1 ≠ [] := by decide
theorem decode68_spec (s : List UInt8) : Go.Aw.Pure Tryz.prog 68 [.str s] (pdA (decP s)) := by
  refine Pure.ofS Tryz.func68 (c := Tryz.f68.body.getD .skip) rfl (by kernel_rfl) Tryz.ntmps68 (by simp) fun hs R hR => ?_
  have hs8 : s.length ≤ 140737488355328 := small_str hs
  refine S.run tab_ok Tryz.func68 rfl .nil _ _ fun P hP => ?_
  cbv
  refine ⟨?_⟩
  subst hP
  refine W.loopS (fun k : Nat => 9 - k) (fun k => 1 ≤ k ∧ k ≤ 9 ∧ ∀ j < k - 1, hasP s (formsL.getD j ([], 0)).1 = false) (fun k => ⟨[(0, .str s), (2, .ptr 0 0), (5, .lit (.int .i64 k))], [.box [.lit (.int .i64 0), .str []]]⟩) 1 ⟨by omega, by omega, by simp⟩ (by cbv; simp) fun k hk ih => ?_
  rcases Nat.lt_or_ge k 9 with hk9 | hk9
  · have hcode := code_spec hk.1 (by omega : k ≤ 8)
    have hsize := size77_spec hk.1 (by omega : k ≤ 8)
    have hlead := lead44_spec hk.1 (by omega : k ≤ 8)
    obtain ⟨f1, f2, f3, f4, f5, f6⟩ := form_facts (k - 1) (by omega)
    obtain ⟨g1, g2, g3⟩ := form_more (k - 1) (by omega)
    have hnext : hasP s (formsL.getD (k - 1) ([], 0)).1 = false → ∀ st, subS st ⟨[(0, .str s), (2, .ptr 0 0), (5, .lit (.int .i64 ((k + 1 : Nat) : Int)))], [.box [.lit (.int .i64 0), .str []]]⟩ → _ := fun hf st =>
      ih (k + 1) st ⟨by omega, by omega, fun j hj => by
        rcases Nat.lt_or_ge j (k - 1) with h | h
        · exact hk.2.2 j h
        · rw [show j = k - 1 by omega]; exact hf⟩ (by omega)
    have hdp : hasP s (formsL.getD (k - 1) ([], 0)).1 = true → startJ s = some (k - 1) := fun h => find_at (by omega) h hk.2.2
    unfold decP at hR
    clear ih
    have hk1 : k - 1 + 1 = k := by omega
    unfold codeS at hcode
    unfold rawN at hlead
    unfold bodyL at hR
    have hR' : startJ s = some (k - 1) → R (pdA (if s.length < zN (k - 1) then ⟨0, [], 0, 8⟩ else if decErr (List.replicate (leadN (formsL.getD (k - 1) ([], 0)).2) 65 ++ (s.drop (formsL.getD (k - 1) ([], 0)).1.length).take (zN (k - 1) - (formsL.getD (k - 1) ([], 0)).1.length)) ≠ 0 then ⟨0, [], 0, 4⟩
        else if hasP ((dec64 (List.replicate (leadN (formsL.getD (k - 1) ([], 0)).2) 65 ++ (s.drop (formsL.getD (k - 1) ([], 0)).1.length).take (zN (k - 1) - (formsL.getD (k - 1) ([], 0)).1.length))).getD []) (List.replicate (leadN (formsL.getD (k - 1) ([], 0)).2) 0) then ⟨k, cutP ((dec64 (List.replicate (leadN (formsL.getD (k - 1) ([], 0)).2) 65 ++ (s.drop (formsL.getD (k - 1) ([], 0)).1.length).take (zN (k - 1) - (formsL.getD (k - 1) ([], 0)).1.length))).getD []) (List.replicate (leadN (formsL.getD (k - 1) ([], 0)).2) 0), zN (k - 1), 0⟩
        else ⟨0, [], 0, 4⟩)) := fun h => by
      rw [h] at hR
      dsimp only at hR
      rw [hk1] at hR
      exact hR
    clear hR
    generalize zN (k - 1) = z at *
    generalize formsL.getD (k - 1) ([], 0) = cr at *
    obtain ⟨c, r⟩ := cr
    dsimp only at *
    generalize leadN r = l at *
    cases hp : hasP s c
    · have hnext := hnext hp
      have hpt := @hasP_take s c
      rw [hp] at hpt
      clear hR' hdp
      have hw : IntKind.i64.wrap ((k : Int) + 1) = ((k + 1 : Nat) : Int) := w64 (by omega) (by omega)
      refine S.run tab_ok Tryz.func68 rfl (.call (.tup [.str c, .lit (.bool true)]) .nil) _ _ fun P hP => ?_
      cbv
      refine fk (fun h => ?_) (fun h => ?_) <;> simp only [fold, plain] at h
      · clear h
        cbv
        refine ⟨.of hcode hP, fk (fun h => ?_) (fun h => ?_)⟩ <;> simp only [fold, plain] at h
        · clear h
          cbv
          refine ⟨?_⟩
          subst hP
          refine hnext _ ⟨⟨rfl, rfl, ?_, trivial⟩, rfl⟩
          simp only [Aw.get, if_true, fold, plain, Int.ofNat_eq_natCast, hw]
        · have hlc : c.length ≤ s.length := by simp at h; omega
          clear h
          cbv
          refine ⟨by simp only [fold, plain, decide_eq_true_eq]; simp; omega, fk (fun h => ?_) (fun h => ?_)⟩ <;> simp only [fold, plain] at h
          · clear h
            cbv
            refine ⟨?_⟩
            subst hP
            refine hnext _ ⟨⟨rfl, rfl, ?_, trivial⟩, rfl⟩
            simp only [Aw.get, if_true, fold, plain, Int.ofNat_eq_natCast, hw]
          · exfalso
            simp [cut] at h
            rw [h] at hpt
            simp at hpt
      · simp at h; omega
    · have hR' := hR' (hdp hp)
      clear hnext hdp
      have hpt := @hasP_take s c
      rw [hp] at hpt
      have hct : s.take c.length = c := by simpa using hpt.symm
      clear hpt
      have hlc : c.length ≤ s.length := by
        have := congrArg List.length hct
        simp at this; omega
      have haa : List.replicate l (65 : UInt8) = [65, 65].take l := by
        rcases (by omega : l = 0 ∨ l = 1 ∨ l = 2) with rfl | rfl | rfl <;> rfl
      have hzz : List.replicate l (0 : UInt8) = [0, 0].take l := by
        rcases (by omega : l = 0 ∨ l = 1 ∨ l = 2) with rfl | rfl | rfl <;> rfl
      by_cases hlz : s.length < z
      · rw [if_pos hlz] at hR'
        refine S.run tab_ok Tryz.func68 rfl (.call (.tup [.str c, .lit (.bool true)]) (.call (.lit (.int .i64 z)) .nil)) _ _ fun P hP => ?_
        cbv
        refine fk (fun h => ?_) (fun h => ?_) <;> simp only [fold, plain] at h
        · clear h
          cbv
          refine ⟨.of hcode hP, fk (fun h => ?_) (fun h => ?_)⟩ <;> simp only [fold, plain] at h
          · simp at h; omega
          clear h
          cbv
          refine ⟨by simp only [fold, plain, decide_eq_true_eq]; simp; omega, fk (fun h => ?_) (fun h => ?_)⟩ <;> simp only [fold, plain] at h
          · exfalso; simp [cut, hct] at h
          clear h
          cbv
          refine ⟨.of hsize hP, fk (fun h => ?_) (fun h => ?_)⟩ <;> simp only [fold, plain] at h
          · clear h; cbv; exact hR'
          · simp at h; omega
        · simp at h; omega
      · rw [if_neg hlz] at hR'
        have hdec := decode78_spec (List.replicate l 65 ++ (s.drop c.length).take (z - c.length))
        unfold decR at hdec
        have hb0 : (List.replicate l (65 : UInt8) ++ (s.drop c.length).take (z - c.length)).length = l + (z - c.length) := by simp; omega
        have hbe : [65, 65].take l ++ (s.drop c.length).take (z - c.length) = List.replicate l (65 : UInt8) ++ (s.drop c.length).take (z - c.length) := by rw [haa]
        generalize List.replicate l (65 : UInt8) ++ (s.drop c.length).take (z - c.length) = b at *
        obtain ⟨e, he⟩ : ∃ e, e = decErr b := ⟨_, rfl⟩
        obtain ⟨all, hall⟩ : ∃ all, all = if decErr b = 0 then (dec64 b).getD [] else [] := ⟨_, rfl⟩
        rw [← hall] at hdec
        rw [← he] at hR' hall hdec
        refine S.run tab_ok Tryz.func68 rfl (.call (.tup [.str c, .lit (.bool true)]) (.call (.lit (.int .i64 z)) (.call (.lit (.int .i64 l)) (.call (.lit (.int .i64 z)) (.call (.tup [.str all, .lit (.int .i64 e)]) (.call (.lit (.int .i64 z)) .nil)))))) _ _ fun P hP => ?_
        cbv
        refine fk (fun h => ?_) (fun h => ?_) <;> simp only [fold, plain] at h
        · clear h
          cbv
          refine ⟨.of hcode hP, fk (fun h => ?_) (fun h => ?_)⟩ <;> simp only [fold, plain] at h
          · simp at h; omega
          clear h
          cbv
          refine ⟨by simp only [fold, plain, decide_eq_true_eq]; simp; omega, fk (fun h => ?_) (fun h => ?_)⟩ <;> simp only [fold, plain] at h
          · exfalso; simp [cut, hct] at h
          clear h
          cbv
          refine ⟨.of hsize hP, fk (fun h => ?_) (fun h => ?_)⟩ <;> simp only [fold, plain] at h
          · simp at h; omega
          clear h
          cbv
          have hc1 : cut s c.length z = (s.drop c.length).take (z - c.length) := rfl
          have hc2 : cut [65, 65] 0 l = ([65, 65] : List UInt8).take l := by simp [cut]
          refine ⟨.of hlead hP, .of (by kernel_rfl) hP, ?_, .of hsize hP, ?_, ?_, ?_, ?_, .of (by kernel_rfl) hP, fk (fun h => ?_) (fun h => ?_)⟩
          · simp only [fold, plain, decide_eq_true_eq]; simp; omega
          · simp only [fold, plain, decide_eq_true_eq]; simp; omega
          · simp only [fold, plain, decide_eq_true_eq]; simp; omega
          · simp only [fold, plain, decide_eq_true_eq]; simp [cut]; omega
          · simp only [fold, plain, Int.ofNat_eq_natCast, Int.toNat_natCast, hc1, hc2, hbe]; exact .of hdec hP
          · simp only [fold, plain] at h
            rw [if_pos (by simpa using h)] at hR'
            clear h; cbv; exact hR'
          have he0 : e = 0 := by simp only [fold, plain] at h; simpa using h
          clear h
          rw [if_neg (by omega)] at hR'
          rw [if_pos he0] at hall
          rw [← hall] at hR'
          have hal : l ≤ all.length := by
            cases hd : dec64 b with
            | none =>
              rw [he0] at he
              have : decErr b = 4 ∨ decErr b ≠ 0 := by
                unfold decErr at he ⊢
                rw [hd] at he ⊢
                by_cases h1 : 131072 < b.length
                · rw [if_pos h1]; right; decide
                · by_cases h2 : b.length % 4 ≠ 0
                  · rw [if_neg h1, if_pos h2]; right; decide
                  · rw [if_neg h1, if_neg h2]; left; rfl
              omega
            | some o =>
              rw [hd] at hall
              have := dec64_length b o hd
              rw [hall]
              simp only [Option.getD_some]
              omega
          cbv
          refine ⟨?_, ?_, fk (fun h => ?_) (fun h => ?_)⟩
          · simp only [fold, plain, decide_eq_true_eq]; simp; omega
          · simp only [fold, plain, decide_eq_true_eq]; simp; omega
          · have hne : hasP all (List.replicate l 0) = false := by
              simp only [fold, plain] at h
              simp [cut] at h
              rw [hasP_take, hzz]
              simp
              rw [show min l 2 = l by omega]
              exact h
            rw [hne] at hR'
            clear h; cbv; exact hR'
          · have hye : hasP all (List.replicate l 0) = true := by
              simp only [fold, plain] at h
              simp [cut] at h
              rw [hasP_take, hzz]
              simp
              rw [show min l 2 = l by omega]
              exact h
            have hcu : cutP all (List.replicate l 0) = all.drop l := by unfold cutP; rw [if_pos hye]; simp
            rw [hcu, hye] at hR'
            have hc3 : cut all l all.length = all.drop l := by unfold cut; rw [List.take_of_length_le (by simp)]
            clear h; cbv
            simp only [fold, plain, decide_eq_true_eq, Int.ofNat_eq_natCast, Int.toNat_natCast, hc3]
            exact ⟨.of (by kernel_rfl) hP, ⟨Int.natCast_nonneg _, hal⟩, .of hsize hP, hR'⟩
        · simp at h; omega
  · have hno : startJ s = none := find_not fun j hj => hk.2.2 j (by omega)
    unfold decP at hR
    rw [hno] at hR
    refine S.run tab_ok Tryz.func68 rfl .nil _ _ fun P hP => ?_
    cbv
    refine fk (fun h => ?_) (fun h => ?_) <;> simp only [fold, plain] at h
    · simp at h; omega
    · clear h; cbv; exact hR
end Go.Proofs
namespace Go.Proofs
open Go Go.Aw
set_option maxRecDepth 100000
theorem open54_spec (code : Nat) (s : List UInt8) : Go.Aw.Pure Tryz.prog 54 [.lit (.int .i64 code), .str s] (.tup [.str (openR code s).1, .lit (.int .i64 (openR code s).2)]) := by
  refine Pure.ofS Tryz.func54 (c := Tryz.f54.body.getD .skip) rfl (by kernel_rfl) Tryz.ntmps54 (by simp) fun hs R hR => ?_
  have hd := decode68_spec s
  unfold openR at hR
  unfold pdA at hd
  generalize decP s = p at *
  obtain ⟨c, r, n, e⟩ := p
  dsimp only at hd hR
  refine S.run tab_ok Tryz.func54 rfl (.call (.tup [.agg [.lit (.int .i64 c), .str r], .lit (.int .i64 n), .lit (.int .i64 e)]) .nil) _ _ fun P hP => ?_
  cbv
  refine ⟨.of hd hP, fk (fun h => ?_) (fun h => ?_)⟩ <;> simp only [fold, plain] at h
  · rw [if_pos (by simpa using h)] at hR
    clear h; cbv; exact hR
  rw [if_neg (by simpa using h)] at hR
  clear h; cbv
  refine fk (fun h => ?_) (fun h => ?_) <;> simp only [fold, plain] at h
  · have h : c ≠ code := by simp at h; omega
    rw [if_pos h] at hR
    cbv; exact hR
  have h : c = code := by simp at h; omega
  rw [if_neg (by simpa using h)] at hR
  clear h; cbv
  refine fk (fun h => ?_) (fun h => ?_) <;> simp only [fold, plain] at h
  · have h : n ≠ s.length := by simp at h; omega
    rw [if_pos h] at hR
    cbv; exact hR
  have h : n = s.length := by simp at h; omega
  rw [if_neg (by simpa using h)] at hR
  clear h; cbv
  exact hR
theorem is_spec (s : List UInt8) : Go.Aw.Pure Tryz.prog 37 [.lit (.int .i64 1), .str s] (.lit (.bool ((openR 1 s).2 == 0))) := by
  refine Pure.ofS Tryz.func37 (c := Tryz.f37.body.getD .skip) rfl (by kernel_rfl) Tryz.ntmps37 (by simp) fun hs R hR => ?_
  have ho := open54_spec 1 s
  generalize openR 1 s = x at *
  obtain ⟨r, e⟩ := x
  dsimp only at ho hR
  refine S.run tab_ok Tryz.func37 rfl (.call (.tup [.str r, .lit (.int .i64 e)]) .nil) _ _ fun P hP => ?_
  cbv
  refine ⟨.of ho hP, ?_⟩
  simp only [fold, plain]
  rw [show (Int.ofNat e == 0) = (e == 0) from ?_]
  · exact hR
  · cases e <;> rfl
theorem digits_spec (s : List UInt8) : Go.Aw.Pure Tryz.prog 25 [.str s] (.lit (.bool ((openR 1 s).2 == 0))) := by
  refine Pure.ofS Tryz.func25 (c := Tryz.f25.body.getD .skip) rfl (by kernel_rfl) Tryz.ntmps25 (by simp) fun hs R hR => ?_
  have ho := is_spec s
  generalize ((openR 1 s).2 == 0) = b at *
  refine S.run tab_ok Tryz.func25 rfl (.call (.lit (.bool b)) .nil) _ _ fun P hP => ?_
  cbv
  exact ⟨.of ho hP, hR⟩
end Go.Proofs
namespace Go.Proofs
open Go Go.Aw
set_option maxRecDepth 100000
theorem nameOK_no {s : List UInt8} {i : Nat} (hi : i < s.length) (h : nameCh i (s.getD i 0).toNat = false) : nameOK s = false := by
  have : (List.range s.length).all (fun i => nameCh i (s.getD i 0).toNat) = false := by
    rw [List.all_eq_false]; exact ⟨i, by simpa using hi, by rw [h]; simp⟩
  simp only [nameOK, this, Bool.and_false]
theorem name24_spec (s : List UInt8) : Go.Aw.Pure Tryz.prog 24 [.str s] (.lit (.bool (nameOK s))) := by
  refine Pure.ofS Tryz.func24 (c := Tryz.f24.body.getD .skip) rfl (by kernel_rfl) Tryz.ntmps24 (by simp) fun hs R hR => ?_
  have hc0 := (s.getD 0 0).toNat_lt
  refine S.run tab_ok Tryz.func24 rfl .nil _ _ fun P hP => ?_
  cbv
  refine fk (fun h => ?_) (fun h => ?_) <;> simp only [fold, plain] at h
  · have h0 : s.length = 0 := by simp at h; omega
    clear h; cbv
    rw [show nameOK s = false from by simp [nameOK, h0]] at hR; exact hR
  have h1 : 1 ≤ s.length := by simp at h; omega
  clear h; cbv
  refine fk (fun h => ?_) (fun h => ?_) <;> simp only [fold, plain] at h
  · have h2 : 32 < s.length := by simp at h; omega
    clear h; cbv
    rw [show nameOK s = false from by simp only [nameOK]; rw [decide_eq_false (p := s.length ≤ 32) (by omega)]; simp] at hR; exact hR
  have h2 : s.length ≤ 32 := by simp at h; omega
  clear h; cbv
  refine ⟨by simp only [fold, plain, decide_eq_true_eq]; simp only [inB]; simp; omega, fk (fun h => ?_) (fun h => ?_)⟩ <;> simp only [fold, plain] at h
  · have h3 : (s.getD 0 0).toNat < 97 := by
      have h := of_decide_eq_true h
      have : (Int.ofNat (s.getD (Int.toNat 0) 0).toNat) < 97 := h
      simp only [Int.ofNat_eq_natCast, Int.toNat_zero] at this
      omega
    clear h; cbv
    rw [nameOK_no (i := 0) (by omega) (by simp only [nameCh, decide_eq_false_iff_not]; omega)] at hR; exact hR
  have h3 : 97 ≤ (s.getD 0 0).toNat := by
    have h := of_decide_eq_false h
    simp only [Int.ofNat_eq_natCast, Int.toNat_zero] at h
    omega
  clear h; cbv
  refine ⟨by simp only [fold, plain, decide_eq_true_eq]; simp only [inB]; simp; omega, fk (fun h => ?_) (fun h => ?_)⟩ <;> simp only [fold, plain] at h
  · have h4 : 122 < (s.getD 0 0).toNat := by
      have h := of_decide_eq_true h
      simp only [Int.ofNat_eq_natCast, Int.toNat_zero] at h
      omega
    clear h; cbv
    rw [nameOK_no (i := 0) (by omega) (by simp only [nameCh, decide_eq_false_iff_not]; omega)] at hR; exact hR
  have h4 : (s.getD 0 0).toNat ≤ 122 := by
    have h := of_decide_eq_false h
    simp only [Int.ofNat_eq_natCast, Int.toNat_zero] at h
    omega
  clear h; cbv
  refine ⟨?_⟩
  subst hP
  refine W.loopS (fun i : Nat => s.length - i) (fun i => i ≤ s.length ∧ ∀ j < i, nameCh j (s.getD j 0).toNat = true) (fun i => ⟨[(0, .str s), (3, .lit (.int .i64 i))], []⟩) 0 ⟨by omega, by simp⟩ (by cbv; simp) fun i hi ih => ?_
  have hc := (s.getD i 0).toNat_lt
  have hw : i ≤ 32 → IntKind.i64.wrap ((i : Int) + 1) = ((i + 1 : Nat) : Int) := fun h => w64 (by omega) (by omega)
  rcases Nat.lt_or_ge i s.length with hil | hil
  · have hw := hw (by omega)
    have hno : ((s.getD i 0).toNat < 97 ∨ 122 < (s.getD i 0).toNat) ∧ ((s.getD i 0).toNat < 48 ∨ 57 < (s.getD i 0).toNat) ∧ (s.getD i 0).toNat ≠ 95 → nameOK s = false := fun h =>
      nameOK_no hil (by simp only [nameCh, decide_eq_false_iff_not]; omega)
    have ih' : nameCh i (s.getD i 0).toNat = true → ∀ st, subS st ⟨[(0, .str s), (3, .lit (.int .i64 ((i + 1 : Nat) : Int)))], []⟩ → _ := fun hcc st => ih (i + 1) st ⟨by omega, fun j hj => by
      rcases Nat.lt_succ_iff_lt_or_eq.1 hj with hj | rfl
      · exact hi.2 j hj
      · exact hcc⟩ (by omega)
    have ih'' : (97 ≤ (s.getD i 0).toNat ∧ (s.getD i 0).toNat ≤ 122) ∨ (s.getD i 0).toNat = 95 ∨ (48 ≤ (s.getD i 0).toNat ∧ (s.getD i 0).toNat ≤ 57) → ∀ st, subS st ⟨[(0, .str s), (3, .lit (.int .i64 ((i + 1 : Nat) : Int)))], []⟩ → _ := fun h => ih' (by
      simp only [nameCh, decide_eq_true_eq]
      rcases Nat.eq_zero_or_pos i with h0 | h0
      · subst h0; omega
      · omega)
    clear ih ih'
    refine S.run tab_ok Tryz.func24 rfl .nil _ _ fun P hP => ?_
    cbv
    refine fk (fun h => ?_) (fun h => ?_) <;> simp only [fold, plain] at h
    · clear h
      cbv
      refine ⟨by simp only [fold, plain, decide_eq_true_eq]; simp only [inB, Int.ofNat_eq_natCast, Int.toNat_natCast]; omega, ?_⟩
      repeat' (refine fk (fun h => ?_) (fun h => ?_) <;> simp only [fold, plain] at h <;> (try simp only [Bool.not_eq_true', Bool.not_eq_false', beq_iff_eq, beq_eq_false_iff_ne] at h) <;> cbv)
      all_goals simp only [Int.ofNat_eq_natCast, Int.toNat_natCast, decide_eq_true_eq, decide_eq_false_iff_not] at *
      all_goals first
        | (rw [hno (by omega)] at hR; exact hR)
        | (refine ⟨?_⟩; subst hP; refine ih'' (by omega) _ ⟨⟨rfl, ?_, trivial⟩, rfl⟩; simp only [Aw.get, if_true, fold, plain, Int.ofNat_eq_natCast, hw])
    · simp at h; omega
  · have hie : i = s.length := by omega
    have hok : nameOK s = true := by
      simp only [nameOK, Bool.and_eq_true, List.all_eq_true, List.mem_range]
      exact ⟨⟨by simp; intro e; simp [e] at h1, by simpa using h2⟩, fun j hj => hi.2 j (by omega)⟩
    rw [hok] at hR
    refine S.run tab_ok Tryz.func24 rfl .nil _ _ fun P hP => ?_
    cbv
    refine fk (fun h => ?_) (fun h => ?_) <;> simp only [fold, plain] at h
    · simp at h; omega
    · clear h; cbv; exact hR
theorem print11_spec (place pre : List UInt8) : Go.Aw.Pure Tryz.prog 11 [.str place, .str pre] (.tup [.str (printR place pre).1, .lit (.int .i64 (printR place pre).2)]) := by
  refine Pure.ofS Tryz.func11 (c := Tryz.f11.body.getD .skip) rfl (by kernel_rfl) Tryz.ntmps11 (by simp) fun hs R hR => ?_
  have hn := name24_spec place
  have hl := @nameOK_len place
  have ho := digits_spec pre
  have hl2 := @openR_len 1 pre
  unfold printR at hR
  cases hb : nameOK place
  · rw [hb] at hn
    rw [if_pos hb] at hR
    refine S.run tab_ok Tryz.func11 rfl (.call (.lit (.bool false)) .nil) _ _ fun P hP => ?_
    cbv
    exact ⟨.of hn hP, hR⟩
  · rw [hb] at hn
    have hl := hl hb
    rw [if_neg (by simp [hb])] at hR
    by_cases he : (openR 1 pre).2 = 0
    · have hl2 := hl2 he
      rw [if_neg (by omega)] at hR
      rw [show ((openR 1 pre).2 == 0) = true by simpa using he] at ho
      refine S.run tab_ok Tryz.func11 rfl (.call (.lit (.bool true)) (.call (.lit (.bool true)) .nil)) _ _ fun P hP => ?_
      cbv
      refine ⟨.of hn hP, .of ho hP, ?_⟩
      simp only [fold, plain, decide_eq_true_eq]
      refine ⟨by omega, by simp; omega, by simp; omega, ?_⟩
      simpa using hR
    · rw [if_pos he] at hR
      rw [show ((openR 1 pre).2 == 0) = false by simpa using he] at ho
      refine S.run tab_ok Tryz.func11 rfl (.call (.lit (.bool true)) (.call (.lit (.bool false)) .nil)) _ _ fun P hP => ?_
      cbv
      exact ⟨.of hn hP, .of ho hP, hR⟩
end Go.Proofs
