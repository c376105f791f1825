/- The document's Parse: it is the program's. -/
import Derived.Test.YtikllkldhnncnaaGreatDoorFg
set_option linter.all false
namespace Go.Proofs
open Go Go.Aw
set_option maxRecDepth 100000
theorem indexByte_app (c : UInt8) : ∀ (l r : List UInt8), (∀ x ∈ l, x ≠ c) → Lib.indexByte (l ++ c :: r) c = l.length
  | [], r, _ => by simp [Lib.indexByte]
  | b :: l, r, h => by
    have ih := indexByte_app c l r fun x hx => h x (List.mem_cons_of_mem _ hx)
    rw [List.cons_append, Lib.indexByte, if_neg (by simpa using h b (List.mem_cons_self ..)), ih]
    rw [if_neg (by simp <;> omega)]
    simp
theorem indexByte_get (c : UInt8) : ∀ (s : List UInt8) (n : Nat), Lib.indexByte s c = n → s.getD n 0 = c
  | [], n, h => by simp [Lib.indexByte] at h
  | b :: s, n, h => by
    unfold Lib.indexByte at h
    split at h
    · rename_i hb
      have : n = 0 := by omega
      subst this
      simpa using hb
    · split at h
      · omega
      · rename_i hb
        have hb : Lib.indexByte s c ≠ -1 := by simpa using hb
        have hg := Lib.indexByte_ge s c
        have := indexByte_get c s (n - 1) (by omega)
        rw [show n = n - 1 + 1 by omega]
        simpa using this
theorem name_no {p : List UInt8} (h : nameOK p = true) : ∀ x ∈ p, x ≠ 47 := by
  intro x hx e
  subst e
  obtain ⟨i, hi, e⟩ := List.getElem_of_mem hx
  unfold nameOK at h
  simp only [Bool.and_eq_true, List.all_eq_true, List.mem_range] at h
  have := h.2 i hi
  rw [List.getD_eq_getElem?_getD, List.getElem?_eq_getElem hi, e] at this
  simp [nameCh] at this
theorem print_at {s : List UInt8} {i : Nat} (h5 : 5 ≤ i) (hi : i < s.length) (h : printR (cutAt s i).1 (cutAt s i).2 = (s, 0)) : Lib.indexByte s 47 = i := by
  unfold printR at h
  split at h
  · simp at h
  · rename_i hn
    split at h
    · simp at h
    · have e := congrArg Prod.fst h
      dsimp only at e
      have hn : nameOK (cutAt s i).1 = true := by simpa using hn
      have hl : (cutAt s i).1.length = i - 5 := by simp [cutAt]; omega
      rw [← e]
      rw [show [111, 111, 98, 105, 58] ++ (cutAt s i).1 ++ [47] ++ (cutAt s i).2 = ([111, 111, 98, 105, 58] ++ (cutAt s i).1) ++ 47 :: (cutAt s i).2 by simp]
      rw [indexByte_app]
      · simp [hl]; omega
      · intro x hx
        rcases List.mem_append.1 hx with hx | hx
        · simp at hx
          rcases hx with rfl | rfl | rfl | rfl <;> decide
        · exact name_no hn x hx
theorem parse14_spec (s : List UInt8) : Go.Aw.Pure Tryz.prog 14 [.str s] (.tup [.str (parseR s).1, .str (parseR s).2.1, .lit (.int .i64 (parseR s).2.2)]) := by
  refine Pure.ofS Tryz.func14 (c := Tryz.f14.body.getD .skip) rfl (by kernel_rfl) Tryz.ntmps14 (by simp) fun hs R hR => ?_
  have hs8 : s.length ≤ 140737488355328 := small_str hs
  refine S.run tab_ok Tryz.func14 rfl .nil _ _ fun P hP => ?_
  cbv
  refine ⟨?_⟩
  subst hP
  refine W.loopS (fun i : Nat => s.length - i) (fun i => 5 ≤ i ∧ (i ≤ s.length ∨ i = 5) ∧ ∀ j, 5 ≤ j → j < i → s.getD j 0 = 47 → printR (cutAt s j).1 (cutAt s j).2 ≠ (s, 0)) (fun i => ⟨[(0, .str s), (5, .lit (.int .i64 i))], []⟩) 5 ⟨by omega, by omega, fun j h1 h2 => by omega⟩ (by cbv; simp) fun i hi ih => ?_
  rcases Nat.lt_or_ge i s.length with hil | hil
  · have hw : IntKind.i64.wrap ((i : Int) + 1) = ((i + 1 : Nat) : Int) := w64 (by omega) (by omega)
    have ih' : (s.getD i 0 = 47 → printR (cutAt s i).1 (cutAt s i).2 ≠ (s, 0)) → ∀ st, subS st ⟨[(0, .str s), (5, .lit (.int .i64 ((i + 1 : Nat) : Int)))], []⟩ → _ := fun hno st => ih (i + 1) st ⟨by omega, by omega, fun j h1 h2 => by
      rcases Nat.lt_succ_iff_lt_or_eq.1 h2 with h | rfl
      · exact hi.2.2 j h1 h
      · exact hno⟩ (by omega)
    clear ih
    have hp := print11_spec (cutAt s i).1 (cutAt s i).2
    have hat := @print_at s i hi.1 hil
    have hcut1 : cut s 5 i = (cutAt s i).1 := rfl
    have hcut2 : cut s (i + 1) s.length = (cutAt s i).2 := by simp only [cut, cutAt]; rw [List.take_of_length_le (by simp)]
    obtain ⟨c1, hc1⟩ : ∃ c, c = (cutAt s i).1 := ⟨_, rfl⟩
    obtain ⟨c2, hc2⟩ : ∃ c, c = (cutAt s i).2 := ⟨_, rfl⟩
    rw [← hc1, ← hc2] at hp hat ih'
    rw [← hc1] at hcut1
    rw [← hc2] at hcut2
    have hparse : printR c1 c2 = (s, 0) → parseR s = (c1, c2, 0) := fun hps => by
      unfold parseR
      rw [hat hps, if_neg (by have := hi.1; omega)]
      have : ((i : Nat) : Int).toNat = i := by omega
      rw [this, ← hc1, ← hc2, if_pos hps]
    clear hat
    obtain ⟨again, ha⟩ : ∃ x, x = (printR c1 c2).1 := ⟨_, rfl⟩
    obtain ⟨e, he⟩ : ∃ x, x = (printR c1 c2).2 := ⟨_, rfl⟩
    have hpr : printR c1 c2 = (again, e) := by rw [ha, he]
    rw [← ha, ← he] at hp
    refine S.run tab_ok Tryz.func14 rfl (.call (.tup [.str again, .lit (.int .i64 e)]) .nil) _ _ fun P hP => ?_
    cbv
    refine fk (fun h => ?_) (fun h => ?_) <;> simp only [fold, plain] at h
    · clear h
      cbv
      refine ⟨by simp only [fold, plain, decide_eq_true_eq]; simp only [inB, Int.ofNat_eq_natCast, Int.toNat_natCast]; omega, fk (fun h => ?_) (fun h => ?_)⟩ <;> simp only [fold, plain] at h
      · have hno : s.getD i 0 ≠ 47 := by
          intro e2
          simp at h
          rw [List.getD_eq_getElem?_getD] at e2
          rw [e2] at h
          exact h rfl
        clear h
        cbv
        refine ⟨?_⟩
        subst hP
        refine ih' (fun h => (hno h).elim) _ ⟨⟨rfl, ?_, trivial⟩, rfl⟩
        simp only [Aw.get, if_true, fold, plain, Int.ofNat_eq_natCast, hw]
      · clear h
        cbv
        refine ⟨.of (by kernel_rfl) hP, ?_, ?_, ?_, ?_, fk (fun h => ?_) (fun h => ?_)⟩
        iterate 3
          focus
            (simp only [fold, plain, decide_eq_true_eq] <;> (try simp only [Int.ofNat_eq_natCast, hw, Int.toNat_natCast]) <;> first | omega | exact ⟨Int.natCast_nonneg _, hil⟩ | exact ⟨by decide, hi.1⟩)
        · simp only [fold, plain, Int.ofNat_eq_natCast, Int.toNat_natCast, hw, hcut1, hcut2]
          exact .of hp hP
        · simp only [fold, plain] at h
          have he0 : e = 0 := by simpa using h
          clear h
          cbv
          refine fk (fun h => ?_) (fun h => ?_) <;> simp only [fold, plain] at h
          · have hag : again = s := by simpa using h
            have hps : printR c1 c2 = (s, 0) := by rw [hpr, he0, hag]
            rw [hparse hps] at hR
            clear h
            cbv
            refine ⟨.of (by kernel_rfl) hP, ?_⟩
            simp only [fold, plain, decide_eq_true_eq, Int.ofNat_eq_natCast, Int.toNat_natCast, hw, hcut1, hcut2]
            exact ⟨⟨Int.natCast_nonneg _, by omega⟩, ⟨by decide, hi.1⟩, ⟨Int.natCast_nonneg _, hil⟩, hR⟩
          · have hag : again ≠ s := by simpa using h
            clear h
            cbv
            refine ⟨?_⟩
            subst hP
            refine ih' (fun _ hq => ?_) _ ⟨⟨rfl, ?_, trivial⟩, rfl⟩
            · rw [hpr] at hq
              exact hag (congrArg Prod.fst hq)
            · simp only [Aw.get, if_true, fold, plain, Int.ofNat_eq_natCast, hw]
        · simp only [fold, plain] at h
          have he0 : e ≠ 0 := by simpa using h
          clear h
          cbv
          refine ⟨?_⟩
          subst hP
          refine ih' (fun _ hq => ?_) _ ⟨⟨rfl, ?_, trivial⟩, rfl⟩
          · rw [hpr] at hq
            exact he0 (congrArg Prod.snd hq)
          · simp only [Aw.get, if_true, fold, plain, Int.ofNat_eq_natCast, hw]
    · simp at h; omega
  · have hr : parseR s = ([], [], 4) := by
      unfold parseR
      by_cases h : Lib.indexByte s 47 < 5
      · rw [if_pos h]
      · rw [if_neg h, if_neg]
        have h1 := indexByte_lt s 47
        exact hi.2.2 _ (by omega) (by omega) (indexByte_get 47 s _ (by omega))
    rw [hr] at hR
    refine S.run tab_ok Tryz.func14 rfl .nil _ _ fun P hP => ?_
    cbv
    refine fk (fun h => ?_) (fun h => ?_) <;> simp only [fold, plain] at h
    · simp at h; omega
    · clear h; cbv; exact hR
end Go.Proofs
