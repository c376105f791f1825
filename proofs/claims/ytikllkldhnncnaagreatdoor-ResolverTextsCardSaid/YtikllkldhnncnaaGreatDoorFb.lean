/- base64.Decode. strings.HasPrefix, strings.CutPrefix. primitive.forms: the table of forms. primitive.begins. -/
import Derived.Test.YtikllkldhnncnaaGreatDoorFa
set_option linter.all false
namespace Go.Proofs
open Go Go.Aw
set_option maxRecDepth 100000
def three (n : Nat) : List UInt8 := [UInt8.ofNat (n / 65536), UInt8.ofNat (n / 256), UInt8.ofNat n]
def dec64 : List UInt8 → Option (List UInt8)
  | a :: b :: c :: d :: s => (numN 0 [a, b, c, d]).bind fun n => (dec64 s).map (three n ++ ·)
  | _ => some []
def decErr (s : List UInt8) : Nat := if 131072 < s.length then 3 else if s.length % 4 ≠ 0 then 8 else if (dec64 s).isNone then 4 else 0
def decR (s : List UInt8) : AV := .tup [.str (if decErr s = 0 then (dec64 s).getD [] else []), .lit (.int .i64 (decErr s))]
theorem three_enc (n : Nat) : (three n).map encB = [[.lit (.int .u8 (IntKind.u8.wrap ((Int.ofNat n).fdiv 65536)))], [.lit (.int .u8 (IntKind.u8.wrap ((Int.ofNat n).fdiv 256)))], [.lit (.int .u8 (IntKind.u8.wrap (Int.ofNat n)))]] := by
  have e1 := @fdiv_nn n 65536
  have e2 := @fdiv_nn n 256
  simp only [three, List.map_cons, List.map_nil, encB_of]
  rw [show ((65536 : Nat) : Int) = 65536 from rfl] at e1
  rw [show ((256 : Nat) : Int) = 256 from rfl] at e2
  rw [e1, e2]; rfl
theorem decode_spec (s : List UInt8) : Go.Aw.Pure Tryz.prog 52 [.str s] (decR s) := by
  refine Pure.ofS Tryz.func52 (c := Tryz.f52.body.getD .skip) rfl (by kernel_rfl) Tryz.ntmps52 (by simp) fun hs R hR => ?_
  have hs8 := small_str hs
  refine S.run tab_ok Tryz.func52 rfl .nil _ _ fun P hP => ?_
  cbv
  refine fk (fun h => ?_) (fun h => ?_) <;> simp only [fold, plain] at h
  · simp at h
    have e : decErr s = 3 := by unfold decErr; rw [if_pos (by omega)]
    cbv
    rw [decR, e] at hR; exact hR
  have hlen : ¬ 131072 < s.length := by simp at h; omega
  clear h
  cbv
  refine fk (fun h => ?_) (fun h => ?_) <;> simp only [fold, plain] at h
  · have hm : s.length % 4 ≠ 0 := by
      simp [tmod_nn] at h; omega
    clear h
    cbv
    have e : decErr s = 8 := by unfold decErr; rw [if_neg (by omega), if_pos (by omega)]
    rw [decR, e] at hR; exact hR
  have hmod : s.length % 4 = 0 := by simp [tmod_nn] at h; omega
  clear h
  have e0 : decErr s = if (dec64 s).isNone then 4 else 0 := by unfold decErr; rw [if_neg hlen, if_neg (by omega)]
  cbv
  have e1 : IntKind.i64.wrap (IntKind.i64.wrap ((Int.ofNat s.length).tdiv 4) * 3) = ((s.length / 4 * 3 : Nat) : Int) := by
    rw [tdiv_nn (by simp), Int.ofNat_eq_natCast, w64 (n := (s.length : Int) / 4) (by omega) (by omega), w64 (by omega) (by omega)]; omega
  refine ⟨by simp only [fold, plain, e1, LIM]; simp; omega, ⟨?_⟩⟩
  subst hP
  refine W.loopS (ι := List UInt8 × List UInt8) (fun x => x.1.length) (fun x => x.1.length ≤ 131072 ∧ x.1.length % 4 = 0 ∧ x.2.length + x.1.length ≤ 131072 ∧ dec64 s = (dec64 x.1).map (x.2 ++ ·))
    (fun x => ⟨[(0, .str x.1), (4, .own 0 (len x.2))], [.buf 1 (encs x.2)]⟩) (s, []) ⟨by dsimp only; omega, hmod, by simpa using (by omega : s.length ≤ 131072), by simp⟩ (by cbv) fun ⟨r, o⟩ hi ih => ?_
  dsimp only at hi
  match r, hi, ih with
  | [], hi, ih =>
    have e : dec64 s = some o := by rw [hi.2.2.2]; simp [dec64]
    rw [decR, e0, e] at hR
    refine S.run tab_ok Tryz.func52 rfl .nil _ _ fun P hP => ?_
    cbv
    simp only [fold, plain, rows, decide_eq_true_eq]
    exact ⟨trivial, trivial, hR⟩
  | [_], hi, _ => simp at hi
  | [_, _], hi, _ => simp at hi
  | [_, _, _], hi, _ => simp at hi
  | a :: b :: c :: d :: r, hi, ih =>
    have hns := number_spec [a, b, c, d] (by simp)
    have hi4 := hi.2.2.2
    rw [dec64] at hi4
    unfold numR at hns
    cases hn : numN 0 [a, b, c, d] with
    | none =>
      rw [hn] at hns hi4
      have e : dec64 s = none := by rw [hi4]; rfl
      rw [decR, e0, e] at hR
      refine S.run tab_ok Tryz.func52 rfl (.call (.tup [.lit (.int .i64 0), .lit (.bool false)]) .nil) _ _ fun P hP => ?_
      clear ih
      cbv
      simp only [fold, plain]
      exact ⟨by simp, .of hns hP, hR⟩
    | some n =>
      rw [hn] at hns hi4
      have ih' := fun st => ih (r, o ++ three n) st ⟨by simp at hi ⊢; omega, by simp at hi ⊢; omega, by simp [three] at hi ⊢; omega, by rw [hi4]; cases dec64 r <;> simp⟩ (by simp; omega)
      clear ih
      refine S.run tab_ok Tryz.func52 rfl (.call (.tup [.lit (.int .i64 (natZ n)), .lit (.bool true)]) .nil) _ _ fun P hP => ?_
      cbv
      simp only [fold, plain, rows, decide_eq_true_eq]
      refine ⟨⟨by omega, by simp⟩, .of hns hP, ⟨trivial, by simp at hi; omega, by simp at hi; omega⟩, ⟨by omega, by simp⟩, ⟨?_⟩⟩
      subst hP
      refine ih' _ ⟨⟨?_, ?_, trivial⟩, ?_⟩
      · simp [Aw.get, cut]
      · simp [Aw.get, three]
      · simp only [encs_eq, List.map_append, three_enc]
        rfl
end Go.Proofs
namespace Go.Proofs
open Go Go.Aw
set_option maxRecDepth 100000
def hasP (s p : List UInt8) : Bool := p.isPrefixOf s
def cutP (s p : List UInt8) : List UInt8 := if hasP s p then s.drop p.length else s
theorem hasP_take {s p : List UInt8} : hasP s p = (s.take p.length == p) := by
  unfold hasP
  rw [Bool.eq_iff_iff, List.isPrefixOf_iff_prefix, beq_iff_eq, List.prefix_iff_eq_take]
  exact eq_comm
theorem hasP_short {s p : List UInt8} (h : s.length < p.length) : hasP s p = false := by
  unfold hasP
  rw [Bool.eq_false_iff]
  intro e
  have := (List.isPrefixOf_iff_prefix.1 e).length_le
  omega
theorem hasPrefix_in (s p : List UInt8) : Go.Aw.Pure Tryz.prog 71 [.str s, .str p] (.lit (.bool (hasP s p))) := by
  refine Pure.ofS Tryz.func71 (c := Tryz.f71.body.getD .skip) rfl (by kernel_rfl) Tryz.ntmps71 (by simp) fun hs R hR => ?_
  refine S.run tab_ok Tryz.func71 rfl .nil _ _ fun P hP => ?_
  cbv
  refine fk (fun h => ?_) (fun h => ?_) <;> simp only [fold, plain] at h <;> cbv
  · simp at h
    rw [hasP_take] at hR
    refine ⟨by simp [fold, plain]; omega, ?_⟩
    simp only [fold, plain]
    simp [cut]
    exact hR
  · simp at h
    rw [hasP_short (by omega)] at hR; exact hR
theorem hasPrefix_spec (s p : List UInt8) : Go.Aw.Pure Tryz.prog 60 [.str s, .str p] (.lit (.bool (hasP s p))) := by
  refine Pure.ofS Tryz.func60 (c := Tryz.f60.body.getD .skip) rfl (by kernel_rfl) Tryz.ntmps60 (by simp) fun hs R hR => ?_
  have hc := hasPrefix_in s p
  generalize hasP s p = b at *
  refine S.run tab_ok Tryz.func60 rfl (.call (.lit (.bool b)) .nil) _ _ fun P hP => ?_
  cbv
  exact ⟨.of hc hP, hR⟩
theorem cutPrefix_in (s p : List UInt8) : Go.Aw.Pure Tryz.prog 67 [.str s, .str p] (.tup [.str (cutP s p), .lit (.bool (hasP s p))]) := by
  refine Pure.ofS Tryz.func67 (c := Tryz.f67.body.getD .skip) rfl (by kernel_rfl) Tryz.ntmps67 (by simp) fun hs R hR => ?_
  have hc := hasPrefix_in s p
  unfold cutP at hR
  cases h : hasP s p <;> rw [h] at hc hR
  · refine S.run tab_ok Tryz.func67 rfl (.call (.lit (.bool false)) .nil) _ _ fun P hP => ?_
    cbv
    exact ⟨.of hc hP, hR⟩
  · have hl : p.length ≤ s.length := by
      rcases Nat.lt_or_ge s.length p.length with hl | hl
      · rw [hasP_short hl] at h; cases h
      · exact hl
    refine S.run tab_ok Tryz.func67 rfl (.call (.lit (.bool true)) .nil) _ _ fun P hP => ?_
    cbv
    refine ⟨.of hc hP, by simp [fold, plain]; omega, ?_⟩
    simp only [fold, plain]
    simp only [if_true] at hR
    simp only [cut]
    rw [List.take_of_length_le (by simp)]
    exact hR
theorem cutPrefix_spec (s p : List UInt8) : Go.Aw.Pure Tryz.prog 53 [.str s, .str p] (.tup [.str (cutP s p), .lit (.bool (hasP s p))]) := by
  refine Pure.ofS Tryz.func53 (c := Tryz.f53.body.getD .skip) rfl (by kernel_rfl) Tryz.ntmps53 (by simp) fun hs R hR => ?_
  have hc := cutPrefix_in s p
  generalize hasP s p = b at *
  generalize cutP s p = c at *
  refine S.run tab_ok Tryz.func53 rfl (.call (.tup [.str c, .lit (.bool b)]) .nil) _ _ fun P hP => ?_
  cbv
  exact ⟨.of hc hP, hR⟩
end Go.Proofs
namespace Go.Proofs
open Go Go.Aw
set_option maxRecDepth 100000
def formsL : List (List UInt8 × Nat) := [([69], 32), ([68], 32), ([66], 32), ([65], 32), ([48, 65], 16), ([77], 2), ([83], 626), ([49, 65, 65, 76], 6)]
def formA (p : List UInt8 × Nat) : AV := .agg [.str p.1, .lit (.int .i64 p.2)]
def formsA : List (AV × AV) := [(.lit (.int .i64 1), formA ([69], 32)), (.lit (.int .i64 2), formA ([68], 32)), (.lit (.int .i64 3), formA ([66], 32)), (.lit (.int .i64 4), formA ([65], 32)), (.lit (.int .i64 5), formA ([48, 65], 16)), (.lit (.int .i64 6), formA ([77], 2)), (.lit (.int .i64 7), formA ([83], 626)), (.lit (.int .i64 8), formA ([49, 65, 65, 76], 6))]
theorem forms_spec : Go.Aw.Pure Tryz.prog 59 [] (.mapv formsA) := by
  refine Pure.ofS Tryz.func59 (c := Tryz.f59.body.getD .skip) rfl (by kernel_rfl) Tryz.ntmps59 (by simp) fun hs R hR => ?_
  refine S.run tab_ok Tryz.func59 rfl .nil _ _ fun P hP => ?_
  cbv
  exact hR
end Go.Proofs
namespace Go.Proofs
open Go Go.Aw
set_option maxRecDepth 100000
/-- The form with which a text begins. -/
def startJ (s : List UInt8) : Option Nat := (List.range 8).find? fun j => hasP s (formsL.getD j ([], 0)).1
def startR (s : List UInt8) : AV := match startJ s with
  | some j => .tup [.lit (.int .i64 (j + 1 : Nat)), formA (formsL.getD j ([], 0)), .lit (.bool true)]
  | none => .tup [.lit (.int .i64 0), formA ([], 0), .lit (.bool false)]
theorem unseen_le (n : Nat) (seen : List Nat) (j : Nat) : ((List.range n).countP fun i => decide (i ∉ seen ++ [j])) ≤ (List.range n).countP fun i => decide (i ∉ seen) := by
  refine List.countP_mono_left fun x _ h => ?_
  simp at h ⊢
  exact h.1
theorem unseen_lt : ∀ (n : Nat) (seen : List Nat) (j : Nat), j < n → j ∉ seen → ((List.range n).countP fun i => decide (i ∉ seen ++ [j])) < (List.range n).countP fun i => decide (i ∉ seen)
  | 0, _, _, h, _ => by omega
  | n + 1, seen, j, h, hs => by
    rw [List.range_succ, List.countP_append, List.countP_append]
    rcases Nat.lt_succ_iff_lt_or_eq.1 h with h | rfl
    · have h1 := unseen_lt n seen j h hs
      have h2 : List.countP (fun i => decide (i ∉ seen ++ [j])) [n] ≤ List.countP (fun i => decide (i ∉ seen)) [n] :=
        List.countP_mono_left fun x _ h => by simp at h ⊢; exact h.1
      omega
    · have h1 := unseen_le j seen j
      have h2 : List.countP (fun i => decide (i ∉ seen ++ [j])) [j] = 0 := by simp
      have h3 : List.countP (fun i => decide (i ∉ seen)) [j] = 1 := by simp [hs]
      omega
theorem find_first {p : Nat → Bool} {n j : Nat} (hj : j < n) (hp : p j = true) (hu : ∀ i < n, p i = true → i = j) : (List.range n).find? p = some j := by
  rw [List.find?_range_eq_some]
  refine ⟨hp, by simpa using hj, fun i hi => ?_⟩
  cases h : p i
  · rfl
  · have := hu i (by omega) h; omega
theorem hasP_head {s p : List UInt8} (h : hasP s p = true) (hp : p ≠ []) : s.head? = p.head? := by
  obtain ⟨t, rfl⟩ := List.isPrefixOf_iff_prefix.1 h
  cases p with
  | nil => exact (hp rfl).elim
  | cons a p => rfl
theorem same_form {s : List UInt8} {i j : Nat} (hi : i < 8) (hj : j < 8) (h1 : hasP s (formsL.getD i ([], 0)).1 = true) (h2 : hasP s (formsL.getD j ([], 0)).1 = true) : i = j := by
  have key : ∀ i < 8, (formsL.getD i ([], 0)).1 ≠ [] ∧ ∀ j < 8, (formsL.getD i ([], 0)).1.head? = (formsL.getD j ([], 0)).1.head? → i = j := by decide
  exact (key i hi).2 j hj (by rw [← hasP_head h1 (key i hi).1, ← hasP_head h2 (key j hj).1])
theorem begins_spec (s : List UInt8) : Go.Aw.Pure Tryz.prog 48 [.str s] (startR s) := by
  refine Pure.ofS Tryz.func48 (c := Tryz.f48.body.getD .skip) rfl (by kernel_rfl) Tryz.ntmps48 (by simp) fun hs R hR => ?_
  refine S.run tab_ok Tryz.func48 rfl (.call (.mapv formsA) .nil) _ _ fun P hP => ?_
  cbv
  refine ⟨.of forms_spec hP, ⟨?_⟩⟩
  subst hP
  refine W.loopS (ι := List Nat) (fun x => (List.range 8).countP fun i => decide (i ∉ x)) (fun x => ∀ j ∈ x, hasP s (formsL.getD j ([], 0)).1 = false) (fun x => ⟨[(0, .str s), (3, .ptr 0 0), (8, .it 1)], [.box [.str [], .lit (.int .i64 0)], .iter formsA x]⟩) [] (by simp) ⟨⟨rfl, rfl, rfl, trivial⟩, rfl⟩ fun seen hi ih => ?_
  refine S.run tab_ok Tryz.func48 rfl .nil _ _ fun P hP => ?_
  cbv
  refine ⟨?_⟩
  subst hP
  refine W.next (id := 1) (es := formsA) (seen := seen) rfl rfl rfl rfl rfl (fun j hj hs => ?_) (fun hall => ?_)
  · have ih' := fun st h => ih (seen ++ [j]) st h (unseen_lt 8 seen j hj hs)
    clear ih
    have hb : Go.Aw.Pure Tryz.prog 60 [.str s, .str (formsL.getD j ([], 0)).1] (.lit (.bool (hasP s (formsL.getD j ([], 0)).1))) := hasPrefix_spec s _
    have hfind : hasP s (formsL.getD j ([], 0)).1 = true → startJ s = some j := fun h => find_first hj h fun i hi2 h2 => same_form hi2 hj h2 h
    have hI : hasP s (formsL.getD j ([], 0)).1 = false → ∀ i ∈ seen ++ [j], hasP s (formsL.getD i ([], 0)).1 = false := fun h i hi2 => by
      rcases List.mem_append.1 hi2 with h2 | h2
      · exact hi i h2
      · rw [List.mem_singleton.1 h2]; exact h
    have hlast : (seen ++ [j]).getLast? = some j := List.getLast?_concat ..
    generalize seen ++ [j] = sn at *
    have h8 : j = 0 ∨ j = 1 ∨ j = 2 ∨ j = 3 ∨ j = 4 ∨ j = 5 ∨ j = 6 ∨ j = 7 := by
      have : formsA.length = 8 := rfl
      omega
    cases hv : hasP s (formsL.getD j ([], 0)).1
    · have hb : Go.Aw.Pure Tryz.prog 60 [.str s, .str (formsL.getD j ([], 0)).1] (.lit (.bool false)) := hv ▸ hb
      have ih' := fun st => ih' st (hI hv)
      clear hI hfind hi hv hR
      rcases h8 with rfl | rfl | rfl | rfl | rfl | rfl | rfl | rfl
      all_goals
        refine (S.go tab_ok Tryz.func48 rfl (.call (.lit (.bool false)) .nil) fun P hP => ?_ : WL _ _ _ _ _ 1 [_] _ _ _) rfl
        cbv
        simp only [fold, hlast]
        cbv
        refine ⟨.of hb hP, ⟨?_⟩⟩
        subst hP
        exact W.subP 2 (st' := ⟨[(0, .str s), (3, .ptr 0 0), (8, .it 1)], [.box [.str [], .lit (.int .i64 0)], .iter formsA sn]⟩) ⟨rfl, rfl, rfl, trivial⟩ rfl (by decide) (by simp) rfl rfl (ih' _ ⟨⟨rfl, rfl, rfl, trivial⟩, rfl⟩)
    · have hb : Go.Aw.Pure Tryz.prog 60 [.str s, .str (formsL.getD j ([], 0)).1] (.lit (.bool true)) := hv ▸ hb
      rw [startR, hfind hv] at hR
      clear hI hfind hi hv ih'
      rcases h8 with rfl | rfl | rfl | rfl | rfl | rfl | rfl | rfl
      all_goals
        refine (S.go tab_ok Tryz.func48 rfl (.call (.lit (.bool true)) .nil) fun P hP => ?_ : WL _ _ _ _ _ 1 [_] _ _ _) rfl
        cbv
        simp only [fold, hlast]
        cbv
        exact ⟨.of hb hP, .of (by kernel_rfl) hP, hR⟩
  · have hno : startJ s = none := by
      rw [startJ, List.find?_eq_none]
      intro i hi2
      rw [hi i (hall i (by rw [show formsA.length = 8 from rfl]; simpa using hi2))]; simp
    rw [startR, hno] at hR
    refine (S.go tab_ok Tryz.func48 rfl .nil fun P hP => ?_ : WL _ _ _ _ _ 1 [_] _ _ _) rfl
    cbv
    exact hR
end Go.Proofs
