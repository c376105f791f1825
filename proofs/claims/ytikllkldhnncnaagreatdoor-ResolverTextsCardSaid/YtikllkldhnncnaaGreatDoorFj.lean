/- SHA-256: block. -/
import Derived.Test.YtikllkldhnncnaaGreatDoorFi
set_option linter.all false
namespace Go.Proofs
open Go Go.Aw
set_option maxRecDepth 100000
def lu (x : Int) : AV := .lit (.int .u32 x)
def U (xs : List AV) (i : Nat) : Int := intOf (xs.getD i .any)
/-- A row of so many words. -/
structure Sh (n : Nat) (xs : List AV) : Prop where
  len : xs.length = n
  all : ∀ x ∈ xs, ∃ v, x = lu v
theorem Sh.at {n : Nat} {xs : List AV} (h : Sh n xs) {i : Nat} (hi : i < n) : xs.getD i .any = lu (U xs i) := by
  have hl := h.len
  have hm : xs.getD i .any ∈ xs := by
    rw [List.getD_eq_getElem?_getD, List.getElem?_eq_getElem (by omega)]; exact List.getElem_mem _
  obtain ⟨v, hv⟩ := h.all _ hm
  unfold U
  rw [hv]; rfl
theorem Sh.isI {n : Nat} {xs : List AV} (h : Sh n xs) {i : Nat} (hi : i < n) : isI .u32 (xs.getD i .any) = true := by rw [h.at hi]; rfl
theorem Sh.one {n : Nat} {xs : List AV} (h : Sh n xs) : xs.all AV.one = true := by
  rw [List.all_eq_true]; intro x hx; obtain ⟨v, rfl⟩ := h.all x hx; rfl
theorem Sh.closed {n : Nat} {xs : List AV} (h : Sh n xs) : xs.all closed1 = true := by
  rw [List.all_eq_true]; intro x hx; obtain ⟨v, rfl⟩ := h.all x hx; rfl
theorem Sh.lit {n : Nat} {xs : List AV} (h : Sh n xs) : xs.all litB = true := by
  rw [List.all_eq_true]; intro x hx; obtain ⟨v, rfl⟩ := h.all x hx; rfl
theorem Sh.norm {n : Nat} {xs : List AV} (h : Sh n xs) : xs.map norm1 = xs := by
  conv => rhs; rw [← List.map_id xs]
  refine List.map_congr_left fun x hx => ?_
  obtain ⟨v, rfl⟩ := h.all x hx; rfl
theorem Sh.set {n : Nat} {xs : List AV} (h : Sh n xs) (i : Nat) (v : Int) : Sh n (xs.set i (lu v)) := by
  refine ⟨by simp [h.len], fun x hx => ?_⟩
  rcases List.mem_or_eq_of_mem_set hx with h1 | h1
  · exact h.all x h1
  · exact ⟨v, h1⟩
theorem Sh.cells (xs : List Int) : Sh xs.length (cellsU xs) := ⟨by simp [cellsU], fun x hx => by simp [cellsU] at hx; obtain ⟨v, _, e⟩ := hx; exact ⟨v, e.symm⟩⟩
theorem Sh.rep (n : Nat) : Sh n (List.replicate n (lu 0)) := ⟨by simp, fun x hx => ⟨0, (List.mem_replicate.1 hx).2⟩⟩
def wA (s : List UInt8) : Nat → List AV
  | 0 => List.replicate 64 (lu 0)
  | t + 1 => (wA s t).set t (lu (wordZ (s.drop (4 * t))))
theorem wA_sh (s : List UInt8) : ∀ t, Sh 64 (wA s t)
  | 0 => Sh.rep 64
  | t + 1 => (wA_sh s t).set _ _
def s0Z (x : Int) : Int := yXor .u32 (yXor .u32 (rotZ x 7) (rotZ x 18)) (yShr .u32 x 3)
def s1Z (x : Int) : Int := yXor .u32 (yXor .u32 (rotZ x 17) (rotZ x 19)) (yShr .u32 x 10)
def stW (ws : List AV) (t : Nat) : List AV := ws.set t (lu (yAdd .u32 (yAdd .u32 (yAdd .u32 (s1Z (U ws (t - 2))) (U ws (t - 7))) (s0Z (U ws (t - 15)))) (U ws (t - 16))))
/-- The words of a block, so many rounds on. -/
def wB (s : List UInt8) : Nat → List AV
  | 0 => wA s 16
  | j + 1 => stW (wB s j) (16 + j)
theorem wB_sh (s : List UInt8) : ∀ j, Sh 64 (wB s j)
  | 0 => wA_sh s 16
  | j + 1 => (wB_sh s j).set _ _
def t1Z (K W v : List AV) (t : Nat) : Int := yAdd .u32 (yAdd .u32 (yAdd .u32 (yAdd .u32 (U v 7) (yXor .u32 (yXor .u32 (rotZ (U v 4) 6) (rotZ (U v 4) 11)) (rotZ (U v 4) 25)))
  (yXor .u32 (yAnd .u32 (U v 4) (U v 5)) (yAnd .u32 (yNx .u32 (U v 4)) (U v 6)))) (U K t)) (U W t)
def t2Z (v : List AV) : Int := yAdd .u32 (yXor .u32 (yXor .u32 (rotZ (U v 0) 2) (rotZ (U v 0) 13)) (rotZ (U v 0) 22)) (yXor .u32 (yXor .u32 (yAnd .u32 (U v 0) (U v 1)) (yAnd .u32 (U v 0) (U v 2))) (yAnd .u32 (U v 1) (U v 2)))
def rnd (K W v : List AV) (t : Nat) : List AV := [lu (yAdd .u32 (t1Z K W v t) (t2Z v)), lu (U v 0), lu (U v 1), lu (U v 2), lu (yAdd .u32 (U v 3) (t1Z K W v t)), lu (U v 4), lu (U v 5), lu (U v 6)]
def vC (K W H : List AV) : Nat → List AV
  | 0 => H
  | t + 1 => rnd K W (vC K W H t) t
theorem rnd_sh (K W v : List AV) (t : Nat) : Sh 8 (rnd K W v t) := ⟨rfl, fun x hx => by
  simp only [rnd, List.mem_cons, List.not_mem_nil, or_false] at hx
  rcases hx with rfl | rfl | rfl | rfl | rfl | rfl | rfl | rfl <;> exact ⟨_, rfl⟩⟩
theorem vC_sh {K W H : List AV} (h : Sh 8 H) : ∀ t, Sh 8 (vC K W H t)
  | 0 => h
  | t + 1 => rnd_sh _ _ _ _
def vD (H v : List AV) : Nat → List AV
  | 0 => v
  | i + 1 => (vD H v i).set i (lu (yAdd .u32 (U (vD H v i) i) (U H i)))
theorem vD_sh {H v : List AV} (h : Sh 8 v) : ∀ t, Sh 8 (vD H v t)
  | 0 => h
  | t + 1 => (vD_sh h t).set _ _
def blockA (H K : List AV) (s : List UInt8) : List AV := vD H (vC K (wB s 48) H 64) 8
theorem toNat_of (n : Nat) : (Int.ofNat n).toNat = n := rfl
theorem idx (n : Nat) : 0 + n * 1 = n := by omega
theorem inB_of {n m : Nat} (h : n < m) : inB (Int.ofNat n) m := ⟨Int.natCast_nonneg _, h⟩
theorem block_spec (H K : List AV) (s : List UInt8) (hH : Sh 8 H) (hK : Sh 64 K) (hs64 : s.length = 64) : Go.Aw.Pure Tryz.prog 35 [.agg H, .agg K, .str s] (.agg (blockA H K s)) := by
  refine Pure.ofS Tryz.func35 (c := Tryz.f35.body.getD .skip) rfl (by kernel_rfl) Tryz.ntmps35 (by simp) fun hs R hR => ?_
  refine S.run tab_ok Tryz.func35 rfl .nil _ _ fun P hP => ?_
  cbv
  refine ⟨by simp only [fold]; exact hH.one, by simp only [fold]; exact hK.one, ⟨?_⟩⟩
  subst hP
  refine W.loopS (ι := Nat × List AV) (fun x => 16 - x.1) (fun x => x.1 ≤ 16 ∧ x.2 = wA s x.1) (fun x => ⟨[(2, .str s), (3, .ptr 0 0), (4, .ptr 1 0), (6, .ptr 2 0), (7, .ptr 3 0), (21, .lit (.int .i64 x.1))], [.box H, .box K, .box (List.replicate 8 (lu 0)), .box x.2]⟩) (0, wA s 0) ⟨by simp, rfl⟩ ⟨⟨rfl, rfl, rfl, rfl, rfl, rfl, trivial⟩, rfl⟩ fun ⟨t, ws⟩ hi ih => ?_
  dsimp only at hi ih ⊢
  have hws : Sh 64 ws := by rw [hi.2]; exact wA_sh s t
  rcases Nat.lt_or_ge t 16 with ht | ht
  · have hdl : 4 ≤ (s.drop (4 * t)).length := by simp; omega
    have hword := word_spec (s.drop (4 * t)) hdl
    have ih' := fun st => ih (t + 1, ws.set t (lu (wordZ (s.drop (4 * t))))) st ⟨ht, by dsimp only; rw [hi.2]; rfl⟩ (by dsimp only; omega)
    have hw4 : IntKind.i64.wrap (4 * (t : Int)) = ((4 * t : Nat) : Int) := w64 (by omega) (by omega)
    have hw1 : IntKind.i64.wrap ((t : Int) + 1) = ((t + 1 : Nat) : Int) := w64 (by omega) (by omega)
    have hcut : cut s (4 * t) s.length = s.drop (4 * t) := by unfold cut; rw [List.take_of_length_le (by simp)]
    generalize wordZ (s.drop (4 * t)) = wd at *
    clear ih
    refine S.run tab_ok Tryz.func35 rfl (.call (.lit (.int .u32 wd)) .nil) _ _ fun P hP => ?_
    cbv
    refine fk (fun h => ?_) (fun h => ?_) <;> simp only [fold, plain] at h
    · clear h
      cbv
      simp only [fold, plain, decide_eq_true_eq]
      simp only [Int.ofNat_eq_natCast, hw4, hw1, Int.toNat_natCast, hcut]
      refine ⟨⟨Int.natCast_nonneg _, by omega⟩, .of hword hP, ⟨Int.natCast_nonneg _, by simp; omega⟩, by have := hws.len; omega, ⟨?_⟩⟩
      subst hP
      refine ih' _ ⟨⟨rfl, rfl, rfl, rfl, rfl, ?_, trivial⟩, ?_⟩
      · simp only [Aw.get, if_true]
      · dsimp only
        rw [show 0 + t * 1 = t by omega, splice_cons, splice_nil]; rfl
    · simp at h; omega
  have hte : t = 16 := by omega
  subst hte
  have hws16 : ws = wB s 0 := hi.2
  clear ih hi
  refine S.run tab_ok Tryz.func35 rfl .nil _ _ fun P hP => ?_
  cbv
  refine ⟨?_⟩
  subst hP
  refine W.loopS (ι := Nat × Nat × List AV) (fun x => 64 - x.1) (fun x => x.1 = 16 + x.2.1 ∧ x.1 ≤ 64 ∧ x.2.2 = wB s x.2.1) (fun x => ⟨[(3, .ptr 0 0), (4, .ptr 1 0), (6, .ptr 2 0), (7, .ptr 3 0), (9, .lit (.int .i64 x.1))], [.box H, .box K, .box (List.replicate 8 (lu 0)), .box x.2.2]⟩) (16, 0, ws) ⟨by simp, by simp, hws16⟩ ⟨⟨rfl, rfl, rfl, rfl, rfl, trivial⟩, rfl⟩ fun ⟨t, j, ws⟩ hi ih => ?_
  clear hws hws16
  dsimp only at hi ih ⊢
  have hws : Sh 64 ws := by rw [hi.2.2]; exact wB_sh s j
  rcases Nat.lt_or_ge t 64 with ht | ht
  · have hx15 : IntKind.i64.wrap (Int.ofNat t - 15) = Int.ofNat (t - 15) := by rw [w64 (by simp; omega) (by simp; omega)]; simp; omega
    have hx2 : IntKind.i64.wrap (Int.ofNat t - 2) = Int.ofNat (t - 2) := by rw [w64 (by simp; omega) (by simp; omega)]; simp; omega
    have hx7 : IntKind.i64.wrap (Int.ofNat t - 7) = Int.ofNat (t - 7) := by rw [w64 (by simp; omega) (by simp; omega)]; simp; omega
    have hx16 : IntKind.i64.wrap (Int.ofNat t - 16) = Int.ofNat (t - 16) := by rw [w64 (by simp; omega) (by simp; omega)]; simp; omega
    have hw1 : IntKind.i64.wrap (Int.ofNat t + 1) = Int.ofNat (t + 1) := by rw [w64 (by simp; omega) (by simp; omega)]; simp
    have ih' := fun st => ih (t + 1, j + 1, stW ws t) st ⟨by dsimp only; omega, ht, by dsimp only; rw [hi.2.2, hi.1]; rfl⟩ (by dsimp only; omega)
    clear ih
    have hr1 := right_spec (U ws (t - 15)) 7 (by omega)
    have hr2 := right_spec (U ws (t - 15)) 18 (by omega)
    have hr3 := right_spec (U ws (t - 2)) 17 (by omega)
    have hr4 := right_spec (U ws (t - 2)) 19 (by omega)
    unfold stW s0Z s1Z at ih'
    generalize rotZ (U ws (t - 15)) 7 = r1 at *
    generalize rotZ (U ws (t - 15)) 18 = r2 at *
    generalize rotZ (U ws (t - 2)) 17 = r3 at *
    generalize rotZ (U ws (t - 2)) 19 = r4 at *
    refine S.run tab_ok Tryz.func35 rfl (.call (.lit (.int .u32 r1)) (.call (.lit (.int .u32 r2)) (.call (.lit (.int .u32 r3)) (.call (.lit (.int .u32 r4)) .nil)))) _ _ fun P hP => ?_
    cbv
    refine fk (fun h => ?_) (fun h => ?_) <;> simp only [fold, plain] at h
    · clear h
      cbv
      simp only [fold, plain, rows, decide_eq_true_eq]
      simp only [hx15, hx2, hx7, hx16, hw1, toNat_of, idx]
      have hl := hws.len
      refine ⟨.of (by kernel_rfl) hP, inB_of (by omega), by omega, hws.isI (by omega), inB_of (by omega), by omega, hws.isI (by omega), .of hr1 hP, .of hr2 hP, .of hr3 hP, .of hr4 hP, .of (by kernel_rfl) hP,
        inB_of (by omega), by omega, hws.isI (by omega), inB_of (by omega), by omega, hws.isI (by omega), inB_of ht, by omega, ⟨?_⟩⟩
      subst hP
      refine ih' _ ⟨⟨rfl, rfl, rfl, rfl, ?_, trivial⟩, ?_⟩
      · simp only [Aw.get, if_true]; rfl
      · dsimp only
        rw [splice_cons, splice_nil]
        simp only [plain]
        rfl
    · simp at h; omega
  have hte : t = 64 := by omega
  have hj : j = 48 := by omega
  subst hte
  subst hj
  have hws0 := hi.2.2
  clear ih hi
  refine S.run tab_ok Tryz.func35 rfl .nil _ _ fun P hP => ?_
  cbv
  have hHt : List.take 8 (List.drop 0 H) = H := by rw [List.drop_zero, List.take_of_length_le (by rw [hH.len]; omega)]
  have hHl := hH.len
  have hsp : splice [AV.lit (Value.int IntKind.u32 0), AV.lit (Value.int IntKind.u32 0), AV.lit (Value.int IntKind.u32 0), AV.lit (Value.int IntKind.u32 0), AV.lit (Value.int IntKind.u32 0), AV.lit (Value.int IntKind.u32 0), AV.lit (Value.int IntKind.u32 0), AV.lit (Value.int IntKind.u32 0)] 0 H = H := splice_all (by rw [hHl]; rfl)
  refine ⟨?_, ?_, ?_, ⟨?_⟩⟩
  · simp only [fold, plain, decide_eq_true_eq]; omega
  · simp only [fold, hHt]; exact hH.one
  · simp only [fold, plain, decide_eq_true_eq, hHt]; omega
  subst hP
  refine W.sub (st' := ⟨[(3, .ptr 0 0), (4, .ptr 1 0), (6, .ptr 2 0), (7, .ptr 3 0), (14, .ptr 4 0), (76, .lit (.int .i64 0))], [.box H, .box K, .box (List.replicate 8 (lu 0)), .box ws, .box H]⟩) ⟨⟨rfl, rfl, rfl, rfl, rfl, rfl, trivial⟩, ?_⟩ ?_
  · simp only [fold, hHt, hsp]; rfl
  unfold blockA at hR
  rw [← hws0] at hR
  clear hws0
  refine W.loopS (ι := Nat × List AV) (fun x => 64 - x.1) (fun x => x.1 ≤ 64 ∧ x.2 = vC K ws H x.1) (fun x => ⟨[(3, .ptr 0 0), (4, .ptr 1 0), (6, .ptr 2 0), (7, .ptr 3 0), (14, .ptr 4 0), (76, .lit (.int .i64 x.1))], [.box H, .box K, .box (List.replicate 8 (lu 0)), .box ws, .box x.2]⟩) (0, H) ⟨by simp, rfl⟩ ⟨⟨rfl, rfl, rfl, rfl, rfl, rfl, trivial⟩, rfl⟩ fun ⟨t, v⟩ hi ih => ?_
  dsimp only at hi ih ⊢
  have hv : Sh 8 v := by rw [hi.2]; exact vC_sh hH t
  rcases Nat.lt_or_ge t 64 with ht | ht
  · have hw1 : IntKind.i64.wrap (Int.ofNat t + 1) = Int.ofNat (t + 1) := by rw [w64 (by simp; omega) (by simp; omega)]; simp
    have ih' := fun st => ih (t + 1, rnd K ws v t) st ⟨ht, by dsimp only; rw [hi.2]; rfl⟩ (by dsimp only; omega)
    clear ih
    have hr1 := right_spec (U v 4) 6 (by omega)
    have hr2 := right_spec (U v 4) 11 (by omega)
    have hr3 := right_spec (U v 4) 25 (by omega)
    have hr4 := right_spec (U v 0) 2 (by omega)
    have hr5 := right_spec (U v 0) 13 (by omega)
    have hr6 := right_spec (U v 0) 22 (by omega)
    unfold rnd t1Z t2Z at ih'
    generalize rotZ (U v 4) 6 = r1 at *
    generalize rotZ (U v 4) 11 = r2 at *
    generalize rotZ (U v 4) 25 = r3 at *
    generalize rotZ (U v 0) 2 = r4 at *
    generalize rotZ (U v 0) 13 = r5 at *
    generalize rotZ (U v 0) 22 = r6 at *
    refine S.run tab_ok Tryz.func35 rfl (.call (.lit (.int .u32 r1)) (.call (.lit (.int .u32 r2)) (.call (.lit (.int .u32 r3)) (.call (.lit (.int .u32 r4)) (.call (.lit (.int .u32 r5)) (.call (.lit (.int .u32 r6)) .nil)))))) _ _ fun P hP => ?_
    cbv
    refine fk (fun h => ?_) (fun h => ?_) <;> simp only [fold, plain] at h
    · clear h
      cbv
      simp only [fold, plain, rows, decide_eq_true_eq]
      simp only [hw1, toNat_of, idx]
      have hl := hv.len
      have hlw := hws.len
      have hlk := hK.len
      repeat' apply And.intro
      all_goals first
        | exact S.CalmI.of (by kernel_rfl) hP
        | exact .of hr1 hP
        | exact .of hr2 hP
        | exact .of hr3 hP
        | exact .of hr4 hP
        | exact .of hr5 hP
        | exact .of hr6 hP
        | exact hv.isI (by omega)
        | exact hK.isI ht
        | exact hws.isI ht
        | exact ht
        | exact Int.natCast_nonneg _
        | omega
        | refine ⟨?_⟩
      subst hP
      refine ih' _ ⟨⟨rfl, rfl, rfl, rfl, rfl, ?_, trivial⟩, ?_⟩
      · simp only [Aw.get, if_true]; rfl
      · dsimp only
        rw [splice_all (by rw [hl]; rfl)]
        simp only [plain]
        rfl
    · simp at h; omega
  have hte : t = 64 := by omega
  subst hte
  have hv0 := hi.2
  clear ih hi
  rw [← hv0] at hR
  clear hv0
  refine S.run tab_ok Tryz.func35 rfl .nil _ _ fun P hP => ?_
  cbv
  refine ⟨?_⟩
  subst hP
  refine W.loopS (ι := Nat × List AV) (fun x => 8 - x.1) (fun x => x.1 ≤ 8 ∧ x.2 = vD H v x.1) (fun x => ⟨[(3, .ptr 0 0), (6, .ptr 2 0), (14, .ptr 4 0), (156, .lit (.int .i64 x.1))], [.box H, .box K, .box (List.replicate 8 (lu 0)), .box ws, .box x.2]⟩) (0, v) ⟨by simp, rfl⟩ ⟨⟨rfl, rfl, rfl, rfl, trivial⟩, rfl⟩ fun ⟨t, u⟩ hi ih => ?_
  dsimp only at hi ih ⊢
  have hu : Sh 8 u := by rw [hi.2]; exact vD_sh hv t
  have hlu := hu.len
  rcases Nat.lt_or_ge t 8 with ht | ht
  · have hw1 : IntKind.i64.wrap (Int.ofNat t + 1) = Int.ofNat (t + 1) := by rw [w64 (by simp; omega) (by simp; omega)]; simp
    have ih' := fun st => ih (t + 1, u.set t (lu (yAdd .u32 (U u t) (U H t)))) st ⟨ht, by dsimp only; rw [hi.2]; rfl⟩ (by dsimp only; omega)
    clear ih
    refine S.run tab_ok Tryz.func35 rfl .nil _ _ fun P hP => ?_
    cbv
    refine fk (fun h => ?_) (fun h => ?_) <;> simp only [fold, plain] at h
    · clear h
      cbv
      simp only [fold, plain, rows, decide_eq_true_eq]
      simp only [hw1, toNat_of, idx]
      repeat' apply And.intro
      all_goals first
        | exact S.CalmI.of (by kernel_rfl) hP
        | exact hu.isI ht
        | exact hH.isI ht
        | exact ht
        | exact Int.natCast_nonneg _
        | omega
        | refine ⟨?_⟩
      subst hP
      refine ih' _ ⟨⟨rfl, rfl, rfl, ?_, trivial⟩, ?_⟩
      · simp only [Aw.get, if_true]; rfl
      · dsimp only
        rw [splice_cons, splice_nil]
        simp only [plain]
        rfl
    · simp at h; omega
  have hte : t = 8 := by omega
  subst hte
  have hu0 := hi.2
  clear ih hi
  rw [← hu0] at hR
  refine S.run tab_ok Tryz.func35 rfl .nil _ _ fun P hP => ?_
  cbv
  have hut : List.take 8 (List.drop 0 u) = u := by rw [List.drop_zero, List.take_of_length_le (by omega)]
  have hsu : splice [AV.lit (Value.int IntKind.u32 0), AV.lit (Value.int IntKind.u32 0), AV.lit (Value.int IntKind.u32 0), AV.lit (Value.int IntKind.u32 0), AV.lit (Value.int IntKind.u32 0), AV.lit (Value.int IntKind.u32 0), AV.lit (Value.int IntKind.u32 0), AV.lit (Value.int IntKind.u32 0)] 0 u = u := splice_all (by rw [hlu]; rfl)
  simp only [fold, plain, decide_eq_true_eq, hut, hsu, hu.lit]
  exact ⟨by omega, hu.one, ⟨hlu, by omega⟩, by omega, hR⟩
end Go.Proofs
