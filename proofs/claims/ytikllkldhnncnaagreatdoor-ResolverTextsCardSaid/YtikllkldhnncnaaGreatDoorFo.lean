/- The law. -/
import Derived.Test.YtikllkldhnncnaaGreatDoorFn
set_option linter.all false
namespace Go.Proofs
open Go Go.Aw
set_option maxRecDepth 100000
theorem WL_sub {P : Program} {f : FuncId} {n : Nat} {O0 : List AObj} {Q : AV → List AObj → Prop} {ops : Array Oper} {i : Nat} {l : List Oper} {k : List Item} {st st' : St} (h : subS st st') (hW : WL P f n O0 ops i l k st' Q) : WL P f n O0 ops i l k st Q :=
  fun hl => W.sub h (hW hl)
theorem law_spec (ts : List (List AV)) (place pre s : List UInt8) (a b : Int) (hts : Ints ts) :
    Go.Aw.Pure Tryz.prog 3 [.seq ts, .str place, .str pre, .str s, .lit (.int .u8 a), .lit (.int .u8 b)] (.lit (.bool true)) := by
  refine Pure.ofS Tryz.func3 (c := Tryz.f3.body.getD .skip) rfl (by kernel_rfl) Tryz.ntmps3 (by simp) fun hs R hR => ?_
  have hl1 : place.length ≤ 140737488355328 := by have := hs.2.1; simpa [smallA, smallC, LIM] using this
  have hl2 : pre.length ≤ 140737488355328 := by have := hs.2.2.1; simpa [smallA, smallC, LIM] using this
  have hl3 : s.length ≤ 140737488355328 := by have := hs.2.2.2.1; simpa [smallA, smallC, LIM] using this
  clear hs
  have hlight := light_spec ts
  have haw := awake_spec
  have hsum : IntKind.i64.wrap (IntKind.i64.wrap (Int.ofNat s.length + Int.ofNat place.length) + Int.ofNat pre.length) = Int.ofNat (s.length + place.length + pre.length) := by
    rw [w64 (n := Int.ofNat s.length + Int.ofNat place.length) (by simp; omega) (by simp; omega), w64 (by simp; omega) (by simp; omega)]
    simp
  by_cases hL : ts.length ≤ 500
  · rw [decide_eq_true (by simp; omega)] at hlight
    by_cases hlen : 600 < s.length + place.length + pre.length
    · refine S.run tab_ok Tryz.func3 rfl (.call (.lit (.bool true)) (.call (.lit (.bool true)) .nil)) _ _ fun P hP => ?_
      cbv
      refine ⟨.of hlight hP, fk (fun h => ?_) (fun h => ?_)⟩ <;> simp only [fold, plain] at h
      · clear h
        cbv
        exact ⟨.of haw hP, hR⟩
      · exfalso
        rw [hsum] at h
        simp at h
        omega
    clear hl1 hl2 hl3
    refine S.run tab_ok Tryz.func3 rfl (.call (.lit (.bool true)) .nil) _ _ fun P hP => ?_
    cbv
    refine ⟨.of hlight hP, fk (fun h => ?_) (fun h => ?_)⟩ <;> simp only [fold, plain] at h
    · exfalso
      rw [hsum] at h
      simp at h
      omega
    clear h hsum
    cbv
    refine CallI_of ?_ hP
    subst hP
    refine roll_calls (ts := ts) ⟨rfl, .inl rfl⟩ ?_
    refine WL_sub (st' := ⟨[(1, .str place), (2, .str pre), (3, .str s), (4, .lit (.int .u8 a)), (5, .lit (.int .u8 b)), (46, .ptr 0 0)], [.box (dice ts 0)]⟩) ⟨⟨rfl, rfl, rfl, rfl, rfl, rfl, trivial⟩, rfl⟩ ?_
    obtain ⟨D, hD⟩ : ∃ D, D = dice ts 0 := ⟨_, rfl⟩
    rw [← hD]
    refine S.go tab_ok Tryz.func3 rfl .nil fun P hP => ?_
    cbv
    refine CallI_of ?_ hP
    subst hP
    subst hD
    refine word_calls (ws := lits [[109, 105, 108, 108], [102, 111, 114, 100, 95, 50], [], [77, 105, 108, 108]]) (ws' := []) hts hL (Nat.zero_le _) (lits_strs _) (by simp [lits]) (by simp [lits]) ⟨rfl, .inr rfl⟩ rfl fun p a1 hp ha1 => ?_
    have hpl : p.length ≤ 10 := by
      have := lits_mem hp
      simp only [List.mem_cons, List.not_mem_nil, or_false] at this
      rcases this with rfl | rfl | rfl | rfl <;> simp
    clear hp
    refine WL_sub (st' := ⟨[(1, .str place), (2, .str pre), (3, .str s), (4, .lit (.int .u8 a)), (5, .lit (.int .u8 b)), (13, .ptr 0 0), (49, .str p)], [.box (dice ts a1)]⟩) ⟨⟨rfl, rfl, rfl, rfl, rfl, rfl, rfl, trivial⟩, rfl⟩ ?_
    obtain ⟨D, hD⟩ : ∃ D, D = dice ts a1 := ⟨_, rfl⟩
    rw [← hD]
    refine S.go tab_ok Tryz.func3 rfl .nil fun P hP => ?_
    cbv
    refine CallI_of ?_ hP
    subst hP
    subst hD
    refine digest8_calls hts hL ha1 rfl fun d1 a2 hd1 ha2 => ?_
    refine WL_sub (st' := ⟨[(1, .str place), (2, .str pre), (3, .str s), (4, .lit (.int .u8 a)), (5, .lit (.int .u8 b)), (13, .ptr 0 0), (49, .str p), (50, .ptr 0 0), (52, .str d1)], [.box (dice ts a2)]⟩) ⟨⟨rfl, rfl, rfl, rfl, rfl, rfl, rfl, rfl, rfl, trivial⟩, rfl⟩ ?_
    obtain ⟨D, hD⟩ : ∃ D, D = dice ts a2 := ⟨_, rfl⟩
    rw [← hD]
    refine S.go tab_ok Tryz.func3 rfl .nil fun P hP => ?_
    cbv
    refine CallI_of ?_ hP
    subst hP
    subst hD
    refine key9_calls hts hL ha2 rfl fun d2 a3 hd2 ha3 => ?_
    refine WL_sub (st' := ⟨[(1, .str place), (2, .str pre), (3, .str s), (4, .lit (.int .u8 a)), (5, .lit (.int .u8 b)), (13, .ptr 0 0), (49, .str p), (50, .ptr 0 0), (52, .str d1), (54, .str d2)], [.box (dice ts a3)]⟩) ⟨⟨rfl, rfl, rfl, rfl, rfl, rfl, rfl, rfl, rfl, rfl, trivial⟩, rfl⟩ ?_
    obtain ⟨D, hD⟩ : ∃ D, D = dice ts a3 := ⟨_, rfl⟩
    rw [← hD]
    refine S.go tab_ok Tryz.func3 rfl .nil fun P hP => ?_
    cbv
    refine CallI_of ?_ hP
    subst hP
    subst hD
    refine word_calls (ws := lits [d1, d2, [120]]) (ws' := []) hts hL ha3 (lits_strs _) (by simp [lits]) (by simp [lits]) ⟨rfl, .inr rfl⟩ rfl fun q a4 hq ha4 => ?_
    have hql : q.length ≤ 44 := by
      have := lits_mem hq
      simp only [List.mem_cons, List.not_mem_nil, or_false] at this
      rcases this with rfl | rfl | rfl
      · omega
      · omega
      · simp
    clear hq
    refine WL_sub (st' := ⟨[(1, .str place), (2, .str pre), (3, .str s), (4, .lit (.int .u8 a)), (5, .lit (.int .u8 b)), (13, .ptr 0 0), (49, .str p), (56, .str q)], [.box (dice ts a4)]⟩) ⟨⟨rfl, rfl, rfl, rfl, rfl, rfl, rfl, rfl, trivial⟩, rfl⟩ ?_
    obtain ⟨D, hD⟩ : ∃ D, D = dice ts a4 := ⟨_, rfl⟩
    rw [← hD]
    refine S.go tab_ok Tryz.func3 rfl .nil fun P hP => ?_
    cbv
    refine CallI_of ?_ hP
    subst hP
    subst hD
    refine digest8_calls hts hL ha4 rfl fun d3 a5 hd3 ha5 => ?_
    refine WL_sub (st' := ⟨[(3, .str s), (4, .lit (.int .u8 a)), (5, .lit (.int .u8 b)), (59, .agg [.str p, .str q]), (62, .agg [.str place, .str pre]), (65, .agg [.str p, .str pre]), (67, .str d3)], [.box (dice ts a5)]⟩) ⟨⟨rfl, rfl, rfl, rfl, rfl, rfl, rfl, trivial⟩, rfl⟩ ?_
    obtain ⟨D, hD⟩ : ∃ D, D = dice ts a5 := ⟨_, rfl⟩
    rw [← hD]
    clear hD
    refine S.go tab_ok Tryz.func3 rfl .nil fun P hP => ?_
    cbv
    refine ⟨?_⟩
    subst hP
    obtain ⟨rws, hrws⟩ : ∃ rws : List (List AV), rws = [[.str p, .str q], [.str place, .str pre], [.str p, .str pre], [.str [109, 105, 108, 108], .str d3]] := ⟨_, rfl⟩
    have hrow : ∀ i < 4, ∃ x y : List UInt8, rws.getD i [] = [.str x, .str y] ∧ x.length ≤ 700 ∧ y.length ≤ 700 := by
      intro i hi
      rcases (by omega : i = 0 ∨ i = 1 ∨ i = 2 ∨ i = 3) with rfl | rfl | rfl | rfl <;> rw [hrws]
      · exact ⟨p, q, rfl, by omega, by omega⟩
      · exact ⟨place, pre, rfl, by omega, by omega⟩
      · exact ⟨p, pre, rfl, by omega, by omega⟩
      · exact ⟨_, d3, rfl, by simp, by omega⟩
    have hrl : rws.length = 4 := by rw [hrws]; rfl
    have hsl : s.length ≤ 600 := by omega
    rw [← hrws]
    clear hrws hlen hd1 hd2 hd3 hpl hql
    refine W.subP 0 (st' := ⟨[(3, .str s), (4, .lit (.int .u8 a)), (5, .lit (.int .u8 b)), (69, .full rws), (70, .lit (.int .i64 4)), (71, .lit (.int .i64 (0 : Nat)))], []⟩) ⟨rfl, rfl, rfl, rfl, rfl, rfl, trivial⟩ rfl (by decide) (by simp) rfl rfl ?_
    clear D
    refine W.loopS (fun i : Nat => 4 - i) (fun i => i ≤ 4) (fun i => ⟨[(3, .str s), (4, .lit (.int .u8 a)), (5, .lit (.int .u8 b)), (69, .full rws), (70, .lit (.int .i64 4)), (71, .lit (.int .i64 i))], []⟩) 0 (by omega) ⟨⟨rfl, rfl, rfl, rfl, rfl, rfl, trivial⟩, rfl⟩ fun i hi ih => ?_
    rcases Nat.lt_or_ge i 4 with hi4 | hi4
    · obtain ⟨x, y, hg, hx, hy⟩ := hrow i hi4
      have ih' := fun st => ih (i + 1) st hi4 (by omega)
      have hi1 : IntKind.i64.wrap (Int.ofNat i + 1) = Int.ofNat (i + 1) := w64 (by simp; omega) (by simp; omega)
      clear ih hrow
      have hp1 := print_spec x y
      have hp2 := print11_spec x y
      obtain ⟨e, he⟩ : ∃ e, e = (printR x y).2 := ⟨_, rfl⟩
      obtain ⟨r, hr⟩ : ∃ r, r = (printR x y).1 := ⟨_, rfl⟩
      have hrle : r.length ≤ 1500 := by
        rw [hr]; unfold printR
        split
        · simp
        · split
          · simp
          · simp; omega
      rw [← he, ← hr] at hp1 hp2
      clear he hr
      obtain ⟨w, hwl, hsp⟩ := spoil_spec r (by omega) (IntKind.i64.wrap a) (IntKind.i64.wrap b)
      refine S.runM 9 tab_ok Tryz.func3 rfl .nil _ _ fun P hP => ?_
      cbv
      refine fk (fun h => ?_) (fun h => ?_) <;> simp only [fold, plain] at h
      · clear h
        cbv
        iterate 5
          (refine ⟨?_, ?_⟩
           focus
             (simp only [fold, plain, rows, decide_eq_true_eq]
              try simp only [toNat_of, hg]
              first | rfl | exact inB_of (by omega) | trivial | (simp; done) | (simp; omega)))
        refine ⟨?_⟩
        subst hP
        refine W.sub (st' := ⟨[(3, .str s), (4, .lit (.int .u8 a)), (5, .lit (.int .u8 b)), (69, .full rws), (70, .lit (.int .i64 4)), (71, .lit (.int .i64 i)), (17, .ptr 0 0)], [.box [.str x, .str y]]⟩) ?_ ?_
        · simp only [fold, plain, rows]
          simp only [toNat_of, hg]
          exact ⟨⟨rfl, rfl, rfl, rfl, rfl, rfl, rfl, trivial⟩, rfl⟩
        refine S.run tab_ok Tryz.func3 rfl (.call (.tup [.str r, .lit (.int .i64 e)]) (.call (.tup [.str r, .lit (.int .i64 e)]) (.call (.str w) .nil))) _ _ fun P hP => ?_
        cbv
        refine ⟨.of hp1 hP, .of hp2 hP, fk (fun h => ?_) (fun h => ?_)⟩ <;> simp only [fold, plain] at h
        · exfalso; simp at h
        clear h
        cbv
        refine fk (fun h => ?_) (fun h => ?_) <;> simp only [fold, plain] at h
        · exfalso; simp at h
        clear h
        cbv
        refine ⟨.of (by kernel_rfl) hP, ?_, ?_⟩
        · simp only [fold, plain]
          exact .of hsp hP
        iterate 4
          (refine ⟨?_, ?_⟩
           focus
             (simp only [fold, plain, decide_eq_true_eq]
              try simp
              omega))
        refine ⟨?_⟩
        subst hP
        obtain ⟨v, hv⟩ : ∃ v : List UInt8, v = 111 :: 111 :: 98 :: 105 :: 58 :: x ++ [47] ++ y := ⟨_, rfl⟩
        obtain ⟨rw2, hrw2⟩ : ∃ rws : List (List AV), rws = [[.str r], [.str s], [.str w], [.str v], [.str (r ++ [47])]] := ⟨_, rfl⟩
        refine W.sub (st' := ⟨[(3, .str s), (4, .lit (.int .u8 a)), (5, .lit (.int .u8 b)), (69, .full rws), (70, .lit (.int .i64 4)), (71, .lit (.int .i64 i)), (116, .full rw2), (117, .lit (.int .i64 5)), (118, .lit (.int .i64 (0 : Nat)))], [.box [.str x, .str y]]⟩) ?_ ?_
        · simp only [fold, plain]
          rw [hrw2, hv]
          exact ⟨⟨rfl, rfl, rfl, rfl, rfl, rfl, rfl, rfl, rfl, trivial⟩, rfl⟩
        have hrow2 : ∀ j < 5, ∃ z : List UInt8, rw2.getD j [] = [.str z] := by
          intro j hj
          rcases (by omega : j = 0 ∨ j = 1 ∨ j = 2 ∨ j = 3 ∨ j = 4) with rfl | rfl | rfl | rfl | rfl <;> rw [hrw2] <;> exact ⟨_, rfl⟩
        have hrl2 : rw2.length = 5 := by rw [hrw2]; rfl
        clear hrw2 hv hsp hp1 hp2 hwl hrle
        refine W.loopS (fun j : Nat => 5 - j) (fun j => j ≤ 5) (fun j => ⟨[(3, .str s), (4, .lit (.int .u8 a)), (5, .lit (.int .u8 b)), (69, .full rws), (70, .lit (.int .i64 4)), (71, .lit (.int .i64 i)), (116, .full rw2), (117, .lit (.int .i64 5)), (118, .lit (.int .i64 j))], [.box [.str x, .str y]]⟩) 0 (by omega) ⟨⟨rfl, rfl, rfl, rfl, rfl, rfl, rfl, rfl, rfl, trivial⟩, rfl⟩ fun j hj jh => ?_
        rcases Nat.lt_or_ge j 5 with hj5 | hj5
        · obtain ⟨z, hg2⟩ := hrow2 j hj5
          have jh' := fun st => jh (j + 1) st hj5 (by omega)
          have hj1 : IntKind.i64.wrap (Int.ofNat j + 1) = Int.ofNat (j + 1) := w64 (by simp; omega) (by simp; omega)
          clear jh ih'
          have hq1 := parse_spec z
          have hq2 := parse14_spec z
          generalize parseR z = t at *
          obtain ⟨t1, t2, t3⟩ := t
          dsimp only at hq1 hq2
          refine S.runM 9 tab_ok Tryz.func3 rfl .nil _ _ fun P hP => ?_
          cbv
          refine fk (fun h => ?_) (fun h => ?_) <;> simp only [fold, plain] at h
          · clear h
            cbv
            iterate 4
              (refine ⟨?_, ?_⟩
               focus
                 (simp only [fold, plain, rows, decide_eq_true_eq]
                  try simp only [toNat_of, hg2]
                  first | rfl | exact inB_of (by omega) | trivial | (simp; done) | (simp; omega)))
            refine ⟨?_⟩
            subst hP
            refine W.sub (st' := ⟨[(3, .str s), (4, .lit (.int .u8 a)), (5, .lit (.int .u8 b)), (69, .full rws), (70, .lit (.int .i64 4)), (71, .lit (.int .i64 i)), (116, .full rw2), (117, .lit (.int .i64 5)), (118, .lit (.int .i64 j)), (23, .str z)], [.box [.str x, .str y]]⟩) ?_ ?_
            · simp only [fold, plain, rows]
              simp only [toNat_of, hg2]
              exact ⟨⟨rfl, rfl, rfl, rfl, rfl, rfl, rfl, rfl, rfl, rfl, trivial⟩, rfl⟩
            refine S.run tab_ok Tryz.func3 rfl (.call (.tup [.str t1, .str t2, .lit (.int .i64 t3)]) (.call (.tup [.str t1, .str t2, .lit (.int .i64 t3)]) .nil)) _ _ fun P hP => ?_
            cbv
            refine ⟨.of hq1 hP, .of hq2 hP, fk (fun h => ?_) (fun h => ?_)⟩ <;> simp only [fold, plain] at h
            · exfalso; simp at h
            clear h
            cbv
            refine fk (fun h => ?_) (fun h => ?_) <;> simp only [fold, plain] at h
            · exfalso; simp at h
            clear h
            cbv
            refine fk (fun h => ?_) (fun h => ?_) <;> simp only [fold, plain] at h
            · exfalso; simp at h
            clear h
            cbv
            refine ⟨?_⟩
            subst hP
            refine jh' _ ⟨⟨rfl, rfl, rfl, rfl, rfl, rfl, rfl, rfl, ?_, trivial⟩, rfl⟩
            simp only [fold, plain]
            exact congrArg (fun z => AV.lit (.int .i64 z)) hj1
          · exfalso; simp at h; omega
        · clear jh
          refine S.run tab_ok Tryz.func3 rfl .nil _ _ fun P hP => ?_
          cbv
          refine fk (fun h => ?_) (fun h => ?_) <;> simp only [fold, plain] at h
          · exfalso; simp at h; omega
          clear h
          cbv
          refine ⟨?_⟩
          subst hP
          refine W.subP 0 (st' := ⟨[(3, .str s), (4, .lit (.int .u8 a)), (5, .lit (.int .u8 b)), (69, .full rws), (70, .lit (.int .i64 4)), (71, .lit (.int .i64 (i + 1 : Nat)))], []⟩) ⟨rfl, rfl, rfl, rfl, rfl, ?_, trivial⟩ rfl (by decide) (by simp) rfl rfl ?_
          · simp only [fold, plain]
            exact congrArg (fun z => AV.lit (.int .i64 z)) hi1
          exact ih' _ ⟨⟨rfl, rfl, rfl, rfl, rfl, rfl, trivial⟩, rfl⟩
      · exfalso; simp at h; omega
    · clear ih hrow
      refine S.run tab_ok Tryz.func3 rfl (.call (.lit (.bool true)) .nil) _ _ fun P hP => ?_
      cbv
      refine fk (fun h => ?_) (fun h => ?_) <;> simp only [fold, plain] at h
      · exfalso; simp at h; omega
      clear h
      cbv
      exact ⟨.of haw hP, hR⟩
  · rw [decide_eq_false (by simp; omega)] at hlight
    refine S.run tab_ok Tryz.func3 rfl (.call (.lit (.bool false)) (.call (.lit (.bool true)) .nil)) _ _ fun P hP => ?_
    cbv
    exact ⟨.of hlight hP, .of haw hP, hR⟩
end Go.Proofs
