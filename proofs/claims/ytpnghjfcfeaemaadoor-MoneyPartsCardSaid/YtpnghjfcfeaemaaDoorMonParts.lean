/-
  The walk over the law MoneyParts.
-/
import Derived.Test.YtpnghjfcfeaemaaDoorMonArg
set_option linter.unusedVariables false
namespace Go.Proofs.YtpnghjfcfeaemaaDoor
open Go.RowKit

theorem infoQ : (Tryd.prog.info? 23).map (fun i => (i.zero, i.size, i.bytes)) = some (some (.int .u64 0), 1, 8) := by kernel_rfl
theorem numCells_append (l k : List Nat) : numCells (l ++ k) = numCells l ++ numCells k := by simp [numCells]
theorem numCells_one (l : List Nat) : ∀ u ∈ numCells l, u.oneCell' = true := by
  intro u hu
  simp only [numCells, List.mem_map] at hu
  obtain ⟨b, _, rfl⟩ := hu
  rfl

theorem sumL_app_none {l k : List Nat} (h : sumL l = none ∨ sumL k = none) : sumL (l ++ k) = none := by
  unfold sumL at *
  rw [List.sum_append]
  rcases h with h | h
  · split at h
    · cases h
    · rw [if_neg (by omega)]
  · split at h
    · cases h
    · rw [if_neg (by omega)]
theorem sumL_same {l k : List Nat} (h : l.sum = k.sum) : sumL l = sumL k := by
  unfold sumL
  by_cases hh : l.sum ≤ 2100000000000000
  · rw [if_pos hh, if_pos (by omega), h]
  · rw [if_neg hh, if_neg (by omega)]
theorem sumL_app_some {l k : List Nat} {x y : Nat} (h1 : sumL l = some x) (h2 : sumL k = some y) : sumL (l ++ k) = sumL [x, y] := by
  apply sumL_same
  unfold sumL at h1 h2
  split at h1
  · split at h2
    · simp only [Option.some.injEq] at h1 h2
      rw [List.sum_append, h1, h2]
      simp
    · cases h2
  · cases h1
theorem sumL_pair (x y : Nat) : sumL [x, y] = sumL [y, x] := sumL_same (by simp; omega)
theorem sumL_lt {l : List Nat} {x : Nat} (h : sumL l = some x) : x ≤ 2100000000000000 := by
  unfold sumL at h
  split at h
  · simp only [Option.some.injEq] at h; omega
  · cases h

set_option maxHeartbeats 4000000 in
theorem lawParts (A : Option Addr) (n c : Nat) (l : List Nat) (B : Option Addr) (m d : Nat) (k : List Nat) (w : World) (ht : Tab w) (h : RdQ w w.heap.size A n l) (h' : RdQ w w.heap.size B m k) :
    Calls Tryd.prog 7 #[.slice A n c, .slice B m d] w fun e w' => e = .returned (.bool true) ∧ Below w.heap.size w w' := by
  have Hl := Lib.hid h
  have Hk := Lib.hid h'
  clear h h'
  by_cases hn : 200 < n
  · have hn' : (200 : Int) < (n : Int) := by omega
    go_enter Tryd.func7, Tryd.ntmps7
    go_wp2_with fail
    refine (alive_any _ ht).mono ?_
    rintro e w1 ⟨rfl, hb1⟩
    go_wp2
    go_ret
    exact ⟨rfl, hb1⟩
  have hn' : ¬ (200 : Int) < (n : Int) := by omega
  by_cases hm : 200 < m
  · have hm' : (200 : Int) < (m : Int) := by omega
    go_enter Tryd.func7, Tryd.ntmps7
    go_wp2_with fail
    refine (alive_any _ ht).mono ?_
    rintro e w1 ⟨rfl, hb1⟩
    go_wp2
    go_ret
    exact ⟨rfl, hb1⟩
  have hm' : ¬ (200 : Int) < (m : Int) := by omega
  obtain ⟨i0, hi, hz0, hz1, hz2⟩ := info_parts infoQ
  go_enter Tryd.func7, Tryd.ntmps7
  go_wp2_with fail
  refine (sum_any A n c l _ Hl.out (by omega)).mono ?_
  rintro e w1 ⟨rfl, hb1⟩
  go_wp2_with fail
  refine (sum_any B m d k _ ((Hk.out.below hb1).more hb1.size) (by omega)).mono ?_
  rintro e w2 ⟨rfl, hb2⟩
  have hb02 : Below w.heap.size w w2 := hb1.trans (hb2.mono hb1.size)
  clear hb1 hb2
  have HOp := Lib.hid (World.ownsRow_lit (base := w2.heap.size) (e := 23) (size := 1) w2 #[] 0 (Nat.le_refl _) (by unfold maxLen; omega) rfl)
  have hlp : Below w2.heap.size w2 (w2.alloc (.cells #[] 23)) := (Below.refl _ _).alloc (Nat.le_refl _) _
  have hLp : Below w.heap.size w (w2.alloc (.cells #[] 23)) := hb02.trans (hlp.mono hb02.size)
  go_wp2_with (at_builtin; refine wpList_append_any (w2.alloc (.cells #[] 23)) rfl _ _ 22 rfl w2.heap.size 23 i0 (.int .u64 0) 1 8 Tryd.underlying22 hi hz0 hz1 hz2 rfl (by decide) _ _ _ rfl HOp.out w.heap.size A n c (numCells l) rfl (Hl.out.below hLp).1 (numCells_one l) (by unfold maxLen; omega) (by omega) (by simp) ?_)
  intro vp wp1 hownp hgp _
  have hbp1 : Below w2.heap.size w2 wp1 := hlp.grown hgp hlp.size (fun k hk => (HOp.out.lt k hk).1)
  have HOnp := Lib.hid hownp
  have hNp : Below w.heap.size w wp1 := hb02.trans (hbp1.mono hb02.size)
  clear hownp hgp HOp hlp hLp
  go_wp2_with (at_builtin; refine wpList_append_any wp1 rfl _ _ 22 rfl w2.heap.size 23 i0 (.int .u64 0) 1 8 Tryd.underlying22 hi hz0 hz1 hz2 rfl (by decide) _ _ _ rfl HOnp.out w.heap.size B m d (numCells k) rfl (Hk.out.below hNp).1 (numCells_one k) (by unfold maxLen; omega) (by omega) hbp1.size ?_)
  intro up wp2 hownp hgp _
  have hbp2 : Below w2.heap.size w2 wp2 := hbp1.grown hgp hbp1.size (fun k hk => (HOnp.out.lt k hk).1)
  have hMp : Below w.heap.size w wp2 := hb02.trans (hbp2.mono hb02.size)
  obtain ⟨Np, eNp⟩ : ∃ N, N = n + m := ⟨_, rfl⟩
  have hZp : Np ≤ 1000 := by omega
  rw [← eNp] at hownp
  clear eNp
  obtain ⟨Ap, cp, eup⟩ : ∃ Ap cp, up = .slice Ap Np cp := by
    rcases hownp.2 with ⟨hv, h0⟩ | ⟨g, cap, cur, hv, _⟩
    · exact ⟨none, 0, by rw [hv, h0]⟩
    · exact ⟨_, _, hv⟩
  subst eup
  have HQp : Hid (RdQ wp2 wp2.heap.size Ap Np (l ++ k)) := by
    have h1 := Reads.of_own hownp
    rw [← numCells_append] at h1
    exact ⟨h1, fun v hv => (List.mem_append.1 hv).elim (Hl.out.2 v) (Hk.out.2 v)⟩
  clear hownp hgp HOnp hbp1 hNp
  go_wp2_with fail
  refine (sum_any Ap Np cp (l ++ k) _ HQp.out (by omega)).mono ?_
  rintro e wp3 ⟨rfl, hbp3⟩
  have hRp : Below w.heap.size w wp3 := hMp.trans (hbp3.mono hMp.size)
  clear HQp hbp3 hMp hbp2
  have HOq := Lib.hid (World.ownsRow_lit (base := wp3.heap.size) (e := 23) (size := 1) wp3 #[] 0 (Nat.le_refl _) (by unfold maxLen; omega) rfl)
  have hlq : Below wp3.heap.size wp3 (wp3.alloc (.cells #[] 23)) := (Below.refl _ _).alloc (Nat.le_refl _) _
  have hLq : Below w.heap.size w (wp3.alloc (.cells #[] 23)) := hRp.trans (hlq.mono hRp.size)
  go_wp2_with (at_builtin; refine wpList_append_any (wp3.alloc (.cells #[] 23)) rfl _ _ 22 rfl wp3.heap.size 23 i0 (.int .u64 0) 1 8 Tryd.underlying22 hi hz0 hz1 hz2 rfl (by decide) _ _ _ rfl HOq.out w.heap.size B m d (numCells k) rfl (Hk.out.below hLq).1 (numCells_one k) (by unfold maxLen; omega) (by omega) (by simp) ?_)
  intro vq wq1 hownq hgq _
  have hbq1 : Below wp3.heap.size wp3 wq1 := hlq.grown hgq hlq.size (fun k hk => (HOq.out.lt k hk).1)
  have HOnq := Lib.hid hownq
  have hNq : Below w.heap.size w wq1 := hRp.trans (hbq1.mono hRp.size)
  clear hownq hgq HOq hlq hLq
  go_wp2_with (at_builtin; refine wpList_append_any wq1 rfl _ _ 22 rfl wp3.heap.size 23 i0 (.int .u64 0) 1 8 Tryd.underlying22 hi hz0 hz1 hz2 rfl (by decide) _ _ _ rfl HOnq.out w.heap.size A n c (numCells l) rfl (Hl.out.below hNq).1 (numCells_one l) (by unfold maxLen; omega) (by omega) hbq1.size ?_)
  intro uq wq2 hownq hgq _
  have hbq2 : Below wp3.heap.size wp3 wq2 := hbq1.grown hgq hbq1.size (fun k hk => (HOnq.out.lt k hk).1)
  have hMq : Below w.heap.size w wq2 := hRp.trans (hbq2.mono hRp.size)
  obtain ⟨Nq, eNq⟩ : ∃ N, N = m + n := ⟨_, rfl⟩
  have hZq : Nq ≤ 1000 := by omega
  rw [← eNq] at hownq
  clear eNq
  obtain ⟨Aq, cq, euq⟩ : ∃ Aq cq, uq = .slice Aq Nq cq := by
    rcases hownq.2 with ⟨hv, h0⟩ | ⟨g, cap, cur, hv, _⟩
    · exact ⟨none, 0, by rw [hv, h0]⟩
    · exact ⟨_, _, hv⟩
  subst euq
  have HQq : Hid (RdQ wq2 wq2.heap.size Aq Nq (k ++ l)) := by
    have h1 := Reads.of_own hownq
    rw [← numCells_append] at h1
    exact ⟨h1, fun v hv => (List.mem_append.1 hv).elim (Hk.out.2 v) (Hl.out.2 v)⟩
  clear hownq hgq HOnq hbq1 hNq
  go_wp2_with fail
  refine (sum_any Aq Nq cq (k ++ l) _ HQq.out (by omega)).mono ?_
  rintro e wq3 ⟨rfl, hbq3⟩
  have hRq : Below w.heap.size w wq3 := hMq.trans (hbq3.mono hMq.size)
  clear HQq hbq3 hMq hbq2
  have alive_end : ∀ {w5 : World}, Below w.heap.size w w5 → Tab w5 := fun hb => ht.below hb ht.lt
  have AE : Hid (∀ {w5 : World}, Below w.heap.size w w5 → Tab w5) := alive_end
  clear alive_end hi hz0 hz1 hz2
  cases hx : sumL l with
  | none =>
    rw [sumL_app_none (l := l) (k := k) (.inl hx), sumL_app_none (l := k) (k := l) (.inr hx)]
    rw [show sumNo none = 31 from rfl, show sumVal none = 0 from rfl]
    clear hx
    obtain ⟨x2, hx2⟩ : ∃ x2, x2 = sumNo (sumL k) := ⟨_, rfl⟩
    obtain ⟨y2, hy2⟩ : ∃ y2, y2 = sumVal (sumL k) := ⟨_, rfl⟩
    rw [← hx2, ← hy2]
    clear hx2 hy2
    go_wp2_with fail
    refine (alive_any _ (AE.out hRq)).mono ?_
    rintro e w5 ⟨rfl, hb5⟩
    have hb05 : Below w.heap.size w w5 := hRq.trans (hb5.mono hRq.size)
    go_wp2
    go_ret
    exact ⟨rfl, hb05⟩
  | some x =>
    cases hy : sumL k with
    | none =>
      rw [sumL_app_none (l := l) (k := k) (.inr hy), sumL_app_none (l := k) (k := l) (.inl hy)]
      rw [show sumNo none = 31 from rfl, show sumVal none = 0 from rfl, show sumNo (some x) = 0 from rfl, show sumVal (some x) = x from rfl]
      clear hx hy
      go_wp2_with fail
      refine (alive_any _ (AE.out hRq)).mono ?_
      rintro e w5 ⟨rfl, hb5⟩
      have hb05 : Below w.heap.size w w5 := hRq.trans (hb5.mono hRq.size)
      go_wp2
      go_ret
      exact ⟨rfl, hb05⟩
    | some y =>
      have hx1 := sumL_lt hx
      have hy1 := sumL_lt hy
      rw [sumL_app_some hx hy, sumL_app_some hy hx, sumL_pair y x]
      rw [show sumNo (some x) = 0 from rfl, show sumVal (some x) = x from rfl, show sumNo (some y) = 0 from rfl, show sumVal (some y) = y from rfl]
      obtain ⟨a1, ha1⟩ : ∃ a1, a1 = sumNo (sumL [x, y]) := ⟨_, rfl⟩
      obtain ⟨a2, ha2⟩ : ∃ a2, a2 = sumVal (sumL [x, y]) := ⟨_, rfl⟩
      rw [← ha1, ← ha2]
      have HA1 := Lib.hid ha1
      have HA2 := Lib.hid ha2
      clear hx hy ha1 ha2
      go_wp2_with fail
      refine (sum_any _ 2 2 [x, y] _ (rdq_lit _ #[.int .u64 (x : Int), .int .u64 (y : Int)] [x, y] 2 rfl rfl (by intro v hv; rcases List.mem_cons.1 hv with rfl | hv; omega; rcases List.mem_cons.1 hv with rfl | hv; omega; cases hv) (by unfold maxLen; omega)) (by omega)).mono ?_
      rw [← HA1.out, ← HA2.out]
      rintro e w5 ⟨rfl, hb5⟩
      have hb05 : Below w.heap.size w w5 := hRq.trans ((((Below.refl wq3.heap.size wq3).alloc (Nat.le_refl _) _).trans (hb5.mono (by simp))).mono hRq.size)
      clear hb5 hRq
      go_wp2_with fail
      refine (alive_any _ (AE.out hb05)).mono ?_
      rintro e w6 ⟨rfl, hb6⟩
      have hb06 : Below w.heap.size w w6 := hb05.trans (hb6.mono hb05.size)
      go_wp2
      go_ret
      exact ⟨rfl, hb06⟩

end Go.Proofs.YtpnghjfcfeaemaaDoor
