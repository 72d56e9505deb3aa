/-
  The walks over the reference's may, headed and place.
-/
import Derived.Test.YtkacplgfkokdcaaBechHeaded
set_option linter.unusedVariables false
namespace Go.Proofs.Ytkacplgfkokdcaa
open Go.RowKit

/-- What is laid of a head: its upper bits, k of them; a nought; its lower bits, k of them. -/
def headA (l : List UInt8) (k : Nat) : List UInt8 := (l.take k).map fun c => UInt8.ofNat (c.toNat / 32)
def headB (l : List UInt8) (k : Nat) : List UInt8 := (l.map (fun c => UInt8.ofNat (c.toNat / 32)) ++ [0]) ++ (l.take k).map fun c => UInt8.ofNat (c.toNat % 32)

theorem headA_more {l : List UInt8} {k m : Nat} (hk : k < l.length) (hm : l[k].toNat = m) : Lib.byteCells (headA l k) ++ [Value.int .u8 ((m / 32 : Nat) : Int)] = Lib.byteCells (headA l (k + 1)) := by
  have h := UInt8.toNat_lt l[k]
  unfold headA
  rw [List.take_succ_eq_append_getElem hk, List.map_append, List.map_singleton, Lib.byteCells_append]
  have e : (UInt8.ofNat (l[k].toNat / 32)).toNat = m / 32 := by rw [UInt8.toNat_ofNat', Nat.mod_eq_of_lt (by omega), hm]
  simp only [Lib.byteCells, List.map_cons, List.map_nil, e]
theorem headB_more {l : List UInt8} {k m : Nat} (hk : k < l.length) (hm : l[k].toNat = m) : Lib.byteCells (headB l k) ++ [Value.int .u8 ((m % 32 : Nat) : Int)] = Lib.byteCells (headB l (k + 1)) := by
  unfold headB
  rw [List.take_succ_eq_append_getElem hk, List.map_append, List.map_singleton, ← List.append_assoc, Lib.byteCells_append _ [_]]
  have e : (UInt8.ofNat (l[k].toNat % 32)).toNat = m % 32 := by rw [UInt8.toNat_ofNat', Nat.mod_eq_of_lt (by omega), hm]
  simp only [Lib.byteCells, List.map_cons, List.map_nil, e]
theorem headB_start {l : List UInt8} {k : Nat} (hk : l.length ≤ k) : Lib.byteCells (headA l k) ++ [Value.int .u8 0] = Lib.byteCells (headB l 0) := by
  unfold headA headB
  rw [List.take_of_length_le hk, List.take_zero, List.map_nil, List.append_nil, Lib.byteCells_append _ [0]]
  rfl
theorem headB_full {l : List UInt8} {k : Nat} (hk : l.length ≤ k) : headB l k = headL l := by
  unfold headB headL
  rw [List.take_of_length_le hk]

/-- A row of these bytes comes back, the call's own. -/
def OwnEnd (l : List UInt8) (n : Nat) (w : World) (e : Ending) (w' : World) : Prop :=
  ∃ (A : Option Addr) (c : Nat), e = .returned (.slice A n c) ∧ w'.ownsRow w.heap.size 5 1 (.slice A n c) n (Lib.byteCells l) ∧ Below w.heap.size w w'
theorem ownEnd_mk {l : List UInt8} {n : Nat} {w w' : World} {A : Option Addr} {c : Nat} (ho : w'.ownsRow w.heap.size 5 1 (.slice A n c) n (Lib.byteCells l)) (hb : Below w.heap.size w w') : OwnEnd l n w (.returned (.slice A n c)) w' := ⟨A, c, rfl, ho, hb⟩

set_option maxHeartbeats 1000000 in
theorem refHeaded_any (s : ByteArray) (w : World) (hs : s.size ≤ 1000000) :
    Calls Try.prog 38 #[.string s] w (OwnEnd (headL s.data.toList) (s.size + 1 + s.size) w) := by
  have HL := Lib.hid (size_list s)
  obtain ⟨hl, hhl⟩ : ∃ hl, hl = headL s.data.toList := ⟨_, rfl⟩
  rw [← hhl]
  have HH := Lib.hid hhl
  clear hhl
  have HOWN := Lib.hid (World.ownsRow_lit (base := w.heap.size) (e := 5) (size := 1) w #[] 0 (Nat.le_refl _) (by unfold maxLen; omega) rfl)
  have hb0 : Below w.heap.size w (w.alloc (.cells #[] 5)) := (Below.refl _ _).alloc (Nat.le_refl _) _
  go_enter Try.func38, Try.ntmps38
  go_wp2
  go_loopw [3, 4] (fun v i wr => ∃ (k : Nat) (A : Option Addr) (c : Nat), k ≤ s.size ∧ i = .int .i64 k ∧ v = .slice A k c ∧ Hid (wr.ownsRow w.heap.size 5 1 (.slice A k c) k (Lib.byteCells (headA s.data.toList k))) ∧
      Below w.heap.size w wr) (fun _ i _ => s.size - (intOf i).toNat)
  case atStart => exact ⟨0, _, _, by omega, rfl, rfl, HOWN, hb0⟩
  case round =>
    obtain ⟨k, A, c, hk, rfl, rfl, hown, hb⟩ := hrel
    by_cases hlt : k < s.size
    · have hkl : k < s.data.toList.length := by rw [← HL.out]; exact hlt
      have hg := get_list s k hlt
      obtain ⟨m, hm⟩ : ∃ m : Nat, s[k].toNat = m := ⟨_, rfl⟩
      have hm1 : m < 256 := by rw [← hm]; exact UInt8.toNat_lt _
      have HC := Lib.hid (headA_more (m := m) hkl (by rw [← hg]; exact hm))
      clear hg
      have hd := Lib.hid (show (m : Int) / 32 = ((m / 32 : Nat) : Int) by omega)
      go_wp2_with (at_builtin; refine wpList_push wr _ Try.underlying22 infoByte rfl rfl _ _ rfl w.heap.size _ _ _ rfl hown.out rfl rfl (by unfold maxLen; omega) (by omega) hb.size ?_)
      intro A' c' w2 hown2 hb2
      rw [hd.out, HC.out] at hown2
      have HOWN2 := Lib.hid hown2
      clear hown2 hown
      go_wp2
      go_roundw
      case rel => exact ⟨k + 1, A', c', by omega, by go_num, by simp, HOWN2, hb.trans hb2⟩
      case measure => simp [intOf]; omega
    · have hkn : k = s.size := by omega
      subst hkn
      go_wp2_with (at_builtin; refine wpList_push wr _ Try.underlying22 infoByte rfl rfl _ _ rfl w.heap.size _ _ _ rfl hown.out rfl rfl (by unfold maxLen; omega) (by omega) hb.size ?_)
      intro A' c' w2 hown2 hb2
      rw [headB_start (by rw [← HL.out]; exact Nat.le_refl _)] at hown2
      have HOWN2 := Lib.hid hown2
      have hb02 := hb.trans hb2
      clear hown2 hown hb hb2
      go_wp2
      go_loopw [3, 5] (fun v i wr => ∃ (k : Nat) (A : Option Addr) (c : Nat), k ≤ s.size ∧ i = .int .i64 k ∧ v = .slice A (s.size + 1 + k) c ∧ Hid (wr.ownsRow w.heap.size 5 1 (.slice A (s.size + 1 + k) c) (s.size + 1 + k) (Lib.byteCells (headB s.data.toList k))) ∧
          Below w.heap.size w wr) (fun _ i _ => s.size - (intOf i).toNat)
      case atStart => exact ⟨0, A', c', by omega, rfl, by simp, HOWN2, hb02⟩
      case round =>
        obtain ⟨k, A1, c1, hk, rfl, rfl, hown, hb⟩ := hrel
        by_cases hlt : k < s.size
        · have hkl : k < s.data.toList.length := by rw [← HL.out]; exact hlt
          have hg := get_list s k hlt
          obtain ⟨m, hm⟩ : ∃ m : Nat, s[k].toNat = m := ⟨_, rfl⟩
          have hm1 : m < 256 := by rw [← hm]; exact UInt8.toNat_lt _
          have HC := Lib.hid (headB_more (m := m) hkl (by rw [← hg]; exact hm))
          clear hg
          have hd := Lib.hid (show (m : Int) % 32 = ((m % 32 : Nat) : Int) by omega)
          go_wp2_with (at_builtin; refine wpList_push wr _ Try.underlying22 infoByte rfl rfl _ _ rfl w.heap.size _ _ _ rfl hown.out rfl rfl (by unfold maxLen; omega) (by omega) hb.size ?_)
          intro A' c' w2 hown2 hb2
          rw [hd.out, HC.out] at hown2
          have HOWN2 := Lib.hid hown2
          clear hown2 hown
          go_wp2
          go_roundw
          case rel => exact ⟨k + 1, A', c', by omega, by go_num, by simp; omega, HOWN2, hb.trans hb2⟩
          case measure => simp [intOf]; omega
        · have hkn : k = s.size := by omega
          subst hkn
          have HF : Hid (wr.ownsRow w.heap.size 5 1 (.slice A1 (s.size + 1 + s.size) c1) (s.size + 1 + s.size) (Lib.byteCells hl)) := by
            have := hown.out
            rw [headB_full (by rw [← HL.out]; exact Nat.le_refl _), ← HH.out] at this
            exact this
          clear hown
          go_wp2
          go_ret
          exact ownEnd_mk HF.out hb

theorem letters_at : ∀ (k : Nat) (h : k < 32), ((⟨#[113, 112, 122, 114, 121, 57, 120, 56, 103, 102, 50, 116, 118, 100, 119, 48, 115, 51, 106, 110, 53, 52, 107, 104, 99, 101, 54, 109, 117, 97, 55, 108]⟩ : ByteArray)[k]'h) = letter k := by decide

set_option maxHeartbeats 1000000 in
theorem place_any (c : UInt8) (w : World) :
    Calls Try.prog 32 #[.int .u8 (c.toNat : Int)] w fun e w' => e = .returned (.int .i64 (match placeL c with | some n => (n : Int) | none => -1)) ∧ w' = w := by
  obtain ⟨m, hm⟩ : ∃ m : Nat, c.toNat = m := ⟨_, rfl⟩
  rw [hm]
  obtain ⟨r, hr⟩ : ∃ r, r = (match placeL c with | some n => (n : Int) | none => -1) := ⟨_, rfl⟩
  rw [← hr]
  have HR := Lib.hid hr
  have HM := Lib.hid hm
  clear hr hm
  go_enter Try.func32, Try.ntmps32
  go_wp2
  go_loop [3] (fun i => ∃ k : Nat, k ≤ 32 ∧ i = .int .i64 k ∧ Hid (∀ j, j < k → (letter j).toNat ≠ m)) (fun i => 32 - (intOf i).toNat)
  case atStart => exact ⟨0, by omega, rfl, fun j hj => by omega⟩
  case round =>
    obtain ⟨k, hk, rfl, hN⟩ := hrel
    by_cases hlt : k < 32
    · have hlt' : (k : Int) < 32 := by omega
      obtain ⟨x, hx⟩ : ∃ x : Nat, ((⟨#[113, 112, 122, 114, 121, 57, 120, 56, 103, 102, 50, 116, 118, 100, 119, 48, 115, 51, 106, 110, 53, 52, 107, 104, 99, 101, 54, 109, 117, 97, 55, 108]⟩ : ByteArray)[k]'hlt).toNat = x := ⟨_, rfl⟩
      have HX : Hid ((letter k).toNat = x) := by
        show (letter k).toNat = x
        rw [← hx, ← letters_at k hlt]
      by_cases hq : x = m
      · have hq' : ((x : Int) == (m : Int)) = true := by rw [beq_iff_eq]; omega
        have HF : Hid ((k : Int) = r) := by
          show (k : Int) = r
          rw [HR.out, show c = letter k from UInt8.toNat_inj.1 (by rw [HM.out, HX.out, hq]), place_letter k hlt]
        go_wp2
        go_ret
        exact ⟨ret_int HF.out, rfl⟩
      · have hq' : ((x : Int) == (m : Int)) = false := by rw [beq_eq_false_iff_ne]; omega
        have HN : Hid (∀ j, j < k + 1 → (letter j).toNat ≠ m) := fun j hj => by
          by_cases hjk : j = k
          · subst hjk; rw [HX.out]; exact hq
          · exact hN.out j (by omega)
        go_wp2
        go_round
        case rel => exact ⟨k + 1, by omega, by simp, HN⟩
        case measure => simp [intOf]; omega
    · have hk32 : k = 32 := by omega
      subst hk32
      have HF : Hid ((-1 : Int) = r) := by
        show (-1 : Int) = r
        rw [HR.out]
        cases hp : placeL c with
        | none => rfl
        | some n =>
          obtain ⟨h1, h2⟩ := place_some hp
          exact absurd (by rw [h2]; exact HM.out) (hN.out n h1)
      go_wp2
      go_ret
      exact ⟨ret_int HF.out, rfl⟩

set_option maxHeartbeats 1000000 in
theorem refMay_any (s : ByteArray) (A : Option Addr) (n c : Nat) (bs : List UInt8) (w : World) (h : RdB w w.heap.size A n bs) (hs : s.size ≤ 1000000) (hn : n ≤ 1000000) :
    Calls Try.prog 37 #[.string s, .slice A n c] w fun e w' => e = .returned (.bool (headOk s.data.toList && dataOk bs)) ∧ Below w.heap.size w w' := by
  have HS := Lib.hid (size_list s)
  have HL := Lib.hid h.len
  have H := Lib.hid h
  obtain ⟨r, hr⟩ : ∃ r, r = (headOk s.data.toList && dataOk bs) := ⟨_, rfl⟩
  rw [← hr]
  have HR := Lib.hid hr
  clear hr h
  by_cases h1 : s.size < 1
  · have h1' : (s.size : Int) < 1 := by omega
    go_enter Try.func37, Try.ntmps37
    go_wp2
    go_ret
    refine ⟨ret_bool ?_, Below.refl _ _⟩
    rw [HR.out]
    unfold headOk
    rw [← HS.out]
    simp
    omega
  by_cases h2 : 20 < s.size
  · have h1' : ¬ (s.size : Int) < 1 := by omega
    have h2' : (20 : Int) < (s.size : Int) := by omega
    go_enter Try.func37, Try.ntmps37
    go_wp2
    go_ret
    refine ⟨ret_bool ?_, Below.refl _ _⟩
    rw [HR.out]
    unfold headOk
    rw [← HS.out]
    simp
    omega
  by_cases h3 : 80 < n
  · have h1' : ¬ (s.size : Int) < 1 := by omega
    have h2' : ¬ (20 : Int) < (s.size : Int) := by omega
    have h3' : (80 : Int) < (n : Int) := by omega
    go_enter Try.func37, Try.ntmps37
    go_wp2
    go_ret
    refine ⟨ret_bool ?_, Below.refl _ _⟩
    rw [HR.out]
    unfold dataOk
    rw [HL.out]
    simp
    omega
  have h1' : ¬ (s.size : Int) < 1 := by omega
  have h2' : ¬ (20 : Int) < (s.size : Int) := by omega
  have h3' : ¬ (80 : Int) < (n : Int) := by omega
  go_enter Try.func37, Try.ntmps37
  go_wp2
  go_loopw [5] (fun i wr => ∃ k : Nat, k ≤ s.size ∧ i = .int .i64 k ∧ Hid ((s.data.toList.take k).all isLow = true) ∧ Below w.heap.size w wr) (fun i _ => s.size - (intOf i).toNat)
  case atStart => exact ⟨0, by omega, rfl, rfl, Below.refl _ _⟩
  case round =>
    obtain ⟨k, hk, rfl, hA, hb⟩ := hrel
    by_cases hlt : k < s.size
    · have hkl : k < s.data.toList.length := by rw [← HS.out]; exact hlt
      have hg := get_list s k hlt
      obtain ⟨m, hm⟩ : ∃ m : Nat, s[k].toNat = m := ⟨_, rfl⟩
      have HM : Hid ((s.data.toList[k]'hkl).toNat = m) := by
        show (s.data.toList[k]'hkl).toNat = m
        rw [← hg]; exact hm
      clear hg
      by_cases g1 : m < 97
      · have g1' : (m : Int) < 97 := by omega
        go_wp2
        go_ret
        refine ⟨ret_bool ?_, hb⟩
        rw [HR.out]
        unfold headOk
        rw [all_not hkl (by unfold isLow; rw [HM.out]; simp; omega)]
        rfl
      · have g1' : ¬ (m : Int) < 97 := by omega
        by_cases g2 : 122 < m
        · have g2' : (122 : Int) < (m : Int) := by omega
          go_wp2
          go_ret
          refine ⟨ret_bool ?_, hb⟩
          rw [HR.out]
          unfold headOk
          rw [all_not hkl (by unfold isLow; rw [HM.out]; simp; omega)]
          rfl
        · have g2' : ¬ (122 : Int) < (m : Int) := by omega
          have HN := Lib.hid (all_more hkl hA.out (by unfold isLow; rw [HM.out]; simp; omega))
          go_wp2
          go_roundw
          case rel => exact ⟨k + 1, by omega, by go_num, HN, hb⟩
          case measure => simp [intOf]; omega
    · have HF : Hid (headOk s.data.toList = true) := by
        have := hA.out
        rw [List.take_of_length_le (by rw [← HS.out]; omega)] at this
        show headOk s.data.toList = true
        unfold headOk
        rw [this, ← HS.out]
        simp
        omega
      clear hA
      go_wp2
      go_loopw [6] (fun i wr => ∃ k : Nat, k ≤ n ∧ i = .int .i64 k ∧ Hid ((bs.take k).all smallB = true) ∧ Below w.heap.size w wr) (fun i _ => n - (intOf i).toNat)
      case atStart => exact ⟨0, by omega, rfl, rfl, hb⟩
      case round =>
        obtain ⟨j, hj, rfl, hA, hb⟩ := hrel
        by_cases hlt2 : j < n
        · have hkl : j < bs.length := by rw [HL.out]; exact hlt2
          obtain ⟨ad, rfl, hadlt, hcell⟩ := (RdB.below H.out hb).at_ hlt2
          obtain ⟨m, hm⟩ : ∃ m : Nat, (bs[j]'hkl).toNat = m := ⟨_, rfl⟩
          rw [hm] at hcell
          have HM := Lib.hid hm
          clear hm
          by_cases g1 : 31 < m
          · have g1' : (31 : Int) < (m : Int) := by omega
            go_wp2
            go_ret
            refine ⟨ret_bool ?_, hb⟩
            rw [HR.out]
            unfold dataOk
            rw [all_not hkl (by unfold smallB; rw [HM.out]; simp; omega)]
            simp
          · have g1' : ¬ (31 : Int) < (m : Int) := by omega
            have HN := Lib.hid (all_more hkl hA.out (by unfold smallB; rw [HM.out]; simp; omega))
            go_wp2
            go_roundw
            case rel => exact ⟨j + 1, by omega, by go_num, HN, hb⟩
            case measure => simp [intOf]; omega
        · have HG : Hid (bs.all smallB = true) := by
            have := hA.out
            rw [List.take_of_length_le (by rw [HL.out]; omega)] at this
            exact this
          clear hA
          go_wp2
          go_ret
          refine ⟨ret_bool ?_, hb⟩
          rw [HR.out, HF.out]
          unfold dataOk
          rw [HG.out, HL.out]
          simp
          omega

end Go.Proofs.Ytkacplgfkokdcaa
