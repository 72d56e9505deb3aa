/-
  The walks over the reference's Encode and Decode of hexes.
-/
import Derived.Test.YtggadilgkcjbjaaGreatDoorHxDec
set_option linter.unusedVariables false
namespace Go.Proofs.YtggadilgkcjbjaaGreatDoor
open Go.RowKit

def NotAt (c : UInt8) (k : Nat) : Prop := ∀ j, j < k → hexDig j ≠ c

set_option maxHeartbeats 400000 in
theorem refValue (c : UInt8) (w : World) :
    Calls Tryz.prog 82 #[.int .u8 (c.toNat : Int)] w fun e w' => e = .returned (.int .i64 (match hexVal c with | some x => (x : Int) | none => -1)) ∧ w = w' := by
  obtain ⟨r, hr⟩ : ∃ r : Int, r = (match hexVal c with | some x => (x : Int) | none => -1) := ⟨_, rfl⟩
  rw [← hr]
  have HR := Lib.hid hr
  clear hr
  go_enter Tryz.func82, Tryz.ntmps82
  go_wp2
  go_loop [3] (fun i => ∃ k : Nat, k ≤ 16 ∧ i = .int .i64 k ∧ NotAt c k) (fun i => 16 - (intOf i).toNat)
  case atStart => exact ⟨0, by omega, rfl, fun j hj => by omega⟩
  case round =>
    obtain ⟨k, hk, rfl, hno⟩ := hrel
    by_cases hlt : k < 16
    · obtain ⟨hp, hg⟩ := hexDigits_get k hlt
      have HG := Lib.hid hg
      clear hg
      by_cases he : hexDig k = c
      · have ht : ((((⟨#[48, 49, 50, 51, 52, 53, 54, 55, 56, 57, 97, 98, 99, 100, 101, 102]⟩ : ByteArray)[k]'hp).toNat : Int) == (c.toNat : Int)) = true := by
          rw [HG.out, he]; simp
        have HE := Lib.hid he
        clear he
        go_wp2
        go_ret
        refine ⟨ret_int ?_, rfl⟩
        rw [HR.out, ← HE.out, hexVal_dig k hlt]
      · have ht : ((((⟨#[48, 49, 50, 51, 52, 53, 54, 55, 56, 57, 97, 98, 99, 100, 101, 102]⟩ : ByteArray)[k]'hp).toNat : Int) == (c.toNat : Int)) = false := by
          rw [HG.out]
          simp only [beq_eq_false_iff_ne, ne_eq, Int.natCast_inj]
          exact fun h => he (UInt8.toNat_inj.1 h)
        have HE := Lib.hid he
        clear he
        go_wp2
        go_round
        case rel =>
          refine ⟨k + 1, by omega, by go_num, fun j hj => ?_⟩
          rcases Nat.lt_or_ge j k with h | h
          · exact hno j h
          · obtain rfl : j = k := by omega
            exact HE.out
        case measure => simp [intOf]; omega
    · go_wp2
      go_ret
      refine ⟨ret_int ?_, rfl⟩
      rw [HR.out]
      cases hv : hexVal c with
      | none => rfl
      | some x => exact absurd (hexDig_val c x hv) (hno x (by have := hexVal_lt c x hv; omega))

theorem hexDigits_cut (i : Nat) (hi : i < 16) : (⟨#[48, 49, 50, 51, 52, 53, 54, 55, 56, 57, 97, 98, 99, 100, 101, 102]⟩ : ByteArray).extract i (i + 1) = ⟨#[hexDig i]⟩ := by
  have : ∀ j : Fin 16, (⟨#[48, 49, 50, 51, 52, 53, 54, 55, 56, 57, 97, 98, 99, 100, 101, 102]⟩ : ByteArray).extract j.1 (j.1 + 1) = ⟨#[hexDig j.1]⟩ := by decide
  exact this ⟨i, hi⟩

theorem bytes_append (a b : Array UInt8) : (⟨a⟩ : ByteArray) ++ (⟨b⟩ : ByteArray) = ⟨a ++ b⟩ := by
  apply ByteArray.ext
  simp

theorem hexStr_next {bs : List UInt8} {k m : Nat} {t : ByteArray} (hlt : k < bs.length) (hm1 : m < 256) (hm : bs[k].toNat = m) (ht : t = ⟨(hexEnc (bs.take k)).toArray⟩) :
    t ++ (⟨#[48, 49, 50, 51, 52, 53, 54, 55, 56, 57, 97, 98, 99, 100, 101, 102]⟩ : ByteArray).extract (m / 16) (m / 16 + 1) ++ (⟨#[48, 49, 50, 51, 52, 53, 54, 55, 56, 57, 97, 98, 99, 100, 101, 102]⟩ : ByteArray).extract (m % 16) (m % 16 + 1) = ⟨(hexEnc (bs.take (k + 1))).toArray⟩ := by
  rw [hexDigits_cut _ (by omega), hexDigits_cut _ (by omega), ht, bytes_append, bytes_append, List.take_succ_eq_append_getElem hlt, hexEnc_snoc, hm]
  simp

set_option maxHeartbeats 400000 in
theorem refEncode_any (A : Option Addr) (n c : Nat) (bs : List UInt8) (w : World) (h : RdB w w.heap.size A n bs) (hn : n ≤ 1000000) :
    Calls Tryz.prog 31 #[.slice A n c] w fun e w' => e = .returned (.string ⟨(hexEnc bs).toArray⟩) ∧ Below w.heap.size w w' := by
  have H := Lib.hid h
  clear h
  go_enter Tryz.func31, Tryz.ntmps31
  go_wp2
  go_loopw [3, 4] (fun s i wr => ∃ (k : Nat) (t : ByteArray), k ≤ n ∧ i = .int .i64 k ∧ s = .string t ∧ Hid (t = ⟨(hexEnc (bs.take k)).toArray⟩) ∧ t.size ≤ 2 * k ∧ Below w.heap.size w wr) (fun _ i _ => n - (intOf i).toNat)
  case atStart => exact ⟨0, _, Nat.zero_le _, rfl, rfl, rfl, by simp [ByteArray.size], Below.refl _ _⟩
  case round =>
    obtain ⟨k, t, hk, rfl, rfl, ht, hts, hb⟩ := hrel
    by_cases hlt : k < n
    · obtain ⟨ad, rfl, hadlt, hcell⟩ := (RdB.below H.out hb).at_ hlt
      have hm1 : (bs[k]'(by rw [H.out.len]; exact hlt)).toNat < 256 := UInt8.toNat_lt _
      obtain ⟨m, hm⟩ : ∃ m : Nat, (bs[k]'(by rw [H.out.len]; exact hlt)).toNat = m := ⟨_, rfl⟩
      rw [hm] at hcell hm1
      have HM := Lib.hid hm
      clear hm
      have e1 : 0 ≤ (m : Int) / 16 ∧ (m : Int) / 16 < 16 := by omega
      have e2 : 0 ≤ (m : Int) % 16 ∧ (m : Int) % 16 < 16 := by omega
      go_wp2_with fail
      go_quiet (fail)
      go_wp2_with fail
      go_quiet (fail)
      go_wp2_with fail
      go_roundw
      case rel =>
        have hs := hexStr_next (by rw [H.out.len]; exact hlt) hm1 HM.out ht.out
        refine ⟨k + 1, _, by omega, by go_num, rfl, hs, ?_, below_drewN hb _⟩
        rw [hs]
        simp [ByteArray.size, hexEnc_length]
        omega
      case measure => simp [intOf]; omega
    · go_wp2
      go_ret
      refine ⟨ret_str ?_, hb⟩
      have := ht.out
      rw [List.take_of_length_le (by rw [H.out.len]; omega)] at this
      exact this

/-! ### The reference -/

def DecL (S r : List UInt8) (acc : List UInt8) : Prop := ∃ p, S = p ++ r ∧ p.length = 2 * acc.length ∧ hexDec p = some acc

theorem DecL.fin {S : List UInt8} {acc : List UInt8} (h : DecL S [] acc) : hexDec S = some acc := by
  obtain ⟨p, rfl, _, hd⟩ := h
  rw [List.append_nil, hd]

theorem DecL.next {S r acc : List UInt8} {a b : UInt8} (h : DecL S (a :: b :: r) acc) {x y : Nat} (hx : hexVal a = some x) (hy : hexVal b = some y) :
    DecL S r (acc ++ [UInt8.ofNat (x * 16 + y)]) := by
  obtain ⟨p, rfl, hl, hd⟩ := h
  refine ⟨p ++ [a, b], by simp, by simp; omega, ?_⟩
  rw [hexDec_append acc.length p _ hl, hd]
  simp [hexDec, hx, hy]

theorem DecL.bad {S r acc : List UInt8} {a b : UInt8} (h : DecL S (a :: b :: r) acc) (hb : hexVal a = none ∨ hexVal b = none) : hexDec S = none := by
  obtain ⟨p, rfl, hl, hd⟩ := h
  rw [hexDec_append acc.length p _ hl, hd]
  rcases hb with hb | hb
  · simp [hexDec, hb]
  · cases hv : hexVal a <;> simp [hexDec, hb, hv]

theorem drop_two {s : ByteArray} {j : Nat} (h : j + 1 < s.size) : s.data.toList.drop j = s[j] :: s[j + 1] :: s.data.toList.drop (j + 2) := by
  have hl := size_list s
  rw [List.drop_eq_getElem_cons (by omega), List.drop_eq_getElem_cons (by omega)]
  rfl

theorem quiet_left' {P : Program} {f : FuncId} {args : Array Value} {w : World} {n : Nat} {v : Value}
    (h : Calls P f args (w.drewN n) fun e w' => e = .returned v ∧ w.drewN n = w') : Calls P f args (w.drewN n) fun e w'' => e = .returned v ∧ ∃ m, w'' = w.drewN m :=
  h.mono fun _ _ ⟨he, hm⟩ => ⟨he, n, hm.symm⟩

/-- What the reference's value gives. -/
def refVal (c : UInt8) : Int := match hexVal c with | some x => (x : Int) | none => -1

theorem refVal_some {c : UInt8} {x : Nat} (h : hexVal c = some x) : refVal c = x := by unfold refVal; rw [h]
theorem refVal_none {c : UInt8} (h : hexVal c = none) : refVal c = -1 := by unfold refVal; rw [h]

theorem refValue_at (c : UInt8) (w : World) : Calls Tryz.prog 82 #[.int .u8 (c.toNat : Int)] w fun e w' => e = .returned (.int .i64 (refVal c)) ∧ w = w' := refValue c w

set_option maxHeartbeats 400000 in
theorem refDecode_any (s : ByteArray) (w : World) (hs : s.size ≤ 1000000) :
    Calls Tryz.prog 66 #[.string s] w (DecEnd (hexDec s.data.toList) w) := by
  obtain ⟨S, hS⟩ : ∃ S, S = s.data.toList := ⟨_, rfl⟩
  have hsl : s.size = S.length := by rw [hS]; exact size_list s
  rw [← hS]
  by_cases hodd : s.size % 2 = 1
  · have HD := Lib.hid (hexDec_odd (s := S) (by omega))
    have h2 : ((s.size : Int) % 2 == 1) = true := by rw [beq_iff_eq]; omega
    clear hsl hS hodd
    go_enter Tryz.func66, Tryz.ntmps66
    go_wp2
    go_ret2
    exact decEnd_none HD.out ((Below.refl _ _).alloc (Nat.le_refl _) _)
  · have h2 : ((s.size : Int) % 2 == 1) = false := by rw [beq_eq_false_iff_ne]; omega
    have HS := Lib.hid hS
    have HO := Lib.hid hodd
    clear hsl hS hodd
    have HOWN := Lib.hid (World.ownsRow_lit (base := w.heap.size) (e := 5) (size := 1) w #[] 0 (Nat.le_refl _) (by unfold maxLen; omega) rfl)
    go_enter Tryz.func66, Tryz.ntmps66
    go_wp2
    go_loopw [4, 5] (fun v i wr => ∃ (j : Nat) (acc : List UInt8) (A : Option Addr) (c : Nat), i = .int .i64 j ∧ v = .slice A acc.length c ∧ Hid (wr.ownsRow w.heap.size 5 1 (.slice A acc.length c) acc.length (Lib.byteCells acc)) ∧
        Below w.heap.size w wr ∧ DecL S (S.drop j) acc ∧ j ≤ s.size ∧ acc.length ≤ j ∧ Hid (j % 2 = 0)) (fun _ i _ => s.size - (intOf i).toNat)
    case atStart =>
      exact ⟨0, [], _, _, rfl, rfl, HOWN, (Below.refl _ _).alloc (Nat.le_refl _) _, ⟨[], rfl, rfl, rfl⟩, by omega, by simp, rfl⟩
    case round =>
      obtain ⟨j, acc, A, c, rfl, rfl, hown, hb, hp, hj, haj, hev⟩ := hrel
      by_cases hlt : j < s.size
      · have h1 : j + 1 < s.size := by have := hev.out; have := HO.out; omega
        rw [HS.out, drop_two h1] at hp
        have hsz1 : s.size ≤ 9223372036854775807 := by omega
        go_wp2_with fail
        obtain ⟨ca, hca⟩ : ∃ ca : UInt8, s[j] = ca := ⟨_, rfl⟩
        obtain ⟨cb, hcb⟩ : ∃ cb : UInt8, s[j + 1] = cb := ⟨_, rfl⟩
        rw [hca, hcb] at hp
        have hw1 : IntKind.i64.wrap ((j : Int) + 1) = (j : Int) + 1 := IntWalk.i64_in _ (by omega)
        have hw2 : (0 : Int) ≤ (j : Int) + 1 := by omega
        have hw3 : ((j : Int) + 1).toNat = j + 1 := by omega
        have hw4 : (j : Int) + 1 < (s.size : Int) := by omega
        go_quiet ((go_at_call 82; exact quiet_left' (refValue_at _ _)))
        clear hw1 hw2 hw3 hw4 hca hcb
        have hbq := below_drewN hb nq
        have hownq : Hid ((wr.drewN nq).ownsRow w.heap.size 5 1 (.slice A acc.length c) acc.length (Lib.byteCells acc)) := hown
        clear hb hown
        generalize wr.drewN nq = wq at hbq hownq ⊢
        cases hx : hexVal ca with
        | none =>
          have HF := Lib.hid (hp.bad (.inl hx))
          have h3 : refVal ca < 0 := by rw [refVal_none hx]; omega
          clear hx hp
          go_wp2
          all_goals go_ret2
          all_goals exact decEnd_none (by rw [HS.out]; exact HF.out) hbq
        | some x =>
          cases hy : hexVal cb with
          | none =>
            have HF := Lib.hid (hp.bad (.inr hy))
            have h3 : 0 ≤ refVal ca := by rw [refVal_some hx]; omega
            have h4 : refVal cb < 0 := by rw [refVal_none hy]; omega
            clear hx hy hp
            go_wp2
            go_ret2
            exact decEnd_none (by rw [HS.out]; exact HF.out) hbq
          | some y =>
            have hx1 := hexVal_lt _ x hx
            have hy1 := hexVal_lt _ y hy
            have HN := Lib.hid (hp.next hx hy)
            rw [refVal_some hx, refVal_some hy]
            clear hx hy hp
            go_wp2_with (at_builtin; refine wpList_push wq _ Tryz.underlying22 infoByte rfl rfl _ _ rfl w.heap.size _ _ _ rfl hownq.out rfl rfl (by unfold maxLen; omega) (by omega) hbq.size ?_)
            intro A' c' w2 hown2 hb2
            rw [hexCell acc x y hx1 hy1] at hown2
            have HOWN2 := Lib.hid hown2
            clear hown2 hownq
            go_wp2
            go_roundw
            case rel =>
              refine ⟨j + 2, acc ++ [UInt8.ofNat (x * 16 + y)], A', c', by go_num, by simp, ?_, hbq.trans hb2, by rw [HS.out]; exact HN.out, by omega, by simp; omega, ?_⟩
              · have := HOWN2.out; rw [show acc.length + 1 = (acc ++ [UInt8.ofNat (x * 16 + y)]).length by simp] at this; exact this
              · have := hev.out; show (j + 2) % 2 = 0; omega
            case measure => simp [intOf]; omega
      · have HF : Hid (hexDec S = some acc) := by
          rw [List.drop_of_length_le (by rw [HS.out, ← size_list]; omega)] at hp
          exact hp.fin
        clear hp
        go_wp2
        go_ret2
        exact decEnd_some HF.out hb hown.out

end Go.Proofs.YtggadilgkcjbjaaGreatDoor
