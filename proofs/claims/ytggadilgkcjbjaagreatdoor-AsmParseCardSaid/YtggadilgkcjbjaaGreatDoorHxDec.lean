/-
  The walks over Decode of hexes and of its reference: the bytes of digits, or that there are none.
-/
import Derived.Test.YtggadilgkcjbjaaGreatDoorHxEnc
set_option linter.unusedVariables false
namespace Go.Proofs.YtggadilgkcjbjaaGreatDoor
open Go.RowKit

theorem hexDec_append : ∀ (n : Nat) (p q : List UInt8), p.length = 2 * n → hexDec (p ++ q) = (hexDec p).bind fun x => (hexDec q).map (x ++ ·)
  | 0, p, q, h => by
    obtain rfl : p = [] := List.eq_nil_of_length_eq_zero (by omega)
    simp [hexDec]
  | n + 1, a :: b :: r, q, h => by
    have ih := hexDec_append n r q (by simp at h; omega)
    simp only [List.cons_append, hexDec, ih]
    cases hexVal a <;> cases hexVal b <;> cases hexDec r <;> cases hexDec q <;> simp
  | n + 1, [], q, h => by simp at h
  | n + 1, [_], q, h => by simp at h; omega

/-- A text of two bytes or more: its first two, and the rest. -/
theorem two_first (t : ByteArray) (h : 1 < t.size) : t.data.toList = t[0] :: t[1] :: (t.extract 2 t.size).data.toList := by
  obtain ⟨⟨l⟩⟩ := t
  match l, h with
  | [], h => simp [ByteArray.size] at h
  | [_], h => simp [ByteArray.size] at h
  | a :: b :: r, _ =>
    rw [Lib.extract_data, List.take_of_length_le (by simp [ByteArray.size])]
    rfl

theorem hexJoin (x y : Nat) (hx : x < 16) (hy : y < 16) : bits .or .u8 ((x : Int) * 16) (y : Int) = (x : Int) * 16 + (y : Int) := by
  have h := u8_or_nat (x * 16) y (by omega) (by omega)
  rw [show (((x * 16 : Nat)) : Int) = (x : Int) * 16 by omega] at h
  rw [h, nat_join 4 (x * 16) y (by omega) (by omega)]
  omega

theorem hexCell (acc : List UInt8) (x y : Nat) (hx : x < 16) (hy : y < 16) : Lib.byteCells acc ++ [Value.int .u8 ((x : Int) * 16 + (y : Int))] = Lib.byteCells (acc ++ [UInt8.ofNat (x * 16 + y)]) := by
  rw [Lib.byteCells_append]
  congr 1
  have h : (UInt8.ofNat (x * 16 + y)).toNat = x * 16 + y := by rw [UInt8.toNat_ofNat']; omega
  simp [Lib.byteCells]
  omega

/-- The state of the loop: what stands ahead of t is read. -/
def DecState (S : List UInt8) (t : ByteArray) (acc : List UInt8) : Prop := ∃ p, S = p ++ t.data.toList ∧ p.length = 2 * acc.length ∧ hexDec p = some acc

theorem DecState.fin {S : List UInt8} {t : ByteArray} {acc : List UInt8} (h : DecState S t acc) (h0 : t.size = 0) : hexDec S = some acc := by
  obtain ⟨p, rfl, _, hd⟩ := h
  rw [List.eq_nil_of_length_eq_zero (l := t.data.toList) (by rw [← size_list]; exact h0), List.append_nil, hd]

theorem DecState.next {S : List UInt8} {t : ByteArray} {acc : List UInt8} (h : DecState S t acc) (h1 : 1 < t.size) {x y : Nat} (hx : hexVal t[0] = some x) (hy : hexVal t[1] = some y) :
    DecState S (t.extract 2 t.size) (acc ++ [UInt8.ofNat (x * 16 + y)]) := by
  obtain ⟨p, rfl, hl, hd⟩ := h
  refine ⟨p ++ [t[0], t[1]], ?_, by simp; omega, ?_⟩
  · rw [List.append_assoc]
    congr 1
    exact two_first t h1
  · rw [hexDec_append acc.length p _ hl, hd]
    simp [hexDec, hx, hy]

theorem DecState.bad {S : List UInt8} {t : ByteArray} {acc : List UInt8} (h : DecState S t acc) (h1 : 1 < t.size) (hb : hexVal t[0] = none ∨ hexVal t[1] = none) : hexDec S = none := by
  obtain ⟨p, rfl, hl, hd⟩ := h
  rw [two_first t h1, hexDec_append acc.length p _ hl, hd]
  rcases hb with hb | hb
  · simp [hexDec, hb]
  · cases hv : hexVal t[0] <;> simp [hexDec, hb, hv]

/-- How Decode ends. -/
def DecEnd (r : Option (List UInt8)) (w : World) (e : Ending) (w' : World) : Prop :=
  Below w.heap.size w w' ∧
    match r with
    | none => e = .returned (.tuple #[.slice none 0 0, .int .i64 3])
    | some l => ∃ (A : Option Addr) (c : Nat), e = .returned (.tuple #[.slice A l.length c, .int .i64 0]) ∧ w'.ownsRow w.heap.size 5 1 (.slice A l.length c) l.length (Lib.byteCells l)

theorem decEnd_none {S : List UInt8} {w w' : World} (h : hexDec S = none) (hb : Below w.heap.size w w') : DecEnd (hexDec S) w (.returned (.tuple #[.slice none 0 0, .int .i64 3])) w' := by
  rw [h]; exact ⟨hb, rfl⟩
theorem decEnd_some {S l : List UInt8} {w w' : World} {A : Option Addr} {c : Nat} (h : hexDec S = some l) (hb : Below w.heap.size w w') (ho : w'.ownsRow w.heap.size 5 1 (.slice A l.length c) l.length (Lib.byteCells l)) :
    DecEnd (hexDec S) w (.returned (.tuple #[.slice A l.length c, .int .i64 0])) w' := by
  rw [h]; exact ⟨hb, A, c, rfl, ho⟩

def strSize : Value → Nat
  | .string s => s.size
  | _ => 0

set_option maxRecDepth 100000 in
set_option maxHeartbeats 400000 in
theorem decode_any (s : ByteArray) (w : World) (hs : s.size ≤ 1000000) :
    Calls Tryz.prog 62 #[.string s] w (DecEnd (hexDec s.data.toList) w) := by
  obtain ⟨S, hS⟩ : ∃ S, S = s.data.toList := ⟨_, rfl⟩
  have hsl : s.size = S.length := by rw [hS]; exact size_list s
  rw [← hS]
  by_cases hodd : s.size % 2 = 1
  · have HD := Lib.hid (hexDec_odd (s := S) (by omega))
    have h2 : ((s.size : Int) % 2 != 0) = true := by rw [bne_iff_ne]; omega
    clear hsl hS hodd
    go_enter Tryz.func62, Tryz.ntmps62
    go_wp2
    go_ret2
    exact decEnd_none HD.out (Below.refl _ _)
  · have h2 : ((s.size : Int) % 2 != 0) = false := by rw [bne_eq_false_iff_eq]; omega
    have HS := Lib.hid hS
    have HO := Lib.hid hodd
    clear hsl hS hodd
    obtain ⟨i0, hi, hz0, hz1, hz2⟩ := info_parts infoByte
    go_enter Tryz.func62, Tryz.ntmps62
    go_wp2_with (at_make; refine wpList_make_own _ rfl _ _ 22 rfl w.heap.size 5 i0 (.int .u8 0) 1 Tryz.underlying22 hi hz0 hz1 .i64 .i64 _ (s.size / 2) rfl rfl (by omega) (by rw [hz2]; omega) (by unfold maxLen; omega) (Nat.le_refl _) ?_)
    intro w1 hown hg
    have hb1 : Below w.heap.size w w1 := (Below.refl _ w).grown hg (Nat.le_refl _) (fun k hk => by cases hk)
    have HOWN := Lib.hid hown
    clear hown hg
    go_wp2
    go_loopw [0, 4] (fun x v wr => ∃ (t : ByteArray) (acc : List UInt8) (A : Option Addr) (c : Nat), x = .string t ∧ v = .slice A acc.length c ∧ Hid (wr.ownsRow w.heap.size 5 1 (.slice A acc.length c) acc.length (Lib.byteCells acc)) ∧
        Below w.heap.size w wr ∧ DecState S t acc ∧ t.size + 2 * acc.length ≤ 1000000 ∧ Hid (t.size % 2 = 0)) (fun x _ _ => strSize x)
    case atStart =>
      exact ⟨s, [], _, _, rfl, rfl, HOWN, hb1, ⟨[], by rw [HS.out]; rfl, rfl, rfl⟩, by simpa using hs, by have := HO.out; show s.size % 2 = 0; omega⟩
    case round =>
      obtain ⟨t, acc, A, c, rfl, rfl, hown, hb, hp, hsz, hev⟩ := hrel
      by_cases h0 : t.size = 0
      · have he := empty_of_size h0
        have HF := Lib.hid (hp.fin h0)
        clear h0
        go_wp2
        go_ret2
        exact decEnd_some HF.out hb hown.out
      · have h1 : 1 < t.size := by have := hev.out; omega
        have h0' : 0 < t.size := by omega
        have he := nonempty_of_size h0'
        clear h0
        cases hx : hexVal t[0] with
        | none =>
          have HF := Lib.hid (hp.bad h1 (.inl hx))
          have HX := Lib.hid hx
          clear hx
          cases hy : hexVal t[1] with
          | none =>
            have HY := Lib.hid hy
            clear hy
            go_wp2_with fail
            refine (value_none t[0] HX.out _).mono ?_
            rintro e w1 ⟨rfl, rfl⟩
            go_wp2_with fail
            refine (value_none t[1] HY.out _).mono ?_
            rintro e w1 ⟨rfl, rfl⟩
            go_wp2
            go_ret2
            exact decEnd_none HF.out hb
          | some y =>
            have HY := Lib.hid hy
            clear hy
            go_wp2_with fail
            refine (value_none t[0] HX.out _).mono ?_
            rintro e w1 ⟨rfl, rfl⟩
            go_wp2_with fail
            refine (value_some t[1] y HY.out _).mono ?_
            rintro e w1 ⟨rfl, rfl⟩
            go_wp2
            go_ret2
            exact decEnd_none HF.out hb
        | some x =>
          cases hy : hexVal t[1] with
          | none =>
            have HF := Lib.hid (hp.bad h1 (.inr hy))
            have HX := Lib.hid hx
            have HY := Lib.hid hy
            clear hx hy
            go_wp2_with fail
            refine (value_some t[0] x HX.out _).mono ?_
            rintro e w1 ⟨rfl, rfl⟩
            go_wp2_with fail
            refine (value_none t[1] HY.out _).mono ?_
            rintro e w1 ⟨rfl, rfl⟩
            go_wp2
            go_ret2
            exact decEnd_none HF.out hb
          | some y =>
            have hx1 := hexVal_lt _ x hx
            have hy1 := hexVal_lt _ y hy
            have HN := Lib.hid (hp.next h1 hx hy)
            have HX := Lib.hid hx
            have HY := Lib.hid hy
            clear hx hy
            go_wp2_with fail
            refine (value_some t[0] x HX.out _).mono ?_
            rintro e w1 ⟨rfl, rfl⟩
            go_wp2_with fail
            refine (value_some t[1] y HY.out _).mono ?_
            rintro e w1 ⟨rfl, rfl⟩
            have hj := hexJoin x y hx1 hy1
            go_wp2_with (at_builtin; refine wpList_push wr _ Tryz.underlying22 infoByte rfl rfl _ _ rfl w.heap.size _ _ _ rfl hown.out rfl rfl (by unfold maxLen; omega) (by omega) hb.size ?_)
            intro A' c' w2 hown2 hb2
            rw [hexCell acc x y hx1 hy1] at hown2
            have HOWN2 := Lib.hid hown2
            clear hown2 hj hown
            go_wp2
            go_roundw
            case rel =>
              refine ⟨_, acc ++ [UInt8.ofNat (x * 16 + y)], A', c', rfl, ?_, ?_, hb.trans hb2, HN.out, ?_, ?_⟩
              · simp
              · have := HOWN2.out; rw [show acc.length + 1 = (acc ++ [UInt8.ofNat (x * 16 + y)]).length by simp] at this; exact this
              · simp; omega
              · have := hev.out; show (t.extract 2 t.size).size % 2 = 0; simp; omega
            case measure => simp [strSize]; omega

end Go.Proofs.YtggadilgkcjbjaaGreatDoor
