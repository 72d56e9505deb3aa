/-
  The walks over Decode of hexes and of its reference: the bytes of digits, or that there are none.
-/
import Derived.Test.YtifjpjbjlgeifaaHexEnc
set_option linter.unusedVariables false
namespace Go.Proofs.Ytifjpjbjlgeifaa
open Go.RowKit

theorem hexDec_append : ∀ (n : Nat) (p q : List UInt8), p.length = 2 * n → hexDec (p ++ q) = (hexDec p).bind fun x => (hexDec q).map (x ++ ·)
  | 0, p, q, h => by
    obtain rfl : p = [] := List.eq_nil_of_length_eq_zero (by omega)
    simp [hexDec]
  | n + 1, a :: b :: r, q, h => by
    have ih := hexDec_append n r q (by simp at h; omega)
    simp only [List.cons_append, hexDec, ih]
    cases hexVal a <;> cases hexVal b <;> cases hexDec r <;> cases hexDec q <;> simp
  | n + 1, [], q, h => by simp at h
  | n + 1, [_], q, h => by simp at h; omega

/-- A text of two bytes or more: its first two, and the rest. -/
theorem two_first (t : ByteArray) (h : 1 < t.size) : t.data.toList = t[0] :: t[1] :: (t.extract 2 t.size).data.toList := by
  obtain ⟨⟨l⟩⟩ := t
  match l, h with
  | [], h => simp [ByteArray.size] at h
  | [_], h => simp [ByteArray.size] at h
  | a :: b :: r, _ =>
    rw [Lib.extract_data, List.take_of_length_le (by simp [ByteArray.size])]
    rfl

theorem hexJoin (x y : Nat) (hx : x < 16) (hy : y < 16) : bits .or .u8 ((x : Int) * 16) (y : Int) = (x : Int) * 16 + (y : Int) := by
  have h := u8_or_nat (x * 16) y (by omega) (by omega)
  rw [show (((x * 16 : Nat)) : Int) = (x : Int) * 16 by omega] at h
  rw [h, nat_join 4 (x * 16) y (by omega) (by omega)]
  omega

theorem hexCell (acc : List UInt8) (x y : Nat) (hx : x < 16) (hy : y < 16) : Lib.byteCells acc ++ [Value.int .u8 ((x : Int) * 16 + (y : Int))] = Lib.byteCells (acc ++ [UInt8.ofNat (x * 16 + y)]) := by
  rw [Lib.byteCells_append]
  congr 1
  have h : (UInt8.ofNat (x * 16 + y)).toNat = x * 16 + y := by rw [UInt8.toNat_ofNat']; omega
  simp [Lib.byteCells]
  omega

/-- The state of the loop: what stands ahead of t is read. -/
def DecState (S : List UInt8) (t : ByteArray) (acc : List UInt8) : Prop := ∃ p, S = p ++ t.data.toList ∧ p.length = 2 * acc.length ∧ hexDec p = some acc

theorem DecState.fin {S : List UInt8} {t : ByteArray} {acc : List UInt8} (h : DecState S t acc) (h0 : t.size = 0) : hexDec S = some acc := by
  obtain ⟨p, rfl, _, hd⟩ := h
  rw [List.eq_nil_of_length_eq_zero (l := t.data.toList) (by rw [← size_list]; exact h0), List.append_nil, hd]

theorem DecState.next {S : List UInt8} {t : ByteArray} {acc : List UInt8} (h : DecState S t acc) (h1 : 1 < t.size) {x y : Nat} (hx : hexVal t[0] = some x) (hy : hexVal t[1] = some y) :
    DecState S (t.extract 2 t.size) (acc ++ [UInt8.ofNat (x * 16 + y)]) := by
  obtain ⟨p, rfl, hl, hd⟩ := h
  refine ⟨p ++ [t[0], t[1]], ?_, by simp; omega, ?_⟩
  · rw [List.append_assoc]
    congr 1
    exact two_first t h1
  · rw [hexDec_append acc.length p _ hl, hd]
    simp [hexDec, hx, hy]

theorem DecState.bad {S : List UInt8} {t : ByteArray} {acc : List UInt8} (h : DecState S t acc) (h1 : 1 < t.size) (hb : hexVal t[0] = none ∨ hexVal t[1] = none) : hexDec S = none := by
  obtain ⟨p, rfl, hl, hd⟩ := h
  rw [two_first t h1, hexDec_append acc.length p _ hl, hd]
  rcases hb with hb | hb
  · simp [hexDec, hb]
  · cases hv : hexVal t[0] <;> simp [hexDec, hb, hv]

/-- How Decode ends. -/
def DecEnd (r : Option (List UInt8)) (w : World) (e : Ending) (w' : World) : Prop :=
  Below w.heap.size w w' ∧
    match r with
    | none => e = .returned (.tuple #[.slice none 0 0, .int .i64 3])
    | some l => ∃ (A : Option Addr) (c : Nat), e = .returned (.tuple #[.slice A l.length c, .int .i64 0]) ∧ w'.ownsRow w.heap.size 5 1 (.slice A l.length c) l.length (Lib.byteCells l)

theorem decEnd_none {S : List UInt8} {w w' : World} (h : hexDec S = none) (hb : Below w.heap.size w w') : DecEnd (hexDec S) w (.returned (.tuple #[.slice none 0 0, .int .i64 3])) w' := by
  rw [h]; exact ⟨hb, rfl⟩
theorem decEnd_some {S l : List UInt8} {w w' : World} {A : Option Addr} {c : Nat} (h : hexDec S = some l) (hb : Below w.heap.size w w') (ho : w'.ownsRow w.heap.size 5 1 (.slice A l.length c) l.length (Lib.byteCells l)) :
    DecEnd (hexDec S) w (.returned (.tuple #[.slice A l.length c, .int .i64 0])) w' := by
  rw [h]; exact ⟨hb, A, c, rfl, ho⟩

def strSize : Value → Nat
  | .string s => s.size
  | _ => 0

set_option maxHeartbeats 400000 in
theorem decode_any (s : ByteArray) (w : World) (hs : s.size ≤ 1000000) :
    Calls Try.prog 11 #[.string s] w (DecEnd (hexDec s.data.toList) w) := by
  obtain ⟨S, hS⟩ : ∃ S, S = s.data.toList := ⟨_, rfl⟩
  have hsl : s.size = S.length := by rw [hS]; exact size_list s
  rw [← hS]
  by_cases hodd : s.size % 2 = 1
  · have HD := Lib.hid (hexDec_odd (s := S) (by omega))
    have h2 : ((s.size : Int) % 2 != 0) = true := by rw [bne_iff_ne]; omega
    clear hsl hS hodd
    go_enter Try.func11, Try.ntmps11
    go_wp2
    go_ret2
    exact decEnd_none HD.out (Below.refl _ _)
  · have h2 : ((s.size : Int) % 2 != 0) = false := by rw [bne_eq_false_iff_eq]; omega
    have HS := Lib.hid hS
    have HO := Lib.hid hodd
    clear hsl hS hodd
    obtain ⟨i0, hi, hz0, hz1, hz2⟩ := info_parts infoByte
    go_enter Try.func11, Try.ntmps11
    go_wp2_with (at_make; refine wpList_make_own _ rfl _ _ 22 rfl w.heap.size 5 i0 (.int .u8 0) 1 Try.underlying22 hi hz0 hz1 .i64 .i64 _ (s.size / 2) rfl rfl (by omega) (by rw [hz2]; omega) (by unfold maxLen; omega) (Nat.le_refl _) ?_)
    intro w1 hown hg
    have hb1 : Below w.heap.size w w1 := (Below.refl _ w).grown hg (Nat.le_refl _) (fun k hk => by cases hk)
    have HOWN := Lib.hid hown
    clear hown hg
    go_wp2
    go_loopw [0, 4] (fun x v wr => ∃ (t : ByteArray) (acc : List UInt8) (A : Option Addr) (c : Nat), x = .string t ∧ v = .slice A acc.length c ∧ Hid (wr.ownsRow w.heap.size 5 1 (.slice A acc.length c) acc.length (Lib.byteCells acc)) ∧
        Below w.heap.size w wr ∧ DecState S t acc ∧ t.size + 2 * acc.length ≤ 1000000 ∧ Hid (t.size % 2 = 0)) (fun x _ _ => strSize x)
    case atStart =>
      exact ⟨s, [], _, _, rfl, rfl, HOWN, hb1, ⟨[], by rw [HS.out]; rfl, rfl, rfl⟩, by simpa using hs, by have := HO.out; show s.size % 2 = 0; omega⟩
    case round =>
      obtain ⟨t, acc, A, c, rfl, rfl, hown, hb, hp, hsz, hev⟩ := hrel
      by_cases h0 : t.size = 0
      · have he := empty_of_size h0
        have HF := Lib.hid (hp.fin h0)
        clear h0
        go_wp2
        go_ret2
        exact decEnd_some HF.out hb hown.out
      · have h1 : 1 < t.size := by have := hev.out; omega
        have h0' : 0 < t.size := by omega
        have he := nonempty_of_size h0'
        clear h0
        cases hx : hexVal t[0] with
        | none =>
          have HF := Lib.hid (hp.bad h1 (.inl hx))
          have HX := Lib.hid hx
          clear hx
          cases hy : hexVal t[1] with
          | none =>
            have HY := Lib.hid hy
            clear hy
            go_wp2_with fail
            refine (value_none t[0] HX.out _).mono ?_
            rintro e w1 ⟨rfl, rfl⟩
            go_wp2_with fail
            refine (value_none t[1] HY.out _).mono ?_
            rintro e w1 ⟨rfl, rfl⟩
            go_wp2
            go_ret2
            exact decEnd_none HF.out hb
          | some y =>
            have HY := Lib.hid hy
            clear hy
            go_wp2_with fail
            refine (value_none t[0] HX.out _).mono ?_
            rintro e w1 ⟨rfl, rfl⟩
            go_wp2_with fail
            refine (value_some t[1] y HY.out _).mono ?_
            rintro e w1 ⟨rfl, rfl⟩
            go_wp2
            go_ret2
            exact decEnd_none HF.out hb
        | some x =>
          cases hy : hexVal t[1] with
          | none =>
            have HF := Lib.hid (hp.bad h1 (.inr hy))
            have HX := Lib.hid hx
            have HY := Lib.hid hy
            clear hx hy
            go_wp2_with fail
            refine (value_some t[0] x HX.out _).mono ?_
            rintro e w1 ⟨rfl, rfl⟩
            go_wp2_with fail
            refine (value_none t[1] HY.out _).mono ?_
            rintro e w1 ⟨rfl, rfl⟩
            go_wp2
            go_ret2
            exact decEnd_none HF.out hb
          | some y =>
            have hx1 := hexVal_lt _ x hx
            have hy1 := hexVal_lt _ y hy
            have HN := Lib.hid (hp.next h1 hx hy)
            have HX := Lib.hid hx
            have HY := Lib.hid hy
            clear hx hy
            go_wp2_with fail
            refine (value_some t[0] x HX.out _).mono ?_
            rintro e w1 ⟨rfl, rfl⟩
            go_wp2_with fail
            refine (value_some t[1] y HY.out _).mono ?_
            rintro e w1 ⟨rfl, rfl⟩
            have hj := hexJoin x y hx1 hy1
            go_wp2_with (at_builtin; refine wpList_push wr _ Try.underlying22 infoByte rfl rfl _ _ rfl w.heap.size _ _ _ rfl hown.out rfl rfl (by unfold maxLen; omega) (by omega) hb.size ?_)
            intro A' c' w2 hown2 hb2
            rw [hexCell acc x y hx1 hy1] at hown2
            have HOWN2 := Lib.hid hown2
            clear hown2 hj hown
            go_wp2
            go_roundw
            case rel =>
              refine ⟨_, acc ++ [UInt8.ofNat (x * 16 + y)], A', c', rfl, ?_, ?_, hb.trans hb2, HN.out, ?_, ?_⟩
              · simp
              · have := HOWN2.out; rw [show acc.length + 1 = (acc ++ [UInt8.ofNat (x * 16 + y)]).length by simp] at this; exact this
              · simp; omega
              · have := hev.out; show (t.extract 2 t.size).size % 2 = 0; simp; omega
            case measure => simp [strSize]; omega

/-! ### The reference -/

def DecL (S r : List UInt8) (acc : List UInt8) : Prop := ∃ p, S = p ++ r ∧ p.length = 2 * acc.length ∧ hexDec p = some acc

theorem DecL.fin {S : List UInt8} {acc : List UInt8} (h : DecL S [] acc) : hexDec S = some acc := by
  obtain ⟨p, rfl, _, hd⟩ := h
  rw [List.append_nil, hd]

theorem DecL.next {S r acc : List UInt8} {a b : UInt8} (h : DecL S (a :: b :: r) acc) {x y : Nat} (hx : hexVal a = some x) (hy : hexVal b = some y) :
    DecL S r (acc ++ [UInt8.ofNat (x * 16 + y)]) := by
  obtain ⟨p, rfl, hl, hd⟩ := h
  refine ⟨p ++ [a, b], by simp, by simp; omega, ?_⟩
  rw [hexDec_append acc.length p _ hl, hd]
  simp [hexDec, hx, hy]

theorem DecL.bad {S r acc : List UInt8} {a b : UInt8} (h : DecL S (a :: b :: r) acc) (hb : hexVal a = none ∨ hexVal b = none) : hexDec S = none := by
  obtain ⟨p, rfl, hl, hd⟩ := h
  rw [hexDec_append acc.length p _ hl, hd]
  rcases hb with hb | hb
  · simp [hexDec, hb]
  · cases hv : hexVal a <;> simp [hexDec, hb, hv]

theorem drop_two {s : ByteArray} {j : Nat} (h : j + 1 < s.size) : s.data.toList.drop j = s[j] :: s[j + 1] :: s.data.toList.drop (j + 2) := by
  have hl := size_list s
  rw [List.drop_eq_getElem_cons (by omega), List.drop_eq_getElem_cons (by omega)]
  rfl

theorem quiet_left' {P : Program} {f : FuncId} {args : Array Value} {w : World} {n : Nat} {v : Value}
    (h : Calls P f args (w.drewN n) fun e w' => e = .returned v ∧ w.drewN n = w') : Calls P f args (w.drewN n) fun e w'' => e = .returned v ∧ ∃ m, w'' = w.drewN m :=
  h.mono fun _ _ ⟨he, hm⟩ => ⟨he, n, hm.symm⟩

/-- What the reference's value gives. -/
def refVal (c : UInt8) : Int := match hexVal c with | some x => (x : Int) | none => -1

theorem refVal_some {c : UInt8} {x : Nat} (h : hexVal c = some x) : refVal c = x := by unfold refVal; rw [h]
theorem refVal_none {c : UInt8} (h : hexVal c = none) : refVal c = -1 := by unfold refVal; rw [h]

theorem refValue_at (c : UInt8) (w : World) : Calls Try.prog 20 #[.int .u8 (c.toNat : Int)] w fun e w' => e = .returned (.int .i64 (refVal c)) ∧ w = w' := refValue c w

set_option maxHeartbeats 400000 in
theorem refDecode_any (s : ByteArray) (w : World) (hs : s.size ≤ 1000000) :
    Calls Try.prog 12 #[.string s] w (DecEnd (hexDec s.data.toList) w) := by
  obtain ⟨S, hS⟩ : ∃ S, S = s.data.toList := ⟨_, rfl⟩
  have hsl : s.size = S.length := by rw [hS]; exact size_list s
  rw [← hS]
  by_cases hodd : s.size % 2 = 1
  · have HD := Lib.hid (hexDec_odd (s := S) (by omega))
    have h2 : ((s.size : Int) % 2 == 1) = true := by rw [beq_iff_eq]; omega
    clear hsl hS hodd
    go_enter Try.func12, Try.ntmps12
    go_wp2
    go_ret2
    exact decEnd_none HD.out ((Below.refl _ _).alloc (Nat.le_refl _) _)
  · have h2 : ((s.size : Int) % 2 == 1) = false := by rw [beq_eq_false_iff_ne]; omega
    have HS := Lib.hid hS
    have HO := Lib.hid hodd
    clear hsl hS hodd
    have HOWN := Lib.hid (World.ownsRow_lit (base := w.heap.size) (e := 5) (size := 1) w #[] 0 (Nat.le_refl _) (by unfold maxLen; omega) rfl)
    go_enter Try.func12, Try.ntmps12
    go_wp2
    go_loopw [4, 5] (fun v i wr => ∃ (j : Nat) (acc : List UInt8) (A : Option Addr) (c : Nat), i = .int .i64 j ∧ v = .slice A acc.length c ∧ Hid (wr.ownsRow w.heap.size 5 1 (.slice A acc.length c) acc.length (Lib.byteCells acc)) ∧
        Below w.heap.size w wr ∧ DecL S (S.drop j) acc ∧ j ≤ s.size ∧ acc.length ≤ j ∧ Hid (j % 2 = 0)) (fun _ i _ => s.size - (intOf i).toNat)
    case atStart =>
      exact ⟨0, [], _, _, rfl, rfl, HOWN, (Below.refl _ _).alloc (Nat.le_refl _) _, ⟨[], rfl, rfl, rfl⟩, by omega, by simp, rfl⟩
    case round =>
      obtain ⟨j, acc, A, c, rfl, rfl, hown, hb, hp, hj, haj, hev⟩ := hrel
      by_cases hlt : j < s.size
      · have h1 : j + 1 < s.size := by have := hev.out; have := HO.out; omega
        rw [HS.out, drop_two h1] at hp
        have hsz1 : s.size ≤ 9223372036854775807 := by omega
        go_wp2_with fail
        obtain ⟨ca, hca⟩ : ∃ ca : UInt8, s[j] = ca := ⟨_, rfl⟩
        obtain ⟨cb, hcb⟩ : ∃ cb : UInt8, s[j + 1] = cb := ⟨_, rfl⟩
        rw [hca, hcb] at hp
        have hw1 : IntKind.i64.wrap ((j : Int) + 1) = (j : Int) + 1 := IntWalk.i64_in _ (by omega)
        have hw2 : (0 : Int) ≤ (j : Int) + 1 := by omega
        have hw3 : ((j : Int) + 1).toNat = j + 1 := by omega
        have hw4 : (j : Int) + 1 < (s.size : Int) := by omega
        go_quiet ((go_at_call 20; exact quiet_left' (refValue_at _ _)))
        clear hw1 hw2 hw3 hw4 hca hcb
        have hbq := below_drewN hb nq
        have hownq : Hid ((wr.drewN nq).ownsRow w.heap.size 5 1 (.slice A acc.length c) acc.length (Lib.byteCells acc)) := hown
        clear hb hown
        generalize wr.drewN nq = wq at hbq hownq ⊢
        cases hx : hexVal ca with
        | none =>
          have HF := Lib.hid (hp.bad (.inl hx))
          have h3 : refVal ca < 0 := by rw [refVal_none hx]; omega
          clear hx hp
          go_wp2
          all_goals go_ret2
          all_goals exact decEnd_none (by rw [HS.out]; exact HF.out) hbq
        | some x =>
          cases hy : hexVal cb with
          | none =>
            have HF := Lib.hid (hp.bad (.inr hy))
            have h3 : 0 ≤ refVal ca := by rw [refVal_some hx]; omega
            have h4 : refVal cb < 0 := by rw [refVal_none hy]; omega
            clear hx hy hp
            go_wp2
            go_ret2
            exact decEnd_none (by rw [HS.out]; exact HF.out) hbq
          | some y =>
            have hx1 := hexVal_lt _ x hx
            have hy1 := hexVal_lt _ y hy
            have HN := Lib.hid (hp.next hx hy)
            rw [refVal_some hx, refVal_some hy]
            clear hx hy hp
            go_wp2_with (at_builtin; refine wpList_push wq _ Try.underlying22 infoByte rfl rfl _ _ rfl w.heap.size _ _ _ rfl hownq.out rfl rfl (by unfold maxLen; omega) (by omega) hbq.size ?_)
            intro A' c' w2 hown2 hb2
            rw [hexCell acc x y hx1 hy1] at hown2
            have HOWN2 := Lib.hid hown2
            clear hown2 hownq
            go_wp2
            go_roundw
            case rel =>
              refine ⟨j + 2, acc ++ [UInt8.ofNat (x * 16 + y)], A', c', by go_num, by simp, ?_, hbq.trans hb2, by rw [HS.out]; exact HN.out, by omega, by simp; omega, ?_⟩
              · have := HOWN2.out; rw [show acc.length + 1 = (acc ++ [UInt8.ofNat (x * 16 + y)]).length by simp] at this; exact this
              · have := hev.out; show (j + 2) % 2 = 0; omega
            case measure => simp [intOf]; omega
      · have HF : Hid (hexDec S = some acc) := by
          rw [List.drop_of_length_le (by rw [HS.out, ← size_list]; omega)] at hp
          exact hp.fin
        clear hp
        go_wp2
        go_ret2
        exact decEnd_some HF.out hb hown.out

end Go.Proofs.Ytifjpjbjlgeifaa
