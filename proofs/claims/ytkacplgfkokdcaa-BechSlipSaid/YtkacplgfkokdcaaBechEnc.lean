/-
  The walk over Encode of bech.
-/
import Derived.Test.YtkacplgfkokdcaaBechRef
import Derived.Test.YtkacplgfkokdcaaBechLaw1
import Derived.Test.YtkacplgfkokdcaaBuildStr
import Derived.Test.YtkacplgfkokdcaaShelf
set_option linter.unusedVariables false
namespace Go.Proofs.Ytkacplgfkokdcaa
open Go.RowKit

theorem mk6 (w : World) : (Instr.makeSlice 22 (.int .i64 6) (.int .i64 6)).run Try.prog w = .ok (.slice (some ⟨w.heap.size, 0, none⟩) 6 6) (w.alloc (.cells #[.int .u8 0, .int .u8 0, .int .u8 0, .int .u8 0, .int .u8 0, .int .u8 0] 5)) := by kernel_rfl

theorem strCells_list (s : ByteArray) : Lib.strCells s = Lib.byteCells s.data.toList := by
  simp [Lib.strCells, Lib.byteCells]

/-- What Encode has written of the data. -/
def encTo (h d : List UInt8) (k : Nat) : List UInt8 := h ++ [49] ++ lettersOf (d.take k)
theorem encTo_more {h d : List UInt8} {k m x : Nat} (hk : k < d.length) (hm : d[k].toNat = m) (hx : (letter m).toNat = x) : Lib.byteCells (encTo h d (k + 1)) = Lib.byteCells (encTo h d k) ++ [Value.int .u8 (x : Int)] := by
  unfold encTo
  rw [List.take_succ_eq_append_getElem hk, lettersOf_append, ← List.append_assoc, Lib.byteCells_append]
  congr 1
  simp [lettersOf, Lib.byteCells, hm, hx]
theorem encTo_length (h d : List UInt8) (k : Nat) : (encTo h d k).length ≤ h.length + 1 + d.length := by
  simp [encTo, lettersOf]
  omega
/-- .. and of the check. -/
def encSix (h d : List UInt8) (k : Nat) : List UInt8 := h ++ [49] ++ lettersOf d ++ (six (lackOf h d)).take k
theorem encSix_more {h d : List UInt8} {k v x : Nat} (hk : k < 6) (hv : (digits6 (lackOf h d))[k]? = some v) (hx : (letter v).toNat = x) : Lib.byteCells (encSix h d (k + 1)) = Lib.byteCells (encSix h d k) ++ [Value.int .u8 (x : Int)] := by
  unfold encSix
  have hl : k < (six (lackOf h d)).length := hk
  rw [List.take_succ_eq_append_getElem hl, ← List.append_assoc, Lib.byteCells_append]
  congr 1
  have e : (six (lackOf h d))[k]'hl = letter v := by
    have : (six (lackOf h d))[k]? = some (letter v) := by unfold six; rw [List.getElem?_map, hv]; rfl
    rw [List.getElem?_eq_getElem hl] at this
    exact Option.some.inj this
  rw [e]
  simp [Lib.byteCells, hx]
theorem encSix_full (h d : List UInt8) : encSix h d 6 = encW h d := rfl
theorem encSix_length (h d : List UInt8) (k : Nat) : (encSix h d k).length ≤ h.length + 1 + d.length + 6 := by
  have : (six (lackOf h d)).length = 6 := rfl
  simp [encSix, lettersOf]
  omega

theorem mask5 (L D : Nat) (hL : L < 1073741824) : bits .and .u32 ((L / D : Nat) : Int) 31 = ((L / D % 32 : Nat) : Int) := by
  have h1 : L / D < 4294967296 := Nat.lt_of_le_of_lt (Nat.div_le_self _ _) (by omega)
  have h := u32_and_nat (L / D) 31 h1 (by omega)
  have h2 : L / D &&& 31 = L / D % 32 := Nat.and_two_pow_sub_one_eq_mod (n := 5) (x := L / D)
  rw [h2] at h
  exact h

theorem enc_start {s : ByteArray} {d : List UInt8} : ([] : List Value) ++ Lib.strCells (s ++ ⟨#[49]⟩) = Lib.byteCells (encTo s.data.toList d 0) := by
  rw [strCells_list, List.nil_append]
  congr 1
  simp [encTo, lettersOf]

set_option maxHeartbeats 2000000 in
theorem encode_some (s : ByteArray) (A : Option Addr) (n c : Nat) (bs : List UInt8) (w : World) (h : RdB w w.heap.size A n bs) (hh : headOk s.data.toList = true) (hd : dataOk bs = true) :
    Calls Try.prog 19 #[.string s, .slice A n c] w fun e w' => e = .returned (.tuple #[.string ⟨(encW s.data.toList bs).toArray⟩, .int .i64 0]) ∧ Below w.heap.size w w' := by
  have HS := Lib.hid (size_list s)
  have HL := Lib.hid h.len
  have H := Lib.hid h
  have h20 : s.size ≤ 20 := by
    simp only [headOk, Bool.and_eq_true, decide_eq_true_eq] at hh
    rw [HS.out]; omega
  have h80 : n ≤ 80 := by
    simp only [dataOk, Bool.and_eq_true, decide_eq_true_eq] at hd
    rw [← HL.out]; omega
  have HSM : Hid (Small5 bs) := by
    simp only [dataOk, Bool.and_eq_true] at hd
    exact small_all.1 hd.1
  have HH := Lib.hid hh
  have HD := Lib.hid hd
  clear h hh hd
  go_enter Try.func19, Try.ntmps19
  go_wp2_with fail
  refine (isHead_any s _ (by omega)).mono ?_
  rintro e w1 ⟨rfl, hb1⟩
  rw [HH.out]
  go_wp2_with fail
  refine (isData_any A n c bs _ ((H.out.below hb1).more hb1.size) (by omega)).mono ?_
  rintro e w2 ⟨rfl, hb2⟩
  rw [HD.out]
  have hb02 : Below w.heap.size w w2 := hb1.trans (hb2.mono hb1.size)
  clear hb1 hb2
  go_wp2_with fail
  refine (headed_any s _ (by omega)).mono ?_
  rintro e w3 ⟨rfl, hb3⟩
  have hb03 : Below w.heap.size w w3 := hb02.trans (hb3.mono hb02.size)
  obtain ⟨y, hy⟩ : ∃ y, y = bMore 1 (headL s.data.toList) := ⟨_, rfl⟩
  have hy1 : y < 1073741824 := by rw [hy]; exact bMore_lt _ _ (by omega)
  have HY := Lib.hid hy
  rw [← hy]
  clear hb02 hb3 hy
  go_wp2_with fail
  refine (more_any y A n c bs _ hy1 ((H.out.below hb03).more hb03.size) (by omega)).mono ?_
  rintro e w4 ⟨rfl, hb4⟩
  have hb04 : Below w.heap.size w w4 := hb03.trans (hb4.mono hb03.size)
  obtain ⟨z, hz⟩ : ∃ z, z = bMore y bs := ⟨_, rfl⟩
  have hz1 : z < 1073741824 := by rw [hz]; exact bMore_lt _ _ hy1
  have HZ := Lib.hid hz
  rw [← hz]
  clear hb03 hb4 hz
  have hmk := mk6 w4
  go_wp2_with fail
  refine (more_any z _ 6 6 nought6 _ hz1 (rdb_lit w4 #[.int .u8 0, .int .u8 0, .int .u8 0, .int .u8 0, .int .u8 0, .int .u8 0] nought6 6 rfl rfl (by unfold maxLen; omega)) (by omega)).mono ?_
  rintro e w5 ⟨rfl, hb5⟩
  have hb05 : Below w.heap.size w w5 := hb04.trans (((below_lit w4 _).trans (hb5.mono (by simp))).mono hb04.size)
  obtain ⟨f, hf⟩ : ∃ f, f = bMore z nought6 := ⟨_, rfl⟩
  have hf1 : f < 1073741824 := by rw [hf]; exact bMore_lt _ _ hz1
  obtain ⟨L, hL⟩ : ∃ L, L = f ^^^ 734539939 := ⟨_, rfl⟩
  have hL1 : L < 1073741824 := by rw [hL]; exact xor_lt30 hf1 (by omega)
  have HLK : Hid (L = lackOf s.data.toList bs) := by
    show L = _
    rw [hL, hf, HZ.out, HY.out]
    unfold lackOf
    rw [bMore_append, bMore_append]
  have hxor : bits .xor .u32 (f : Int) 734539939 = (L : Int) := by
    have := u32_xor_nat f 734539939 (by omega) (by omega)
    rw [hL]
    exact this
  rw [← hf]
  clear hmk hb04 hb5 hf hL
  have HI0 := Lib.hid (Lib.fresh_isBuilder 56 5 w5)
  have hbb : Below w.heap.size w (w5.alloc (.cells #[.pointer none, .slice none 0 0] 56)) := hb05.alloc hb05.size _
  go_wp2_with fail
  refine (writeString_any _ _ [] _ _ HI0.out (by rw [ByteArray.size_append]; show 0 + (s.size + 1) ≤ _; omega) (by simp)).mono ?_
  rintro e w6 ⟨rfl, hI6, hb6⟩
  rw [enc_start (d := bs)] at hI6
  have HI6 := Lib.hid hI6
  have hb06 : Below w5.heap.size w5 w6 := ((Below.refl _ _).alloc (Nat.le_refl _) _).trans hb6
  clear hI6 hb6 HI0 hbb
  go_wp2
  go_loopw [33] (fun i wr => ∃ k : Nat, k ≤ n ∧ i = .int .i64 k ∧ Hid (Lib.IsBuilder 56 5 w5.heap.size w5.heap.size (Lib.byteCells (encTo s.data.toList bs k)) wr) ∧ Below w5.heap.size w5 wr) (fun i _ => n - (intOf i).toNat)
  case atStart => exact ⟨0, Nat.zero_le _, rfl, HI6, hb06⟩
  case round =>
    obtain ⟨k, hk, rfl, hI, hb⟩ := hrel
    have hlen := encTo_length s.data.toList bs k
    rw [← HS.out, HL.out] at hlen
    by_cases hlt : k < n
    · have hkl : k < bs.length := by rw [HL.out]; exact hlt
      obtain ⟨ad, rfl, hadlt, hcell⟩ := (H.out.below (hb05.trans (hb.mono hb05.size))).at_ hlt
      have hm1 := HSM.out _ (List.getElem_mem hkl)
      obtain ⟨m, hm⟩ : ∃ m : Nat, (bs[k]'hkl).toNat = m := ⟨_, rfl⟩
      rw [hm] at hcell hm1
      have hm32 : (m : Int) < 32 := by omega
      obtain ⟨x, hx⟩ : ∃ x : Nat, ((⟨#[113, 112, 122, 114, 121, 57, 120, 56, 103, 102, 50, 116, 118, 100, 119, 48, 115, 51, 106, 110, 53, 52, 107, 104, 99, 101, 54, 109, 117, 97, 55, 108]⟩ : ByteArray)[m]'hm1).toNat = x := ⟨_, rfl⟩
      have HX : Hid ((letter m).toNat = x) := by
        show (letter m).toNat = x
        rw [← hx, ← letters_at m hm1]
      have HN := Lib.hid (encTo_more (h := s.data.toList) hkl hm HX.out)
      clear hm
      go_wp2_with fail
      refine (writeByte_any _ _ _ _ _ hI.out (by rw [Lib.byteCells_length]; omega) hb.size).mono ?_
      rintro e w7 ⟨rfl, hI7, hb7⟩
      rw [← HN.out] at hI7
      have HI7 := Lib.hid hI7
      clear hI7 hI
      go_wp2
      go_roundw
      case rel => exact ⟨k + 1, by omega, by go_num, HI7, hb.trans hb7⟩
      case measure => simp [intOf]; omega
    · have HI8 : Hid (Lib.IsBuilder 56 5 w5.heap.size w5.heap.size (Lib.byteCells (encSix s.data.toList bs 0)) wr) := by
        have := hI.out
        have e : encTo s.data.toList bs k = encSix s.data.toList bs 0 := by
          unfold encTo encSix
          rw [List.take_of_length_le (by rw [HL.out]; omega)]
          simp
        rwa [e] at this
      clear hI
      go_wp2
      go_loopw [41] (fun i wr => ∃ k : Nat, k ≤ 6 ∧ i = .int .i64 k ∧ Hid (Lib.IsBuilder 56 5 w5.heap.size w5.heap.size (Lib.byteCells (encSix s.data.toList bs k)) wr) ∧ Below w5.heap.size w5 wr) (fun i _ => 6 - (intOf i).toNat)
      case atStart => exact ⟨0, by omega, rfl, HI8, hb⟩
      case round =>
      clear HI8 hb hlen hk hlt
      obtain ⟨k, hk, rfl, hI, hb⟩ := hrel
      have hlen := encSix_length s.data.toList bs k
      rw [← HS.out, HL.out] at hlen
      rcases (show k = 0 ∨ k = 1 ∨ k = 2 ∨ k = 3 ∨ k = 4 ∨ k = 5 ∨ k = 6 by omega) with rfl | rfl | rfl | rfl | rfl | rfl | rfl
      · obtain ⟨v, hv⟩ : ∃ v : Nat, L / 33554432 % 32 = v := ⟨_, rfl⟩
        have hv32 : v < 32 := by rw [← hv]; omega
        have hmask : bits .and .u32 ((L : Int) / 33554432) 31 = (v : Int) := by
          have := mask5 L 33554432 hL1
          rw [hv] at this
          rw [← this]
          rfl
        have hv32' : (v : Int) < 32 := by omega
        obtain ⟨x, hx⟩ : ∃ x : Nat, ((⟨#[113, 112, 122, 114, 121, 57, 120, 56, 103, 102, 50, 116, 118, 100, 119, 48, 115, 51, 106, 110, 53, 52, 107, 104, 99, 101, 54, 109, 117, 97, 55, 108]⟩ : ByteArray)[v]'hv32).toNat = x := ⟨_, rfl⟩
        have HX : Hid ((letter v).toNat = x) := by
          show (letter v).toNat = x
          rw [← hx, ← letters_at v hv32]
        have HN := Lib.hid (encSix_more (h := s.data.toList) (d := bs) (k := 0) (v := v) (x := x) (by omega) (by rw [← HLK.out]; show some _ = some v; rw [← hv]) HX.out)
        clear hv
        go_wp2_with fail
        refine (writeByte_any _ _ _ _ _ hI.out (by rw [Lib.byteCells_length]; omega) hb.size).mono ?_
        rintro e w7 ⟨rfl, hI7, hb7⟩
        rw [← HN.out] at hI7
        have HI7 := Lib.hid hI7
        clear hI7 hI
        go_wp2
        go_roundw
        case rel => exact ⟨1, by omega, by simp, HI7, hb.trans hb7⟩
        case measure => simp [intOf]
      · obtain ⟨v, hv⟩ : ∃ v : Nat, L / 1048576 % 32 = v := ⟨_, rfl⟩
        have hv32 : v < 32 := by rw [← hv]; omega
        have hmask : bits .and .u32 ((L : Int) / 1048576) 31 = (v : Int) := by
          have := mask5 L 1048576 hL1
          rw [hv] at this
          rw [← this]
          rfl
        have hv32' : (v : Int) < 32 := by omega
        obtain ⟨x, hx⟩ : ∃ x : Nat, ((⟨#[113, 112, 122, 114, 121, 57, 120, 56, 103, 102, 50, 116, 118, 100, 119, 48, 115, 51, 106, 110, 53, 52, 107, 104, 99, 101, 54, 109, 117, 97, 55, 108]⟩ : ByteArray)[v]'hv32).toNat = x := ⟨_, rfl⟩
        have HX : Hid ((letter v).toNat = x) := by
          show (letter v).toNat = x
          rw [← hx, ← letters_at v hv32]
        have HN := Lib.hid (encSix_more (h := s.data.toList) (d := bs) (k := 1) (v := v) (x := x) (by omega) (by rw [← HLK.out]; show some _ = some v; rw [← hv]) HX.out)
        clear hv
        go_wp2_with fail
        refine (writeByte_any _ _ _ _ _ hI.out (by rw [Lib.byteCells_length]; omega) hb.size).mono ?_
        rintro e w7 ⟨rfl, hI7, hb7⟩
        rw [← HN.out] at hI7
        have HI7 := Lib.hid hI7
        clear hI7 hI
        go_wp2
        go_roundw
        case rel => exact ⟨2, by omega, by simp, HI7, hb.trans hb7⟩
        case measure => simp [intOf]
      · obtain ⟨v, hv⟩ : ∃ v : Nat, L / 32768 % 32 = v := ⟨_, rfl⟩
        have hv32 : v < 32 := by rw [← hv]; omega
        have hmask : bits .and .u32 ((L : Int) / 32768) 31 = (v : Int) := by
          have := mask5 L 32768 hL1
          rw [hv] at this
          rw [← this]
          rfl
        have hv32' : (v : Int) < 32 := by omega
        obtain ⟨x, hx⟩ : ∃ x : Nat, ((⟨#[113, 112, 122, 114, 121, 57, 120, 56, 103, 102, 50, 116, 118, 100, 119, 48, 115, 51, 106, 110, 53, 52, 107, 104, 99, 101, 54, 109, 117, 97, 55, 108]⟩ : ByteArray)[v]'hv32).toNat = x := ⟨_, rfl⟩
        have HX : Hid ((letter v).toNat = x) := by
          show (letter v).toNat = x
          rw [← hx, ← letters_at v hv32]
        have HN := Lib.hid (encSix_more (h := s.data.toList) (d := bs) (k := 2) (v := v) (x := x) (by omega) (by rw [← HLK.out]; show some _ = some v; rw [← hv]) HX.out)
        clear hv
        go_wp2_with fail
        refine (writeByte_any _ _ _ _ _ hI.out (by rw [Lib.byteCells_length]; omega) hb.size).mono ?_
        rintro e w7 ⟨rfl, hI7, hb7⟩
        rw [← HN.out] at hI7
        have HI7 := Lib.hid hI7
        clear hI7 hI
        go_wp2
        go_roundw
        case rel => exact ⟨3, by omega, by simp, HI7, hb.trans hb7⟩
        case measure => simp [intOf]
      · obtain ⟨v, hv⟩ : ∃ v : Nat, L / 1024 % 32 = v := ⟨_, rfl⟩
        have hv32 : v < 32 := by rw [← hv]; omega
        have hmask : bits .and .u32 ((L : Int) / 1024) 31 = (v : Int) := by
          have := mask5 L 1024 hL1
          rw [hv] at this
          rw [← this]
          rfl
        have hv32' : (v : Int) < 32 := by omega
        obtain ⟨x, hx⟩ : ∃ x : Nat, ((⟨#[113, 112, 122, 114, 121, 57, 120, 56, 103, 102, 50, 116, 118, 100, 119, 48, 115, 51, 106, 110, 53, 52, 107, 104, 99, 101, 54, 109, 117, 97, 55, 108]⟩ : ByteArray)[v]'hv32).toNat = x := ⟨_, rfl⟩
        have HX : Hid ((letter v).toNat = x) := by
          show (letter v).toNat = x
          rw [← hx, ← letters_at v hv32]
        have HN := Lib.hid (encSix_more (h := s.data.toList) (d := bs) (k := 3) (v := v) (x := x) (by omega) (by rw [← HLK.out]; show some _ = some v; rw [← hv]) HX.out)
        clear hv
        go_wp2_with fail
        refine (writeByte_any _ _ _ _ _ hI.out (by rw [Lib.byteCells_length]; omega) hb.size).mono ?_
        rintro e w7 ⟨rfl, hI7, hb7⟩
        rw [← HN.out] at hI7
        have HI7 := Lib.hid hI7
        clear hI7 hI
        go_wp2
        go_roundw
        case rel => exact ⟨4, by omega, by simp, HI7, hb.trans hb7⟩
        case measure => simp [intOf]
      · obtain ⟨v, hv⟩ : ∃ v : Nat, L / 32 % 32 = v := ⟨_, rfl⟩
        have hv32 : v < 32 := by rw [← hv]; omega
        have hmask : bits .and .u32 ((L : Int) / 32) 31 = (v : Int) := by
          have := mask5 L 32 hL1
          rw [hv] at this
          rw [← this]
          rfl
        have hv32' : (v : Int) < 32 := by omega
        obtain ⟨x, hx⟩ : ∃ x : Nat, ((⟨#[113, 112, 122, 114, 121, 57, 120, 56, 103, 102, 50, 116, 118, 100, 119, 48, 115, 51, 106, 110, 53, 52, 107, 104, 99, 101, 54, 109, 117, 97, 55, 108]⟩ : ByteArray)[v]'hv32).toNat = x := ⟨_, rfl⟩
        have HX : Hid ((letter v).toNat = x) := by
          show (letter v).toNat = x
          rw [← hx, ← letters_at v hv32]
        have HN := Lib.hid (encSix_more (h := s.data.toList) (d := bs) (k := 4) (v := v) (x := x) (by omega) (by rw [← HLK.out]; show some _ = some v; rw [← hv]) HX.out)
        clear hv
        go_wp2_with fail
        refine (writeByte_any _ _ _ _ _ hI.out (by rw [Lib.byteCells_length]; omega) hb.size).mono ?_
        rintro e w7 ⟨rfl, hI7, hb7⟩
        rw [← HN.out] at hI7
        have HI7 := Lib.hid hI7
        clear hI7 hI
        go_wp2
        go_roundw
        case rel => exact ⟨5, by omega, by simp, HI7, hb.trans hb7⟩
        case measure => simp [intOf]
      · obtain ⟨v, hv⟩ : ∃ v : Nat, L / 1 % 32 = v := ⟨_, rfl⟩
        have hv32 : v < 32 := by rw [← hv]; omega
        have hmask : bits .and .u32 ((L : Int)) 31 = (v : Int) := by
          have := mask5 L 1 hL1
          rw [hv] at this
          rw [← this]
          rw [Nat.div_one]
        have hv32' : (v : Int) < 32 := by omega
        obtain ⟨x, hx⟩ : ∃ x : Nat, ((⟨#[113, 112, 122, 114, 121, 57, 120, 56, 103, 102, 50, 116, 118, 100, 119, 48, 115, 51, 106, 110, 53, 52, 107, 104, 99, 101, 54, 109, 117, 97, 55, 108]⟩ : ByteArray)[v]'hv32).toNat = x := ⟨_, rfl⟩
        have HX : Hid ((letter v).toNat = x) := by
          show (letter v).toNat = x
          rw [← hx, ← letters_at v hv32]
        have HN := Lib.hid (encSix_more (h := s.data.toList) (d := bs) (k := 5) (v := v) (x := x) (by omega) (by rw [← HLK.out]; show some _ = some v; rw [← hv]; rw [Nat.div_one]) HX.out)
        clear hv
        go_wp2_with fail
        refine (writeByte_any _ _ _ _ _ hI.out (by rw [Lib.byteCells_length]; omega) hb.size).mono ?_
        rintro e w7 ⟨rfl, hI7, hb7⟩
        rw [← HN.out] at hI7
        have HI7 := Lib.hid hI7
        clear hI7 hI
        go_wp2
        go_roundw
        case rel => exact ⟨6, by omega, by simp, HI7, hb.trans hb7⟩
        case measure => simp [intOf]
      · rw [encSix_full] at hI
        have HI9 := hI
        clear hI
        go_wp2_with fail
        refine (Try.Builder_String_any _ _ _ _ HI9.out hb.size).mono ?_
        rintro e w9 ⟨rfl, hb9⟩
        go_wp2
        go_ret2
        exact ⟨rfl, hb05.trans ((hb.trans hb9).mono hb05.size)⟩

end Go.Proofs.Ytkacplgfkokdcaa
