/-
  The walks over bits.put, bits.take and cut of bech: a row of numbers of some bits as one of others.
-/
import Derived.Test.YtkacplgfkokdcaaBechStep
import Derived.Test.YtkacplgfkokdcaaBitsPlain
set_option linter.unusedVariables false
namespace Go.Proofs.Ytkacplgfkokdcaa
open Go.RowKit

theorem infoByte : (Try.prog.info? 5).map (fun i => (i.zero, i.size, i.bytes)) = some (some (.int .u8 0), 1, 1) := by kernel_rfl

theorem put5 (held v : Nat) (hh : held < 65536) (hv : v < 32) : bits .or .u32 (bits .and .u32 ((held : Int) * 32) 65535) (v : Int) = ((putHeld held v 5 : Nat) : Int) := by
  have h1 := u32_and_nat (held * 32) 65535 (by omega) (by omega)
  rw [nat_mask16, show ((held * 32 : Nat) : Int) = (held : Int) * 32 by omega, show ((65535 : Nat) : Int) = 65535 by rfl] at h1
  rw [h1, u32_or_nat _ _ (by omega) (by omega), nat_join 5 _ _ (by omega) (by omega)]
  unfold putHeld
  omega
theorem put8 (held v : Nat) (hh : held < 65536) (hv : v < 256) : bits .or .u32 (bits .and .u32 ((held : Int) * 256) 65535) (v : Int) = ((putHeld held v 8 : Nat) : Int) := by
  have h1 := u32_and_nat (held * 256) 65535 (by omega) (by omega)
  rw [nat_mask16, show ((held * 256 : Nat) : Int) = (held : Int) * 256 by omega, show ((65535 : Nat) : Int) = 65535 by rfl] at h1
  rw [h1, u32_or_nat _ _ (by omega) (by omega), nat_join 8 _ _ (by omega) (by omega)]
  unfold putHeld
  omega

theorem two_blk {w : World} {b : Nat} {t : TypeId} {x y x' y' : Value} (h : Blk w b t #[x, y]) : Blk ((w.setCell ⟨b, 0, none⟩ x').setCell ⟨b, 1, none⟩ y') b t #[x', y'] := by
  have := (h.set_ 0 x').set_ 1 y'
  simpa using this
theorem one_blk {w : World} {b : Nat} {t : TypeId} {x y y' : Value} (h : Blk w b t #[x, y]) : Blk (w.setCell ⟨b, 1, none⟩ y') b t #[x, y'] := by
  have := h.set_ 1 y'
  simpa using this
theorem two_grown (w : World) (b : Nat) (x y : Value) : w.grownBy ((w.setCell ⟨b, 0, none⟩ x).setCell ⟨b, 1, none⟩ y) (some b) := by
  have h1 : w.grownBy w (some b) := World.grownBy.refl w _
  have h2 : w.grownBy (w.setCell ⟨b, 0, none⟩ x) (some b) := only_setCell h1 (p := ⟨b, 0, none⟩) (Or.inl rfl) x
  exact only_setCell h2 (p := ⟨b, 1, none⟩) (Or.inl rfl) y
theorem one_grown (w : World) (b : Nat) (y : Value) : w.grownBy (w.setCell ⟨b, 1, none⟩ y) (some b) := by
  have h1 : w.grownBy w (some b) := World.grownBy.refl w _
  exact only_setCell h1 (p := ⟨b, 1, none⟩) (Or.inl rfl) y

theorem takeMask (held q n : Nat) (hh : held < 65536) (hn : n = 5 ∨ n = 8) : bits .and .u32 ((held : Int) / 2 ^ q) ((2 : Int) ^ n - 1) = ((held / 2 ^ q % 2 ^ n : Nat) : Int) := by
  have hle : held / 2 ^ q ≤ held := Nat.div_le_self _ _
  have hp : 2 ^ n ≤ 2 ^ 8 := Nat.pow_le_pow_right (by omega) (by omega)
  have h := u32_and_nat (held / 2 ^ q) (2 ^ n - 1) (by omega) (by omega)
  rw [Nat.and_two_pow_sub_one_eq_mod] at h
  rw [← h]
  rcases hn with rfl | rfl <;> congr 1

set_option maxHeartbeats 400000 in
theorem put_any (b : Nat) (held many v n : Nat) (w : World) (hB : Blk w b 49 #[.int .u32 (held : Int), .int .u64 (many : Int)]) (hh : held < 65536) (hm : many < 100) (hv : v < 2 ^ n) (hn : n = 5 ∨ n = 8) :
    Calls Try.prog 40 #[.pointer (some ⟨b, 0, none⟩), .int .u8 (v : Int), .int .u64 (n : Int)] w fun e w' => e = .returned (.tuple #[]) ∧
      Blk w' b 49 #[.int .u32 (putHeld held v n : Nat), .int .u64 ((many + n : Nat) : Int)] ∧ w.grownBy w' (some b) := by
  have c0 : w.cell? ⟨b, 0, none⟩ = some (.int .u32 (held : Int)) := hB.cell 0
  have c1 : w.cell? ⟨b, 1, none⟩ = some (.int .u64 (many : Int)) := hB.cell 1
  have f0 := hB.frozen 0
  have f1 := hB.frozen 1
  rcases hn with rfl | rfl
  · have hv' : v < 32 := hv
    have ho := put5 held v hh hv'
    have HT := Lib.hid (two_blk hB (x' := .int .u32 (putHeld held v 5 : Nat)) (y' := .int .u64 ((many : Int) + 5)))
    clear hB hv
    go_enter Try.func40, Try.ntmps40
    go_wp2
    go_end0
    exact ⟨rfl, HT.out, two_grown _ _ _ _⟩
  · have hv' : v < 256 := hv
    have ho := put8 held v hh hv'
    have HT := Lib.hid (two_blk hB (x' := .int .u32 (putHeld held v 8 : Nat)) (y' := .int .u64 ((many : Int) + 8)))
    clear hB hv
    go_enter Try.func40, Try.ntmps40
    go_wp2
    go_end0
    exact ⟨rfl, HT.out, two_grown _ _ _ _⟩

set_option maxHeartbeats 400000 in
theorem take_no (b : Nat) (held many n : Nat) (w : World) (hB : Blk w b 49 #[.int .u32 (held : Int), .int .u64 (many : Int)]) (hm : many < n) (hn : n ≤ 8) :
    Calls Try.prog 41 #[.pointer (some ⟨b, 0, none⟩), .int .u64 (n : Int)] w fun e w' => e = .returned (.tuple #[.int .u8 0, .bool false]) ∧ w = w' := by
  have c1 : w.cell? ⟨b, 1, none⟩ = some (.int .u64 (many : Int)) := hB.cell 1
  have hm' : (many : Int) < (n : Int) := by omega
  clear hB
  go_enter Try.func41, Try.ntmps41
  go_wp2
  go_ret2
  exact ⟨rfl, rfl⟩

set_option maxHeartbeats 400000 in
theorem take_yes (b : Nat) (held many n : Nat) (w : World) (hB : Blk w b 49 #[.int .u32 (held : Int), .int .u64 (many : Int)]) (hh : held < 65536) (hm : n ≤ many) (hmm : many ≤ 16) (hn : n = 5 ∨ n = 8) :
    Calls Try.prog 41 #[.pointer (some ⟨b, 0, none⟩), .int .u64 (n : Int)] w fun e w' => e = .returned (.tuple #[.int .u8 ((held / 2 ^ (many - n) % 2 ^ n : Nat) : Int), .bool true]) ∧
      Blk w' b 49 #[.int .u32 (held : Int), .int .u64 ((many - n : Nat) : Int)] ∧ w.grownBy w' (some b) := by
  obtain ⟨q, rfl⟩ : ∃ q, many = n + q := ⟨many - n, by omega⟩
  rw [show n + q - n = q by omega]
  have c0 : w.cell? ⟨b, 0, none⟩ = some (.int .u32 (held : Int)) := hB.cell 0
  have c1 : w.cell? ⟨b, 1, none⟩ = some (.int .u64 ((n + q : Nat) : Int)) := hB.cell 1
  have f1 := hB.frozen 1
  rcases hn with rfl | rfl
  · have d0 : (w.setCell ⟨b, 1, none⟩ (.int .u64 (q : Int))).cell? ⟨b, 0, none⟩ = some (.int .u32 (held : Int)) := (hB.set_ 1 _).cell 0
    have d1 : (w.setCell ⟨b, 1, none⟩ (.int .u64 (q : Int))).cell? ⟨b, 1, none⟩ = some (.int .u64 (q : Int)) := (hB.set_ 1 _).cell 1
    have hb : bits .and .u32 ((held : Int) / 2 ^ q) 31 = ((held / 2 ^ q % 2 ^ 5 : Nat) : Int) := takeMask held q 5 hh (.inl rfl)
    have HT := Lib.hid (one_blk hB (y' := .int .u64 (q : Int)))
    clear hB
    go_enter Try.func41, Try.ntmps41
    go_wp2_with fail
    go_quiet (fail)
    go_wp2_with fail
    go_ret2
    have e : (5 + (q : Int) - 5) = (q : Int) := by omega
    rw [e]
    exact ⟨ret2_int (by simp), HT.out.drewN _, only_drewN (one_grown _ _ _) _⟩
  · have d0 : (w.setCell ⟨b, 1, none⟩ (.int .u64 (q : Int))).cell? ⟨b, 0, none⟩ = some (.int .u32 (held : Int)) := (hB.set_ 1 _).cell 0
    have d1 : (w.setCell ⟨b, 1, none⟩ (.int .u64 (q : Int))).cell? ⟨b, 1, none⟩ = some (.int .u64 (q : Int)) := (hB.set_ 1 _).cell 1
    have hb : bits .and .u32 ((held : Int) / 2 ^ q) 255 = ((held / 2 ^ q % 2 ^ 8 : Nat) : Int) := takeMask held q 8 hh (.inr rfl)
    have HT := Lib.hid (one_blk hB (y' := .int .u64 (q : Int)))
    clear hB
    go_enter Try.func41, Try.ntmps41
    go_wp2_with fail
    go_quiet (fail)
    go_wp2_with fail
    go_ret2
    have e : (8 + (q : Int) - 8) = (q : Int) := by omega
    rw [e]
    exact ⟨ret2_int (by simp), HT.out.drewN _, only_drewN (one_grown _ _ _) _⟩

/-- How many bits the block b holds. -/
def manyOf (b : Nat) (w : World) : Nat := match w.cell? ⟨b, 1, none⟩ with | some v => (intOf v).toNat | none => 0

theorem manyOf_blk {b : Nat} {w : World} {t : TypeId} {x : Value} {m : Nat} (h : Blk w b t #[x, .int .u64 (m : Int)]) : manyOf b w = m := by
  unfold manyOf
  rw [h.cell 1]
  simp [intOf]

/-- The state of cut: j numbers are out, 'many' bits are held. -/
structure CutAt (f : Nat → Nat) (to B : Nat) (w0 : World) (j many used : Nat) (v : Value) (w : World) : Prop where
  own : ∃ A c, v = .slice A j c ∧ w.ownsRow B 5 1 (.slice A j c) j (Lib.byteCells (packL f to j))
  blk : ∃ held : Nat, Blk w B 49 #[.int .u32 (held : Int), .int .u64 (many : Int)] ∧ held < 65536 ∧ held % 2 ^ many = num f (j * to) many
  below : Below B w0 w
  sum : j * to + many = used

theorem ownsRow_kept {w w1 : World} {B j c : Nat} {A : Option Addr} {cs : Array Value} {xs : List Value} (hown : w.ownsRow B 5 1 (.slice A j c) j xs) (hblk : Blk w B 49 cs) (hg : w.grownBy w1 (some B)) : w1.ownsRow B 5 1 (.slice A j c) j xs :=
  hown.kept hg (Or.inr (own_blk_ne hown hblk (by decide)))

theorem cut_put {bs : List UInt8} {fr to B j many k held m c : Nat} {A : Option Addr} {w0 w w1 : World} (hfr : fr = 5 ∨ fr = 8) (hown : w.ownsRow B 5 1 (.slice A j c) j (Lib.byteCells (packL (bitAt fr bs) to j)))
    (hblk : Blk w B 49 #[.int .u32 (held : Int), .int .u64 (many : Int)]) (hval : held % 2 ^ many = num (bitAt fr bs) (j * to) many) (hbel : Below B w0 w) (hsum : j * to + many = k * fr) (hk : k < bs.length) (hm : bs[k].toNat = m) (hmlt : m < 2 ^ fr)
    (hmany : many < 8) (hblk1 : Blk w1 B 49 #[.int .u32 (putHeld held m fr : Nat), .int .u64 ((many + fr : Nat) : Int)]) (hg : w.grownBy w1 (some B)) (hB : B < w.heap.size) :
    CutAt (bitAt fr bs) to B w0 j (many + fr) ((k + 1) * fr) (.slice A j c) w1 := by
  refine ⟨⟨A, c, rfl, ownsRow_kept hown hblk hg⟩, ⟨_, hblk1, putHeld_lt (by omega) hmlt, ?_⟩, hbel.grown hg (by omega) (fun x hx => by injection hx with hx; omega), by rw [Nat.add_mul]; omega⟩
  rw [putHeld_mod (by omega) hmlt, hval, num_snoc_item (by omega) hk (by rw [hm]; exact hmlt) hsum, hm]

theorem cut_take {f : Nat → Nat} (hf : ∀ i, f i ≤ 1) {to B j q used held c' : Nat} {A' : Option Addr} {row : Option Nat} {w0 w w1 w2 : World} (hto : to ≤ 8)
    (hblk : Blk w B 49 #[.int .u32 (held : Int), .int .u64 ((to + q : Nat) : Int)]) (hh : held < 65536) (hval : held % 2 ^ (to + q) = num f (j * to) (to + q)) (hbel : Below B w0 w) (hsum : j * to + (to + q) = used)
    (hblk1 : Blk w1 B 49 #[.int .u32 (held : Int), .int .u64 (q : Int)]) (hg : w.grownBy w1 (some B)) (hB : B < w.heap.size)
    (hown2 : w2.ownsRow B 5 1 (.slice A' (j + 1) c') (j + 1) (Lib.byteCells (packL f to j) ++ [.int .u8 ((held / 2 ^ q % 2 ^ to : Nat) : Int)])) (hg2 : w1.grownBy w2 row) (hne : row ≠ some B) (hrow : ∀ x, row = some x → B ≤ x) :
    CutAt f to B w0 (j + 1) q used (.slice A' (j + 1) c') w2 := by
  obtain ⟨e1, e2⟩ := take_val hf hval
  have hlt := num_lt hf (j * to) to
  have h2 : 2 ^ to ≤ 2 ^ 8 := Nat.pow_le_pow_right (by omega) hto
  refine ⟨⟨A', c', rfl, ?_⟩, ⟨held, hblk1.grown hg2 (fun e => hne e.symm), hh, ?_⟩, (hbel.grown hg (by omega) (fun x hx => by injection hx with hx; omega)).grown hg2 (by have := hg.size; omega) hrow, by rw [Nat.add_mul, Nat.one_mul]; omega⟩
  · rw [packL_succ, Lib.byteCells_append]
    have : Lib.byteCells [UInt8.ofNat (num f (j * to) to)] = [.int .u8 ((held / 2 ^ q % 2 ^ to : Nat) : Int)] := by
      rw [e1]
      simp [Lib.byteCells]
      omega
    rw [this]
    exact hown2
  · rw [Nat.add_mul, Nat.one_mul]
    exact e2

set_option maxHeartbeats 1000000 in
theorem cut_any (A : Option Addr) (n cap fr to : Nat) (bs : List UInt8) (w : World) (h : RdB w w.heap.size A n bs) (hn : n ≤ 1000000) (hft : fr = 8 ∧ to = 5 ∨ fr = 5 ∧ to = 8) (hbs : ∀ u ∈ bs, u.toNat < 2 ^ fr) :
    Calls Try.prog 26 #[.slice A n cap, .int .u64 (fr : Int), .int .u64 (to : Int)] w fun e w' => ∃ v, e = .returned (.tuple #[v, .pointer (some ⟨w.heap.size, 0, none⟩)]) ∧
      CutAt (bitAt fr bs) to w.heap.size w (n * fr / to) (n * fr % to) (n * fr) v w' := by
  have H := Lib.hid h
  have HBS := Lib.hid hbs
  clear h hbs
  have hfr : fr = 5 ∨ fr = 8 := by omega
  have hto : to = 5 ∨ to = 8 := by omega
  have HF := Lib.hid (bitAt_le fr bs)
  obtain ⟨f, hf⟩ : ∃ f, f = bitAt fr bs := ⟨_, rfl⟩
  rw [← hf] at HF ⊢
  have HFE := Lib.hid hf
  clear hf
  have h0 : Hid (CutAt f to w.heap.size w 0 0 0 (.slice none 0 0) (w.alloc (.cells #[.int .u32 0, .int .u64 0] 49))) :=
    ⟨⟨none, 0, rfl, World.ownsRow_nil _ _ _ _⟩, ⟨0, Blk.new w 49 _, by omega, by simp [num]⟩, (Below.refl _ _).alloc (Nat.le_refl _) _, by omega⟩
  go_enter Try.func26, Try.ntmps26
  go_wp2
  go_loopw [9, 18] (fun v i wr => ∃ k : Nat, k ≤ n ∧ i = .int .i64 k ∧ Hid (∃ j many, CutAt f to w.heap.size w j many (k * fr) v wr ∧ many < to)) (fun _ i _ => n - (intOf i).toNat)
  case atStart => exact ⟨0, by omega, rfl, 0, 0, by rw [Nat.zero_mul]; exact h0.out, by omega⟩
  case round =>
    obtain ⟨k, hk, rfl, hC⟩ := hrel
    by_cases hlt : k < n
    · obtain ⟨j, many, hC, hmt⟩ := hC
      have hj0 := hC.sum
      have hbel := hC.below
      obtain ⟨A1, c1, rfl, hown⟩ := hC.own
      obtain ⟨held, hblk, hh, hval⟩ := hC.blk
      obtain ⟨ad, rfl, hadlt, hcell⟩ := (RdB.below H.out hbel).at_ hlt
      have hkl : k < bs.length := by rw [H.out.len]; exact hlt
      obtain ⟨m, hm⟩ : ∃ m : Nat, (bs[k]'hkl).toNat = m := ⟨_, rfl⟩
      have hmlt : m < 2 ^ fr := by rw [← hm]; exact HBS.out _ (List.getElem_mem _)
      rw [hm] at hcell
      have HM := Lib.hid hm
      have HOWN := Lib.hid hown
      have HBLK := Lib.hid hblk
      have HVAL := Lib.hid hval
      have HJ := Lib.hid hj0
      have HMLT := Lib.hid hmlt
      clear hC hm hown hblk hval hj0 hmlt
      go_wp2_with fail
      refine (put_any w.heap.size held many m fr wr HBLK.out hh (by omega) HMLT.out hfr).mono ?_
      rintro e w1 ⟨rfl, hblk1, hg1⟩
      have HC1 : Hid (∃ j' many', CutAt f to w.heap.size w j' many' ((k + 1) * fr) (.slice A1 j c1) w1 ∧ many' ≤ 16) := by
        refine ⟨j, many + fr, ?_, by omega⟩
        have e := HFE.out
        subst e
        exact cut_put hfr HOWN.out HBLK.out HVAL.out hbel HJ.out hkl HM.out HMLT.out (by omega) hblk1 hg1 HBLK.out.lt
      clear hblk1 hg1 HOWN HBLK HVAL HJ HM HMLT hcell hbel hh
      go_wp2
      go_loopw [9] (fun v wi => Hid (∃ j many, CutAt f to w.heap.size w j many ((k + 1) * fr) v wi ∧ many ≤ 16)) (fun _ wi => manyOf w.heap.size wi)
      case atStart => exact HC1
      case round =>
        obtain ⟨j2, many2, hC, hm16⟩ := hrel
        have hj0 := hC.sum
        have hbel := hC.below
        obtain ⟨A2, c2, rfl, hown⟩ := hC.own
        obtain ⟨held, hblk, hh, hval⟩ := hC.blk
        by_cases hlt2 : many2 < to
        · have HC := Lib.hid hC
          have HBLK := Lib.hid hblk
          clear hj0 hown hblk hval hC
          go_wp2_with fail
          refine (take_no w.heap.size held many2 to _ HBLK.out hlt2 (by omega)).mono ?_
          rintro e w3 ⟨rfl, rfl⟩
          go_wp2
          go_roundw
          case rel => exact ⟨k + 1, by omega, by go_num, j2, many2, HC.out, hlt2⟩
          case measure => simp [intOf]; omega
        · obtain ⟨q, rfl⟩ : ∃ q, many2 = to + q := ⟨many2 - to, by omega⟩
          have HBLK := Lib.hid hblk
          have HOWN := Lib.hid hown
          have HVAL := Lib.hid hval
          have HJ := Lib.hid hj0
          have HJn : j2 ≤ 1600000 * 8 := by
            have h1 : (k + 1) * fr ≤ 1000001 * 8 := Nat.mul_le_mul (by omega) (by omega)
            have h2 : j2 * 5 ≤ j2 * to := Nat.mul_le_mul_left _ (by omega)
            omega
          clear hj0 hown hblk hval hC hlt2
          have hq := manyOf_blk HBLK.out
          go_wp2_with fail
          refine (take_yes w.heap.size held (to + q) to _ HBLK.out hh (by omega) hm16 hto).mono ?_
          rw [show to + q - to = q by omega]
          rintro e w3 ⟨rfl, hblk3, hg3⟩
          have hown3 := ownsRow_kept HOWN.out HBLK.out hg3
          have hsz3 : w.heap.size ≤ w3.heap.size := Nat.le_trans hbel.size hg3.size
          have HBLK3 := Lib.hid hblk3
          have HG3 := Lib.hid hg3
          have HOWN3 := Lib.hid hown3
          clear hblk3 hg3 hown3
          go_wp2_with (at_builtin; refine wpList_push2 w3 _ Try.underlying22 infoByte rfl rfl _ _ rfl w.heap.size _ _ _ rfl HOWN3.out rfl rfl (by unfold maxLen; omega) (by omega) hsz3 ?_)
          intro A4 c4 w4 hown4 hg4
          have HC4 : Hid (CutAt f to w.heap.size w (j2 + 1) q ((k + 1) * fr) (.slice A4 (j2 + 1) c4) w4) :=
            cut_take HF.out (by omega) HBLK.out hh HVAL.out hbel HJ.out HBLK3.out HG3.out HBLK.out.lt hown4 hg4 (own_blk_ne HOWN3.out HBLK3.out (by decide)) (fun x hx => (HOWN3.out.lt x hx).1)
          clear hown4 hg4
          go_wp2
          go_roundw
          case rel => exact ⟨j2 + 1, q, HC4.out, by omega⟩
          case measure =>
            obtain ⟨held', hb', _⟩ := HC4.out.blk
            rw [manyOf_blk hb', hq]
            omega
    · obtain ⟨j, many, hC, hmt⟩ := hC
      obtain rfl : k = n := by omega
      have hs := hC.sum
      have e1 : k * fr / to = j := by
        rw [← hs, Nat.add_comm, Nat.add_mul_div_right _ _ (by omega), Nat.div_eq_of_lt hmt, Nat.zero_add]
      have e2 : k * fr % to = many := by
        rw [← hs, Nat.add_comm, Nat.add_mul_mod_self_right, Nat.mod_eq_of_lt hmt]
      have HE1 := Lib.hid e1
      have HE2 := Lib.hid e2
      have HC := Lib.hid hC
      clear hC hs e1 e2
      go_wp2
      go_ret2
      rw [HE1.out, HE2.out]
      exact ⟨_, rfl, HC.out⟩

end Go.Proofs.Ytkacplgfkokdcaa
