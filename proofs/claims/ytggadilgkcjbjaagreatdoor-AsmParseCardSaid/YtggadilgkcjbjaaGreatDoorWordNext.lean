/-
  The walks over bytes.Clone and Next of words.
-/
import Derived.Test.YtggadilgkcjbjaaGreatDoorWordTold
import Derived.Test.YtggadilgkcjbjaaGreatDoorShelf
import Derived.Test.YtggadilgkcjbjaaGreatDoorArr
import Derived.Deep.RegionWith
import Derived.Deep.DeepMust
import Derived.RegionTactic
set_option linter.unusedVariables false
namespace Go.Proofs.YtggadilgkcjbjaaGreatDoor
open Go.RowKit

theorem infoByte : (Tryz.prog.info? 5).map (fun i => (i.zero, i.size, i.bytes)) = some (some (.int .u8 0), 1, 1) := by kernel_rfl
theorem byteCells_one (bs : List UInt8) : ∀ u ∈ Lib.byteCells bs, u.oneCell' = true := by
  intro u hu
  simp only [Lib.byteCells, List.mem_map] at hu
  obtain ⟨b, _, rfl⟩ := hu
  rfl

/-- A slice value that reads as bytes. -/
def ByteAt (w : World) (B : Nat) (v : Value) (bs : List UInt8) : Prop := ∃ A c, v = .slice A bs.length c ∧ RdB w B A bs.length bs ∧ bs.length ≤ c ∧ c ≤ maxLen ∧ (A = none → c = 0)
theorem ByteAt.below {w w' : World} {B : Nat} {v : Value} {bs : List UInt8} (h : ByteAt w B v bs) (hb : Below B w w') : ByteAt w' B v bs := by
  obtain ⟨A, c, h1, h2, h3⟩ := h
  exact ⟨A, c, h1, h2.below hb, h3⟩
theorem ByteAt.more {w : World} {B B' : Nat} {v : Value} {bs : List UInt8} (h : ByteAt w B v bs) (hB : B ≤ B') : ByteAt w B' v bs := by
  obtain ⟨A, c, h1, h2, h3⟩ := h
  exact ⟨A, c, h1, h2.more hB, h3⟩
theorem ByteAt.of_own {w : World} {base n : Nat} {v : Value} {bs : List UInt8} (h : w.ownsRow base 5 1 v n (Lib.byteCells bs)) : ByteAt w w.heap.size v bs := by
  have hl : bs.length = n := by have := h.1; rw [Lib.byteCells_length] at this; omega
  subst hl
  rcases h.2 with ⟨hv, h0⟩ | ⟨g, cap, cur, hv, _, _, h1, h2, _⟩
  · refine ⟨none, 0, by rw [hv, h0], ?_, by omega, by unfold maxLen; omega, fun _ => rfl⟩
    have := List.eq_nil_of_length_eq_zero h0
    rw [this]
    exact RdB.none_ _ _
  · subst hv
    exact ⟨_, _, rfl, RdB.of_own h, h1, h2, fun e => by cases e⟩

/-- A slice of a row of bytes of its own. -/
def PushAt (w : World) (v : Value) (bs : List UInt8) : Prop := w.ownsRow 0 5 1 v bs.length (Lib.byteCells bs)
theorem own_keep {w w' : World} {base n : Nat} {e : TypeId} {size : Nat} {v : Value} {xs : List Value} (h : w.ownsRow base e size v n xs) (hk : ∀ g, v.ownBlock = some g → w'.heap[g]? = w.heap[g]?) : w'.ownsRow base e size v n xs := by
  refine ⟨h.1, ?_⟩
  rcases h.2 with h | ⟨g, cap, cur, hv, hg, hh, h2⟩
  · exact .inl h
  · exact .inr ⟨g, cap, cur, hv, hg, by rw [hk g (by rw [hv]; rfl)]; exact hh, h2⟩
theorem own_base {w : World} {base n : Nat} {e : TypeId} {size : Nat} {v : Value} {xs : List Value} (h : w.ownsRow base e size v n xs) : w.ownsRow 0 e size v n xs := by
  refine ⟨h.1, ?_⟩
  rcases h.2 with h | ⟨g, cap, cur, hv, hg, h2⟩
  · exact .inl h
  · exact .inr ⟨g, cap, cur, hv, Nat.zero_le _, h2⟩
theorem own_slice {w : World} {base n : Nat} {e : TypeId} {size : Nat} {v : Value} {xs : List Value} (h : w.ownsRow base e size v n xs) : ∃ A c, v = .slice A n c := by
  rcases h.2 with ⟨hv, h0⟩ | ⟨g, cap, cur, hv, _⟩
  · exact ⟨none, 0, by rw [hv, h0]⟩
  · exact ⟨_, _, hv⟩
theorem PushAt.below {w w' : World} {v : Value} {bs : List UInt8} (h : PushAt w v bs) (hb : Below w.heap.size w w') : PushAt w' v bs := own_below h hb
/-- Another row is written: the bytes stay. -/
theorem PushAt.grown {w w' : World} {v : Value} {bs : List UInt8} {e : TypeId} {base size n : Nat} {u : Value} {xs : List Value} (h : PushAt w v bs) (ho : w.ownsRow base e size u n xs) (hne : e ≠ 5) (hg : w.grownBy w' u.ownBlock) : PushAt w' v bs := by
  refine own_keep h fun g hv => ?_
  rcases h.2 with ⟨hv2, _⟩ | ⟨g2, cap, cur, hv2, _, hh, _⟩
  · rw [hv2] at hv; cases hv
  · rw [hv2] at hv
    have hgg : g2 = g := Option.some.inj hv
    subst hgg
    refine hg.block g2 (Array.getElem?_eq_some_iff.1 hh).1 fun e2 => ?_
    rcases ho.2 with ⟨hu, _⟩ | ⟨g3, cap3, cur3, hu, _, hh3, _⟩
    · rw [hu] at e2; cases e2
    · rw [hu] at e2
      have hgg : g2 = g3 := Option.some.inj e2
      subst hgg
      rw [hh] at hh3
      injection hh3 with hh3
      injection hh3 with _ h4
      exact hne h4.symm
theorem PushAt.setB {w : World} {v : Value} {bs : List UInt8} {g : Nat} {t : TypeId} {cs : Array Value} (h : PushAt w v bs) (hB : Blk w g t cs) (hne : 5 ≠ t) (i : Nat) (u : Value) : PushAt (w.setCell ⟨g, i, none⟩ u) v bs :=
  own_keep h fun k hk => Below.heap_setCell w _ u k fun e => own_blk_ne h hB hne (by rw [hk, e])
theorem PushAt.slice {w : World} {v : Value} {bs : List UInt8} (h : PushAt w v bs) : ∃ A c, v = .slice A bs.length c := own_slice h
theorem PushAt.byte {w : World} {v : Value} {bs : List UInt8} (h : PushAt w v bs) : ByteAt w w.heap.size v bs := ByteAt.of_own h

/-- What Clone answers. -/
def CloneEnd (bs : List UInt8) (w : World) (e : Ending) (w' : World) : Prop := ∃ v, e = .returned v ∧ PushAt w' v bs ∧ Below w.heap.size w w'

theorem clone_any (v : Value) (bs : List UInt8) (w : World) (h : ByteAt w w.heap.size v bs) (hn : bs.length ≤ 1000000) :
    Calls Tryz.prog 44 #[v] w (CloneEnd bs w) := by
  obtain ⟨A, c, rfl, hr, hc, hm, hnil⟩ := h
  cases A with
  | none =>
    have h0 := hnil rfl
    have hbs : bs = [] := List.eq_nil_of_length_eq_zero (by omega)
    subst hbs
    refine (Tryz.bytes_Clone_nil _ _ w).mono ?_
    rintro e w' ⟨rfl, rfl⟩
    exact ⟨_, rfl, ⟨rfl, .inl ⟨rfl, rfl⟩⟩, Below.refl _ _⟩
  | some ad =>
    refine (Tryz.bytes_Clone_at ad bs.length c (bs.map fun u => (u.toNat : Int)) w (by simp) (by omega) ?_).mono ?_
    · intro i hi
      obtain ⟨ad', e, _, hcell⟩ := hr.at_ hi
      injection e with e
      subst e
      rw [hcell]
      simp [List.getD, List.getElem?_eq_getElem hi]
    · rintro e w' ⟨v', rfl, hown, _, hb⟩
      have e1 : (bs.map fun u => (u.toNat : Int)).map (Value.int .u8) = Lib.byteCells bs := by simp [Lib.byteCells]
      rw [e1] at hown
      exact ⟨v', rfl, own_base hown, hb⟩

theorem RdB.take {w : World} {B : Nat} {A : Option Addr} {n : Nat} {bs : List UInt8} (h : RdB w B A n bs) {k : Nat} (hk : k ≤ n) : RdB w B A k (bs.take k) := by
  have hl := h.len
  refine ⟨by rw [Lib.byteCells_length, List.length_take]; omega, fun h0 => ?_⟩
  obtain ⟨ad, rfl, hb, hc⟩ := h.2 (by omega)
  refine ⟨ad, rfl, hb, fun j u hu => hc j u ?_⟩
  simp only [Lib.byteCells, List.getElem?_map] at hu ⊢
  by_cases hj : j < k
  · rwa [List.getElem?_take_of_lt hj] at hu
  · rw [List.getElem?_eq_none (by rw [List.length_take]; omega)] at hu
    cases hu
theorem RdB.cut {w : World} {B : Nat} {A : Option Addr} {n : Nat} {bs : List UInt8} (h : RdB w B A n bs) {k cap : Nat} (hk : k ≤ n) (hc : n ≤ cap) :
    RdB w B (if cap = k then A else A.map (·.add (k * 1))) (n - k) (bs.drop k) := by
  have := Reads.cut h hk hc
  unfold RdB
  rw [show Lib.byteCells (bs.drop k) = (Lib.byteCells bs).drop (k * 1) by rw [Nat.mul_one]; simp [Lib.byteCells, List.map_drop]]
  exact this
theorem RdB.from_ {w : World} {B : Nat} {b o n : Nat} {bs : List UInt8} (h : RdB w B (some ⟨b, o, none⟩) n bs) {k : Nat} (hk : k ≤ n) : RdB w B (some ⟨b, o + k, none⟩) (n - k) (bs.drop k) := by
  have := h.cut (k := k) (cap := n + k + 1) hk (by omega)
  rw [if_neg (by omega)] at this
  have e : (⟨b, o, none⟩ : Addr).add k = ⟨b, o + k, none⟩ := by unfold Addr.add; split <;> simp_all
  simpa [e] using this

theorem infoWord : (Tryz.prog.info? 36).map (·.size) = some 2 := by kernel_rfl
theorem results_cell3 {P : Program} {w : World} {fn : Func} {r u x : Tmp} {ty : TypeId} {v : Value} {ad : Addr} {tmps : Array Value} (h : fn.results = #[.cell r ty, .tmp u, .tmp x]) (hx : tmps.getD r undef = .pointer (some ad)) (hl : (loadVar ty ad).run P w = .ok v w) :
    (results fn tmps).run P w = .ok (.tuple #[v, tmps.getD u undef, tmps.getD x undef]) w := by
  have hx' : tmps[r]?.getD undef = .pointer (some ad) := by rw [← hx]; simp [Array.getD_eq_getD_getElem?]
  simp [results, h, hx', hl, asAddr]
theorem loadWord {w : World} {g : Nat} {cs : Array Value} (h : Blk w g 36 cs) (hn : cs.size = 2 := by rfl) : (loadVar 36 ⟨g, 0, none⟩).run Tryz.prog w = .ok (.agg cs) w :=
  run_loadVar_row w g 36 36 cs (0, 0) _ h Tryz.underlying36 rfl (hn ▸ infoWord)

/-- A word as a value. -/
def WordAt (w : World) (v : Value) (x : Wd) : Prop := ∃ p, v = .agg #[.int .u8 (x.1.toNat : Int), p] ∧ PushAt w p x.2
theorem WordAt.below {w w' : World} {v : Value} {x : Wd} (h : WordAt w v x) (hb : Below w.heap.size w w') : WordAt w' v x := by
  obtain ⟨p, h1, h2⟩ := h
  exact ⟨p, h1, h2.below hb⟩

/-- What Next answers: the word, the place behind it. -/
def NextEnd (r : Option (Wd × List UInt8)) (n : Nat) (w : World) (e : Ending) (w' : World) : Prop :=
  (match r with
    | none => e = .returned (.tuple #[.agg #[.int .u8 0, .slice none 0 0], .int .i64 0, .int .i64 2])
    | some x => ∃ v, e = .returned (.tuple #[v, .int .i64 ((n - x.2.length : Nat) : Int), .int .i64 0]) ∧ WordAt w' v x.1) ∧ Below w.heap.size w w'

theorem nextEnd_some {x : Wd} {r : List UInt8} {n : Nat} {w w' : World} {y z : Int} {A : Option Addr} {m c : Nat} (hy : y = (x.1.toNat : Int)) (hz : z = ((n - r.length : Nat) : Int)) (hp : PushAt w' (.slice A m c) x.2) (hb : Below w.heap.size w w') :
    NextEnd (some (x, r)) n w (.returned (.tuple #[.agg #[.int .u8 y, .slice A m c], .int .i64 z, .int .i64 0])) w' := by
  subst hy hz
  exact ⟨⟨_, rfl, _, rfl, hp⟩, hb⟩

set_option maxHeartbeats 2000000 in
theorem next_any (A : Option Addr) (n c at_ : Nat) (bs : List UInt8) (w : World) (h : RdB w w.heap.size A n bs) (hnc : n ≤ c) (hcm : c ≤ maxLen) (ha : at_ < n) (hn : n ≤ 1000000) :
    Calls Tryz.prog 20 #[.slice A n c, .int .i64 (at_ : Int)] w (NextEnd (nextL (bs.drop at_)) n w) := by
  obtain ⟨E, hE⟩ : ∃ E, E = NextEnd (nextL (bs.drop at_)) n w := ⟨_, rfl⟩
  rw [← hE]
  have HE := Lib.hid hE
  have HLEN := Lib.hid h.len
  clear hE
  obtain ⟨b0, o0, rfl, hb0, hk0⟩ := h.plain (by omega)
  have ha1 : ¬ (at_ : Int) < 0 := by omega
  have ha2 : ¬ (n : Int) ≤ (at_ : Int) := by omega
  have ha3 : (at_ : Int) ≤ (n : Int) := by omega
  obtain ⟨m, hm⟩ : ∃ m, m = n - at_ := ⟨_, rfl⟩
  have hmI : ((n - at_ : Nat) : Int) = (m : Int) := by omega
  have hm0 : 0 < m := by omega
  obtain ⟨bd, hbd⟩ : ∃ bd, bd = bs.drop at_ := ⟨_, rfl⟩
  have HR : Hid (RdB w w.heap.size (some ⟨b0, o0 + at_, none⟩) m bd) := by
    have := h.from_ (k := at_) (by omega)
    rw [hm, hbd]
    exact this
  have hbdl : bd.length = m := by rw [hbd, List.length_drop, h.len, hm]
  rw [← hbd] at HE
  clear hbd hk0 h
  obtain ⟨op, r, rfl⟩ : ∃ op r, bd = op :: r := by
    match bd, hbdl with
    | [], hl => simp at hl; omega
    | op :: r, _ => exact ⟨_, _, rfl⟩
  have hcm0 : ¬ (c : Int) = (at_ : Int) := by omega
  have hcn : ¬ c = at_ := by omega
  go_enter Tryz.func20, Tryz.ntmps20
  go_wp2_with fail
  rw [← hm]
  have hbw : Below w.heap.size w (w.alloc (.cells #[.int .u8 0, .slice none 0 0] 36)) := (Below.refl _ _).alloc (Nat.le_refl _) _
  refine (told_any (some ⟨b0, o0 + at_, none⟩) m (c - at_) (op :: r) _ ((HR.out.below hbw).more hbw.size) hm0 (by omega)).mono ?_
  intro e w1 h1
  have HG : Hid (∀ w', Below (w.alloc (.cells #[.int .u8 0, .slice none 0 0] 36)).heap.size (w.alloc (.cells #[.int .u8 0, .slice none 0 0] 36)) w' → Blk w' w.heap.size 36 #[.int .u8 0, .slice none 0 0]) := fun w' hb => (Blk.new w 36 #[.int .u8 0, .slice none 0 0]).below hb (by simp)
  cases ht : toldL (op :: r) with
  | none =>
    rw [ht] at h1
    obtain ⟨rfl, hb1⟩ := h1
    have hblk := HG.out _ hb1
    have HBK := Lib.hid hblk
    have hb01 : Below w.heap.size w w1 := hbw.trans (hb1.mono hbw.size)
    have HN : Hid (nextL (op :: r) = none) := by show _ = _; simp only [nextL]; rw [ht]
    have hc0 := hblk.cell 0
    have hc1 := hblk.cell 1
    have hf0 := hblk.frozen 0
    have hf1 := hblk.frozen 1
    simp only [List.getElem?_toArray, List.getElem?_cons_zero, List.getElem?_cons_succ] at hc0 hc1
    clear ht hblk
    go_wp2
    refine bodyPost_ret (results_cell3 rfl rfl (loadWord ((HBK.out.set_ 0 _).set_ 1 _))) rfl ?_
    rw [HE.out, HN.out]
    exact ⟨rfl, (hb01.setCell (Nat.le_refl _) _).setCell (Nat.le_refl _) _⟩
  | some x =>
    obtain ⟨k, hd⟩ := x
    rw [ht] at h1
    obtain ⟨rfl, hb1⟩ := h1
    obtain ⟨hh1, hh2, hh3, hk⟩ := toldL_head ht
    rw [hbdl] at hh2
    have hblk := HG.out _ hb1
    have HBK := Lib.hid hblk
    have hb01 : Below w.heap.size w w1 := hbw.trans (hb1.mono hbw.size)
    have hc0 := hblk.cell 0
    have hc1 := hblk.cell 1
    have hf0 := hblk.frozen 0
    have hf1 := hblk.frozen 1
    simp only [List.getElem?_toArray, List.getElem?_cons_zero, List.getElem?_cons_succ] at hc0 hc1
    by_cases hs : m - hd < k
    · have HN : Hid (nextL (op :: r) = none) := by show _ = _; simp only [nextL]; rw [ht]; simp only [hbdl, if_pos hs]
      have hs' : (m : Int) - (hd : Int) < (k : Int) := by omega
      clear ht hs hblk
      go_wp2
      refine bodyPost_ret (results_cell3 rfl rfl (loadWord ((HBK.out.set_ 0 _).set_ 1 _))) rfl ?_
      rw [HE.out, HN.out]
      exact ⟨rfl, (hb01.setCell (Nat.le_refl _) _).setCell (Nat.le_refl _) _⟩
    · have HN : Hid (nextL (op :: r) = some ((op, ((op :: r).drop hd).take k), (op :: r).drop (hd + k))) := by show _ = _; simp only [nextL]; rw [ht]; simp only [hbdl, if_neg hs]
      have hs' : ¬ (m : Int) - (hd : Int) < (k : Int) := by omega
      have hw1 : IntKind.i64.wrap ((hd : Int) + (k : Int)) = (hd : Int) + (k : Int) := by rw [IntKind.wrap_i64]; omega
      have hw2 : (0 : Int) ≤ (hd : Int) + (k : Int) := by omega
      have hw3 : ((hd : Int) + (k : Int)).toNat = hd + k := by omega
      have hw4 : (hd : Int) ≤ (hd : Int) + (k : Int) := by omega
      have hw5 : (hd : Int) + (k : Int) ≤ ((c - at_ : Nat) : Int) := by omega
      have hw6 : IntKind.i64.wrap ((at_ : Int) + (hd : Int)) = (at_ : Int) + (hd : Int) := by rw [IntKind.wrap_i64]; omega
      have hw7 : IntKind.i64.wrap ((at_ : Int) + (hd : Int) + (k : Int)) = (at_ : Int) + (hd : Int) + (k : Int) := by rw [IntKind.wrap_i64]; omega
      have hw8 : hd + k - hd = k := by omega
      obtain ⟨x0, hx0⟩ : ∃ x0 : Nat, op.toNat = x0 := ⟨_, rfl⟩
      have d0 : w.cell? ⟨b0, o0 + at_, none⟩ = some (.int .u8 (x0 : Int)) := by
        obtain ⟨_, _, e, _, hk⟩ := HR.out.plain hm0
        cases e
        have := hk 0 hm0
        rw [← hx0]
        exact this
      have d1 : w1.cell? ⟨b0, o0 + at_, none⟩ = some (.int .u8 (x0 : Int)) := (hb01.cell (p := ⟨b0, o0 + at_, none⟩) hb0).trans d0
      have HX0 := Lib.hid hx0
      have HXX : Hid ((x0 : Int) = (op.toNat : Int)) := by show _ = _; rw [hx0]
      have HNUM : Hid ((at_ : Int) + (hd : Int) + (k : Int) = ((n - ((op :: r).drop (hd + k)).length : Nat) : Int)) := by show _ = _; rw [List.length_drop, hbdl]; omega
      clear ht hs hblk hx0 d0
      by_cases hz : c - at_ = hd
      · 
        have hk0 : k = 0 := by omega
        subst hk0
        have hv1 : (0 : Int) ≤ (hd : Int) := by omega
        have hv2 : (hd : Int) ≤ ((c - at_ : Nat) : Int) := by omega
        have hv3 : IntKind.i64.wrap (hd : Int) = (hd : Int) := by rw [IntKind.wrap_i64]; omega
        clear hw1 hw2 hw3 hw4 hw5 hw7 hw8
        obtain ⟨P, hP⟩ : ∃ P, P = ((op :: r).drop hd).take 0 := ⟨_, rfl⟩
        have hPl : P.length = 0 := by rw [hP, List.length_take, List.length_drop, hbdl]; omega
        have HPP : Hid (nextL (op :: r) = some ((op, P), (op :: r).drop (hd + 0))) := by show _ = _; rw [HN.out, hP]
        have HV : Hid (∀ w', Below w1.heap.size w1 w' → ByteAt w' w'.heap.size (.slice (some ⟨b0, o0 + at_, none⟩) 0 0) P) := fun w' hb' => by
          have hl := hPl
          refine ⟨some ⟨b0, o0 + at_, none⟩, 0, by rw [hl], ?_, by rw [hl]; omega, by unfold maxLen; omega, fun e => by cases e⟩
          rw [hl, List.eq_nil_of_length_eq_zero hl]
          exact RdB.zero _ _ _
        have HLN : Hid (P.length ≤ 1000000) := by show _ ≤ _; omega
        clear hbdl hP hPl
        go_wp2_with fail
        go_region_with (first | (go_at_call 44; go_must (refine (clone_any _ _ _ (HV.out _ (Below.refl _ _).drew) HLN.out).mono ?_; intro e w2 h2; obtain ⟨p2, rfl, hp2, hb2⟩ := h2; have hp2k := Lib.hid hp2; obtain ⟨A2, c2, e2⟩ := hp2.slice; subst e2; have hblk2 := HBK.out.drew.below hb2 HBK.out.lt; have hc0' := hblk2.cell 0; have hc1' := hblk2.cell 1; have hf0' := hblk2.frozen 0; have hf1' := hblk2.frozen 1; simp only [List.getElem?_toArray, List.getElem?_cons_zero, List.getElem?_cons_succ] at hc0' hc1'; have d1' := (hb2.cell (p := ⟨b0, o0 + at_, none⟩) (Nat.lt_of_lt_of_le hb0 hb01.size)).trans d1)))
        all_goals (simp only [List.getElem_toArray, List.getElem_cons_succ, List.getElem_cons_zero, Act.put, List.setIfInBounds_toArray, List.set_cons_succ, List.set_cons_zero])
        all_goals go_wp2
        all_goals refine bodyPost_ret (results_cell3 rfl rfl (loadWord ((hblk2.set_ 0 _).set_ 1 _))) rfl ?_
        all_goals rw [HE.out, HPP.out]
        all_goals exact nextEnd_some HXX.out HNUM.out ((hp2k.out.setB hblk2 (by decide) 0 _).setB (hblk2.set_ 0 _) (by decide) 1 _) (((hb01.drew.trans (hb2.mono hb01.size)).setCell (Nat.le_refl _) _).setCell (Nat.le_refl _) _)
      · 
        obtain ⟨P, hP⟩ : ∃ P, P = ((op :: r).drop hd).take k := ⟨_, rfl⟩
        have hPl : P.length = k := by rw [hP, List.length_take, List.length_drop, hbdl]; omega
        have HPP : Hid (nextL (op :: r) = some ((op, P), (op :: r).drop (hd + k))) := by show _ = _; rw [HN.out, hP]
        have HV : Hid (∀ w', Below w1.heap.size w1 w' → ByteAt w' w'.heap.size (.slice (some ⟨b0, o0 + at_ + hd, none⟩) k (c - at_ - hd)) P) := fun w' hb' => by
          have hl := hPl
          refine ⟨some ⟨b0, o0 + at_ + hd, none⟩, (c - at_ - hd), by rw [hl], ?_, by rw [hl]; omega, by omega, fun e => by cases e⟩
          rw [hl]
          have h1 := (HR.out.from_ (k := hd) (by omega)).take (k := k) (by omega)
          rw [← hP] at h1
          exact (h1.below (hb01.trans (hb'.mono hb01.size))).more (Nat.le_trans hb01.size hb'.size)
        have HLN : Hid (P.length ≤ 1000000) := by show _ ≤ _; omega
        clear hbdl hP hPl
        go_wp2_with fail
        go_region_with (first | (go_at_call 44; go_must (refine (clone_any _ _ _ (HV.out _ (Below.refl _ _).drew) HLN.out).mono ?_; intro e w2 h2; obtain ⟨p2, rfl, hp2, hb2⟩ := h2; have hp2k := Lib.hid hp2; obtain ⟨A2, c2, e2⟩ := hp2.slice; subst e2; have hblk2 := HBK.out.drew.below hb2 HBK.out.lt; have hc0' := hblk2.cell 0; have hc1' := hblk2.cell 1; have hf0' := hblk2.frozen 0; have hf1' := hblk2.frozen 1; simp only [List.getElem?_toArray, List.getElem?_cons_zero, List.getElem?_cons_succ] at hc0' hc1'; have d1' := (hb2.cell (p := ⟨b0, o0 + at_, none⟩) (Nat.lt_of_lt_of_le hb0 hb01.size)).trans d1)))
        all_goals (simp only [List.getElem_toArray, List.getElem_cons_succ, List.getElem_cons_zero, Act.put, List.setIfInBounds_toArray, List.set_cons_succ, List.set_cons_zero])
        all_goals go_wp2
        all_goals refine bodyPost_ret (results_cell3 rfl rfl (loadWord ((hblk2.set_ 0 _).set_ 1 _))) rfl ?_
        all_goals rw [HE.out, HPP.out]
        all_goals exact nextEnd_some HXX.out HNUM.out ((hp2k.out.setB hblk2 (by decide) 0 _).setB (hblk2.set_ 0 _) (by decide) 1 _) (((hb01.drew.trans (hb2.mono hb01.size)).setCell (Nat.le_refl _) _).setCell (Nat.le_refl _) _)

end Go.Proofs.YtggadilgkcjbjaaGreatDoor
