/-
  The names of operations: moving, reckoning, checking of asm.
-/
import Derived.Test.YtggadilgkcjbjaaGreatDoorWordBuild
set_option linter.unusedVariables false
namespace Go.Proofs.YtggadilgkcjbjaaGreatDoor
open Go.RowKit

/-- What moving answers. -/
def movingB (m : Nat) : ByteArray :=
  if m = 97 then ⟨#[78, 79, 80]⟩ else
  if m = 99 then ⟨#[73, 70]⟩ else
  if m = 100 then ⟨#[78, 79, 84, 73, 70]⟩ else
  if m = 103 then ⟨#[69, 76, 83, 69]⟩ else
  if m = 104 then ⟨#[69, 78, 68, 73, 70]⟩ else
  if m = 105 then ⟨#[86, 69, 82, 73, 70, 89]⟩ else
  if m = 106 then ⟨#[82, 69, 84, 85, 82, 78]⟩ else
  if m = 107 then ⟨#[84, 79, 65, 76, 84]⟩ else
  if m = 108 then ⟨#[70, 82, 79, 77, 65, 76, 84]⟩ else
  if m = 109 then ⟨#[50, 68, 82, 79, 80]⟩ else
  if m = 110 then ⟨#[50, 68, 85, 80]⟩ else
  if m = 111 then ⟨#[51, 68, 85, 80]⟩ else
  if m = 112 then ⟨#[50, 79, 86, 69, 82]⟩ else
  if m = 113 then ⟨#[50, 82, 79, 84]⟩ else
  if m = 114 then ⟨#[50, 83, 87, 65, 80]⟩ else
  if m = 115 then ⟨#[73, 70, 68, 85, 80]⟩ else
  if m = 116 then ⟨#[68, 69, 80, 84, 72]⟩ else
  if m = 117 then ⟨#[68, 82, 79, 80]⟩ else
  if m = 118 then ⟨#[68, 85, 80]⟩ else
  if m = 119 then ⟨#[78, 73, 80]⟩ else
  if m = 120 then ⟨#[79, 86, 69, 82]⟩ else
  if m = 121 then ⟨#[80, 73, 67, 75]⟩ else
  if m = 122 then ⟨#[82, 79, 76, 76]⟩ else
  if m = 123 then ⟨#[82, 79, 84]⟩ else
  if m = 124 then ⟨#[83, 87, 65, 80]⟩ else
  if m = 125 then ⟨#[84, 85, 67, 75]⟩ else
  ⟨#[]⟩

set_option maxRecDepth 100000 in
set_option maxHeartbeats 1000000 in
theorem moving_any (m : Nat) (w : World) (hm : m < 256) :
    Calls Tryz.prog 47 #[.int .u8 (m : Int)] w fun e w' => e = .returned (.string (movingB m)) ∧ w' = w := by
  obtain ⟨E, hE⟩ : ∃ E : Ending → World → Prop, E = fun e w' => e = .returned (.string (movingB m)) ∧ w' = w := ⟨_, rfl⟩
  rw [← hE]
  have HE := Lib.hid hE
  clear hE
  by_cases h97 : m = 97
  · subst h97
    go_enter Tryz.func47, Tryz.ntmps47
    go_wp2
    rw [HE.out]
    exact ⟨rfl, rfl⟩
  by_cases h99 : m = 99
  · subst h99
    go_enter Tryz.func47, Tryz.ntmps47
    go_wp2
    rw [HE.out]
    exact ⟨rfl, rfl⟩
  by_cases h100 : m = 100
  · subst h100
    go_enter Tryz.func47, Tryz.ntmps47
    go_wp2
    rw [HE.out]
    exact ⟨rfl, rfl⟩
  by_cases h103 : m = 103
  · subst h103
    go_enter Tryz.func47, Tryz.ntmps47
    go_wp2
    rw [HE.out]
    exact ⟨rfl, rfl⟩
  by_cases h104 : m = 104
  · subst h104
    go_enter Tryz.func47, Tryz.ntmps47
    go_wp2
    rw [HE.out]
    exact ⟨rfl, rfl⟩
  by_cases h105 : m = 105
  · subst h105
    go_enter Tryz.func47, Tryz.ntmps47
    go_wp2
    rw [HE.out]
    exact ⟨rfl, rfl⟩
  by_cases h106 : m = 106
  · subst h106
    go_enter Tryz.func47, Tryz.ntmps47
    go_wp2
    rw [HE.out]
    exact ⟨rfl, rfl⟩
  by_cases h107 : m = 107
  · subst h107
    go_enter Tryz.func47, Tryz.ntmps47
    go_wp2
    rw [HE.out]
    exact ⟨rfl, rfl⟩
  by_cases h108 : m = 108
  · subst h108
    go_enter Tryz.func47, Tryz.ntmps47
    go_wp2
    rw [HE.out]
    exact ⟨rfl, rfl⟩
  by_cases h109 : m = 109
  · subst h109
    go_enter Tryz.func47, Tryz.ntmps47
    go_wp2
    rw [HE.out]
    exact ⟨rfl, rfl⟩
  by_cases h110 : m = 110
  · subst h110
    go_enter Tryz.func47, Tryz.ntmps47
    go_wp2
    rw [HE.out]
    exact ⟨rfl, rfl⟩
  by_cases h111 : m = 111
  · subst h111
    go_enter Tryz.func47, Tryz.ntmps47
    go_wp2
    rw [HE.out]
    exact ⟨rfl, rfl⟩
  by_cases h112 : m = 112
  · subst h112
    go_enter Tryz.func47, Tryz.ntmps47
    go_wp2
    rw [HE.out]
    exact ⟨rfl, rfl⟩
  by_cases h113 : m = 113
  · subst h113
    go_enter Tryz.func47, Tryz.ntmps47
    go_wp2
    rw [HE.out]
    exact ⟨rfl, rfl⟩
  by_cases h114 : m = 114
  · subst h114
    go_enter Tryz.func47, Tryz.ntmps47
    go_wp2
    rw [HE.out]
    exact ⟨rfl, rfl⟩
  by_cases h115 : m = 115
  · subst h115
    go_enter Tryz.func47, Tryz.ntmps47
    go_wp2
    rw [HE.out]
    exact ⟨rfl, rfl⟩
  by_cases h116 : m = 116
  · subst h116
    go_enter Tryz.func47, Tryz.ntmps47
    go_wp2
    rw [HE.out]
    exact ⟨rfl, rfl⟩
  by_cases h117 : m = 117
  · subst h117
    go_enter Tryz.func47, Tryz.ntmps47
    go_wp2
    rw [HE.out]
    exact ⟨rfl, rfl⟩
  by_cases h118 : m = 118
  · subst h118
    go_enter Tryz.func47, Tryz.ntmps47
    go_wp2
    rw [HE.out]
    exact ⟨rfl, rfl⟩
  by_cases h119 : m = 119
  · subst h119
    go_enter Tryz.func47, Tryz.ntmps47
    go_wp2
    rw [HE.out]
    exact ⟨rfl, rfl⟩
  by_cases h120 : m = 120
  · subst h120
    go_enter Tryz.func47, Tryz.ntmps47
    go_wp2
    rw [HE.out]
    exact ⟨rfl, rfl⟩
  by_cases h121 : m = 121
  · subst h121
    go_enter Tryz.func47, Tryz.ntmps47
    go_wp2
    rw [HE.out]
    exact ⟨rfl, rfl⟩
  by_cases h122 : m = 122
  · subst h122
    go_enter Tryz.func47, Tryz.ntmps47
    go_wp2
    rw [HE.out]
    exact ⟨rfl, rfl⟩
  by_cases h123 : m = 123
  · subst h123
    go_enter Tryz.func47, Tryz.ntmps47
    go_wp2
    rw [HE.out]
    exact ⟨rfl, rfl⟩
  by_cases h124 : m = 124
  · subst h124
    go_enter Tryz.func47, Tryz.ntmps47
    go_wp2
    rw [HE.out]
    exact ⟨rfl, rfl⟩
  by_cases h125 : m = 125
  · subst h125
    go_enter Tryz.func47, Tryz.ntmps47
    go_wp2
    rw [HE.out]
    exact ⟨rfl, rfl⟩
  have g97 : ((m : Int) == 97) = false := by rw [beq_eq_false_iff_ne]; omega
  have g99 : ((m : Int) == 99) = false := by rw [beq_eq_false_iff_ne]; omega
  have g100 : ((m : Int) == 100) = false := by rw [beq_eq_false_iff_ne]; omega
  have g103 : ((m : Int) == 103) = false := by rw [beq_eq_false_iff_ne]; omega
  have g104 : ((m : Int) == 104) = false := by rw [beq_eq_false_iff_ne]; omega
  have g105 : ((m : Int) == 105) = false := by rw [beq_eq_false_iff_ne]; omega
  have g106 : ((m : Int) == 106) = false := by rw [beq_eq_false_iff_ne]; omega
  have g107 : ((m : Int) == 107) = false := by rw [beq_eq_false_iff_ne]; omega
  have g108 : ((m : Int) == 108) = false := by rw [beq_eq_false_iff_ne]; omega
  have g109 : ((m : Int) == 109) = false := by rw [beq_eq_false_iff_ne]; omega
  have g110 : ((m : Int) == 110) = false := by rw [beq_eq_false_iff_ne]; omega
  have g111 : ((m : Int) == 111) = false := by rw [beq_eq_false_iff_ne]; omega
  have g112 : ((m : Int) == 112) = false := by rw [beq_eq_false_iff_ne]; omega
  have g113 : ((m : Int) == 113) = false := by rw [beq_eq_false_iff_ne]; omega
  have g114 : ((m : Int) == 114) = false := by rw [beq_eq_false_iff_ne]; omega
  have g115 : ((m : Int) == 115) = false := by rw [beq_eq_false_iff_ne]; omega
  have g116 : ((m : Int) == 116) = false := by rw [beq_eq_false_iff_ne]; omega
  have g117 : ((m : Int) == 117) = false := by rw [beq_eq_false_iff_ne]; omega
  have g118 : ((m : Int) == 118) = false := by rw [beq_eq_false_iff_ne]; omega
  have g119 : ((m : Int) == 119) = false := by rw [beq_eq_false_iff_ne]; omega
  have g120 : ((m : Int) == 120) = false := by rw [beq_eq_false_iff_ne]; omega
  have g121 : ((m : Int) == 121) = false := by rw [beq_eq_false_iff_ne]; omega
  have g122 : ((m : Int) == 122) = false := by rw [beq_eq_false_iff_ne]; omega
  have g123 : ((m : Int) == 123) = false := by rw [beq_eq_false_iff_ne]; omega
  have g124 : ((m : Int) == 124) = false := by rw [beq_eq_false_iff_ne]; omega
  have g125 : ((m : Int) == 125) = false := by rw [beq_eq_false_iff_ne]; omega
  have HV : Hid (movingB m = ⟨#[]⟩) := by
    show _ = _
    unfold movingB
    rw [if_neg h97, if_neg h99, if_neg h100, if_neg h103, if_neg h104, if_neg h105, if_neg h106, if_neg h107, if_neg h108, if_neg h109, if_neg h110, if_neg h111, if_neg h112, if_neg h113, if_neg h114, if_neg h115, if_neg h116, if_neg h117, if_neg h118, if_neg h119, if_neg h120, if_neg h121, if_neg h122, if_neg h123, if_neg h124, if_neg h125]
  clear h97 h99 h100 h103 h104 h105 h106 h107 h108 h109 h110 h111 h112 h113 h114 h115 h116 h117 h118 h119 h120 h121 h122 h123 h124 h125
  go_enter Tryz.func47, Tryz.ntmps47
  go_wp2
  rw [HE.out, HV.out]
  exact ⟨rfl, rfl⟩

/-- What reckoning answers. -/
def reckoningB (m : Nat) : ByteArray :=
  if m = 126 then ⟨#[67, 65, 84]⟩ else
  if m = 130 then ⟨#[83, 73, 90, 69]⟩ else
  if m = 135 then ⟨#[69, 81, 85, 65, 76]⟩ else
  if m = 136 then ⟨#[69, 81, 85, 65, 76, 86, 69, 82, 73, 70, 89]⟩ else
  if m = 139 then ⟨#[49, 65, 68, 68]⟩ else
  if m = 140 then ⟨#[49, 83, 85, 66]⟩ else
  if m = 143 then ⟨#[78, 69, 71, 65, 84, 69]⟩ else
  if m = 144 then ⟨#[65, 66, 83]⟩ else
  if m = 145 then ⟨#[78, 79, 84]⟩ else
  if m = 146 then ⟨#[48, 78, 79, 84, 69, 81, 85, 65, 76]⟩ else
  if m = 147 then ⟨#[65, 68, 68]⟩ else
  if m = 148 then ⟨#[83, 85, 66]⟩ else
  if m = 154 then ⟨#[66, 79, 79, 76, 65, 78, 68]⟩ else
  if m = 155 then ⟨#[66, 79, 79, 76, 79, 82]⟩ else
  if m = 156 then ⟨#[78, 85, 77, 69, 81, 85, 65, 76]⟩ else
  if m = 157 then ⟨#[78, 85, 77, 69, 81, 85, 65, 76, 86, 69, 82, 73, 70, 89]⟩ else
  if m = 158 then ⟨#[78, 85, 77, 78, 79, 84, 69, 81, 85, 65, 76]⟩ else
  if m = 159 then ⟨#[76, 69, 83, 83, 84, 72, 65, 78]⟩ else
  if m = 160 then ⟨#[71, 82, 69, 65, 84, 69, 82, 84, 72, 65, 78]⟩ else
  if m = 161 then ⟨#[76, 69, 83, 83, 79, 82, 69, 81, 85, 65, 76]⟩ else
  ⟨#[]⟩

set_option maxRecDepth 100000 in
set_option maxHeartbeats 1000000 in
theorem reckoning_any (m : Nat) (w : World) (hm : m < 256) :
    Calls Tryz.prog 48 #[.int .u8 (m : Int)] w fun e w' => e = .returned (.string (reckoningB m)) ∧ w' = w := by
  obtain ⟨E, hE⟩ : ∃ E : Ending → World → Prop, E = fun e w' => e = .returned (.string (reckoningB m)) ∧ w' = w := ⟨_, rfl⟩
  rw [← hE]
  have HE := Lib.hid hE
  clear hE
  by_cases h126 : m = 126
  · subst h126
    go_enter Tryz.func48, Tryz.ntmps48
    go_wp2
    rw [HE.out]
    exact ⟨rfl, rfl⟩
  by_cases h130 : m = 130
  · subst h130
    go_enter Tryz.func48, Tryz.ntmps48
    go_wp2
    rw [HE.out]
    exact ⟨rfl, rfl⟩
  by_cases h135 : m = 135
  · subst h135
    go_enter Tryz.func48, Tryz.ntmps48
    go_wp2
    rw [HE.out]
    exact ⟨rfl, rfl⟩
  by_cases h136 : m = 136
  · subst h136
    go_enter Tryz.func48, Tryz.ntmps48
    go_wp2
    rw [HE.out]
    exact ⟨rfl, rfl⟩
  by_cases h139 : m = 139
  · subst h139
    go_enter Tryz.func48, Tryz.ntmps48
    go_wp2
    rw [HE.out]
    exact ⟨rfl, rfl⟩
  by_cases h140 : m = 140
  · subst h140
    go_enter Tryz.func48, Tryz.ntmps48
    go_wp2
    rw [HE.out]
    exact ⟨rfl, rfl⟩
  by_cases h143 : m = 143
  · subst h143
    go_enter Tryz.func48, Tryz.ntmps48
    go_wp2
    rw [HE.out]
    exact ⟨rfl, rfl⟩
  by_cases h144 : m = 144
  · subst h144
    go_enter Tryz.func48, Tryz.ntmps48
    go_wp2
    rw [HE.out]
    exact ⟨rfl, rfl⟩
  by_cases h145 : m = 145
  · subst h145
    go_enter Tryz.func48, Tryz.ntmps48
    go_wp2
    rw [HE.out]
    exact ⟨rfl, rfl⟩
  by_cases h146 : m = 146
  · subst h146
    go_enter Tryz.func48, Tryz.ntmps48
    go_wp2
    rw [HE.out]
    exact ⟨rfl, rfl⟩
  by_cases h147 : m = 147
  · subst h147
    go_enter Tryz.func48, Tryz.ntmps48
    go_wp2
    rw [HE.out]
    exact ⟨rfl, rfl⟩
  by_cases h148 : m = 148
  · subst h148
    go_enter Tryz.func48, Tryz.ntmps48
    go_wp2
    rw [HE.out]
    exact ⟨rfl, rfl⟩
  by_cases h154 : m = 154
  · subst h154
    go_enter Tryz.func48, Tryz.ntmps48
    go_wp2
    rw [HE.out]
    exact ⟨rfl, rfl⟩
  by_cases h155 : m = 155
  · subst h155
    go_enter Tryz.func48, Tryz.ntmps48
    go_wp2
    rw [HE.out]
    exact ⟨rfl, rfl⟩
  by_cases h156 : m = 156
  · subst h156
    go_enter Tryz.func48, Tryz.ntmps48
    go_wp2
    rw [HE.out]
    exact ⟨rfl, rfl⟩
  by_cases h157 : m = 157
  · subst h157
    go_enter Tryz.func48, Tryz.ntmps48
    go_wp2
    rw [HE.out]
    exact ⟨rfl, rfl⟩
  by_cases h158 : m = 158
  · subst h158
    go_enter Tryz.func48, Tryz.ntmps48
    go_wp2
    rw [HE.out]
    exact ⟨rfl, rfl⟩
  by_cases h159 : m = 159
  · subst h159
    go_enter Tryz.func48, Tryz.ntmps48
    go_wp2
    rw [HE.out]
    exact ⟨rfl, rfl⟩
  by_cases h160 : m = 160
  · subst h160
    go_enter Tryz.func48, Tryz.ntmps48
    go_wp2
    rw [HE.out]
    exact ⟨rfl, rfl⟩
  by_cases h161 : m = 161
  · subst h161
    go_enter Tryz.func48, Tryz.ntmps48
    go_wp2
    rw [HE.out]
    exact ⟨rfl, rfl⟩
  have g126 : ((m : Int) == 126) = false := by rw [beq_eq_false_iff_ne]; omega
  have g130 : ((m : Int) == 130) = false := by rw [beq_eq_false_iff_ne]; omega
  have g135 : ((m : Int) == 135) = false := by rw [beq_eq_false_iff_ne]; omega
  have g136 : ((m : Int) == 136) = false := by rw [beq_eq_false_iff_ne]; omega
  have g139 : ((m : Int) == 139) = false := by rw [beq_eq_false_iff_ne]; omega
  have g140 : ((m : Int) == 140) = false := by rw [beq_eq_false_iff_ne]; omega
  have g143 : ((m : Int) == 143) = false := by rw [beq_eq_false_iff_ne]; omega
  have g144 : ((m : Int) == 144) = false := by rw [beq_eq_false_iff_ne]; omega
  have g145 : ((m : Int) == 145) = false := by rw [beq_eq_false_iff_ne]; omega
  have g146 : ((m : Int) == 146) = false := by rw [beq_eq_false_iff_ne]; omega
  have g147 : ((m : Int) == 147) = false := by rw [beq_eq_false_iff_ne]; omega
  have g148 : ((m : Int) == 148) = false := by rw [beq_eq_false_iff_ne]; omega
  have g154 : ((m : Int) == 154) = false := by rw [beq_eq_false_iff_ne]; omega
  have g155 : ((m : Int) == 155) = false := by rw [beq_eq_false_iff_ne]; omega
  have g156 : ((m : Int) == 156) = false := by rw [beq_eq_false_iff_ne]; omega
  have g157 : ((m : Int) == 157) = false := by rw [beq_eq_false_iff_ne]; omega
  have g158 : ((m : Int) == 158) = false := by rw [beq_eq_false_iff_ne]; omega
  have g159 : ((m : Int) == 159) = false := by rw [beq_eq_false_iff_ne]; omega
  have g160 : ((m : Int) == 160) = false := by rw [beq_eq_false_iff_ne]; omega
  have g161 : ((m : Int) == 161) = false := by rw [beq_eq_false_iff_ne]; omega
  have HV : Hid (reckoningB m = ⟨#[]⟩) := by
    show _ = _
    unfold reckoningB
    rw [if_neg h126, if_neg h130, if_neg h135, if_neg h136, if_neg h139, if_neg h140, if_neg h143, if_neg h144, if_neg h145, if_neg h146, if_neg h147, if_neg h148, if_neg h154, if_neg h155, if_neg h156, if_neg h157, if_neg h158, if_neg h159, if_neg h160, if_neg h161]
  clear h126 h130 h135 h136 h139 h140 h143 h144 h145 h146 h147 h148 h154 h155 h156 h157 h158 h159 h160 h161
  go_enter Tryz.func48, Tryz.ntmps48
  go_wp2
  rw [HE.out, HV.out]
  exact ⟨rfl, rfl⟩

/-- What checking answers. -/
def checkingB (m : Nat) : ByteArray :=
  if m = 162 then ⟨#[71, 82, 69, 65, 84, 69, 82, 79, 82, 69, 81, 85, 65, 76]⟩ else
  if m = 163 then ⟨#[77, 73, 78]⟩ else
  if m = 164 then ⟨#[77, 65, 88]⟩ else
  if m = 165 then ⟨#[87, 73, 84, 72, 73, 78]⟩ else
  if m = 168 then ⟨#[83, 72, 65, 50, 53, 54]⟩ else
  if m = 170 then ⟨#[72, 65, 83, 72, 50, 53, 54]⟩ else
  if m = 172 then ⟨#[67, 72, 69, 67, 75, 83, 73, 71]⟩ else
  if m = 173 then ⟨#[67, 72, 69, 67, 75, 83, 73, 71, 86, 69, 82, 73, 70, 89]⟩ else
  if m = 177 then ⟨#[67, 76, 84, 86]⟩ else
  if m = 178 then ⟨#[67, 83, 86]⟩ else
  if m = 179 then ⟨#[67, 84, 86]⟩ else
  if m = 186 then ⟨#[67, 72, 69, 67, 75, 83, 73, 71, 65, 68, 68]⟩ else
  if m = 187 then ⟨#[86, 65, 85, 76, 84]⟩ else
  if m = 188 then ⟨#[82, 69, 67, 79, 86, 69, 82]⟩ else
  if m = 204 then ⟨#[67, 83, 70, 83]⟩ else
  ⟨#[]⟩

set_option maxRecDepth 100000 in
set_option maxHeartbeats 1000000 in
theorem checking_any (m : Nat) (w : World) (hm : m < 256) :
    Calls Tryz.prog 49 #[.int .u8 (m : Int)] w fun e w' => e = .returned (.string (checkingB m)) ∧ w' = w := by
  obtain ⟨E, hE⟩ : ∃ E : Ending → World → Prop, E = fun e w' => e = .returned (.string (checkingB m)) ∧ w' = w := ⟨_, rfl⟩
  rw [← hE]
  have HE := Lib.hid hE
  clear hE
  by_cases h162 : m = 162
  · subst h162
    go_enter Tryz.func49, Tryz.ntmps49
    go_wp2
    rw [HE.out]
    exact ⟨rfl, rfl⟩
  by_cases h163 : m = 163
  · subst h163
    go_enter Tryz.func49, Tryz.ntmps49
    go_wp2
    rw [HE.out]
    exact ⟨rfl, rfl⟩
  by_cases h164 : m = 164
  · subst h164
    go_enter Tryz.func49, Tryz.ntmps49
    go_wp2
    rw [HE.out]
    exact ⟨rfl, rfl⟩
  by_cases h165 : m = 165
  · subst h165
    go_enter Tryz.func49, Tryz.ntmps49
    go_wp2
    rw [HE.out]
    exact ⟨rfl, rfl⟩
  by_cases h168 : m = 168
  · subst h168
    go_enter Tryz.func49, Tryz.ntmps49
    go_wp2
    rw [HE.out]
    exact ⟨rfl, rfl⟩
  by_cases h170 : m = 170
  · subst h170
    go_enter Tryz.func49, Tryz.ntmps49
    go_wp2
    rw [HE.out]
    exact ⟨rfl, rfl⟩
  by_cases h172 : m = 172
  · subst h172
    go_enter Tryz.func49, Tryz.ntmps49
    go_wp2
    rw [HE.out]
    exact ⟨rfl, rfl⟩
  by_cases h173 : m = 173
  · subst h173
    go_enter Tryz.func49, Tryz.ntmps49
    go_wp2
    rw [HE.out]
    exact ⟨rfl, rfl⟩
  by_cases h177 : m = 177
  · subst h177
    go_enter Tryz.func49, Tryz.ntmps49
    go_wp2
    rw [HE.out]
    exact ⟨rfl, rfl⟩
  by_cases h178 : m = 178
  · subst h178
    go_enter Tryz.func49, Tryz.ntmps49
    go_wp2
    rw [HE.out]
    exact ⟨rfl, rfl⟩
  by_cases h179 : m = 179
  · subst h179
    go_enter Tryz.func49, Tryz.ntmps49
    go_wp2
    rw [HE.out]
    exact ⟨rfl, rfl⟩
  by_cases h186 : m = 186
  · subst h186
    go_enter Tryz.func49, Tryz.ntmps49
    go_wp2
    rw [HE.out]
    exact ⟨rfl, rfl⟩
  by_cases h187 : m = 187
  · subst h187
    go_enter Tryz.func49, Tryz.ntmps49
    go_wp2
    rw [HE.out]
    exact ⟨rfl, rfl⟩
  by_cases h188 : m = 188
  · subst h188
    go_enter Tryz.func49, Tryz.ntmps49
    go_wp2
    rw [HE.out]
    exact ⟨rfl, rfl⟩
  by_cases h204 : m = 204
  · subst h204
    go_enter Tryz.func49, Tryz.ntmps49
    go_wp2
    rw [HE.out]
    exact ⟨rfl, rfl⟩
  have g162 : ((m : Int) == 162) = false := by rw [beq_eq_false_iff_ne]; omega
  have g163 : ((m : Int) == 163) = false := by rw [beq_eq_false_iff_ne]; omega
  have g164 : ((m : Int) == 164) = false := by rw [beq_eq_false_iff_ne]; omega
  have g165 : ((m : Int) == 165) = false := by rw [beq_eq_false_iff_ne]; omega
  have g168 : ((m : Int) == 168) = false := by rw [beq_eq_false_iff_ne]; omega
  have g170 : ((m : Int) == 170) = false := by rw [beq_eq_false_iff_ne]; omega
  have g172 : ((m : Int) == 172) = false := by rw [beq_eq_false_iff_ne]; omega
  have g173 : ((m : Int) == 173) = false := by rw [beq_eq_false_iff_ne]; omega
  have g177 : ((m : Int) == 177) = false := by rw [beq_eq_false_iff_ne]; omega
  have g178 : ((m : Int) == 178) = false := by rw [beq_eq_false_iff_ne]; omega
  have g179 : ((m : Int) == 179) = false := by rw [beq_eq_false_iff_ne]; omega
  have g186 : ((m : Int) == 186) = false := by rw [beq_eq_false_iff_ne]; omega
  have g187 : ((m : Int) == 187) = false := by rw [beq_eq_false_iff_ne]; omega
  have g188 : ((m : Int) == 188) = false := by rw [beq_eq_false_iff_ne]; omega
  have g204 : ((m : Int) == 204) = false := by rw [beq_eq_false_iff_ne]; omega
  have HV : Hid (checkingB m = ⟨#[]⟩) := by
    show _ = _
    unfold checkingB
    rw [if_neg h162, if_neg h163, if_neg h164, if_neg h165, if_neg h168, if_neg h170, if_neg h172, if_neg h173, if_neg h177, if_neg h178, if_neg h179, if_neg h186, if_neg h187, if_neg h188, if_neg h204]
  clear h162 h163 h164 h165 h168 h170 h172 h173 h177 h178 h179 h186 h187 h188 h204
  go_enter Tryz.func49, Tryz.ntmps49
  go_wp2
  rw [HE.out, HV.out]
  exact ⟨rfl, rfl⟩

end Go.Proofs.YtggadilgkcjbjaaGreatDoor
