/- Plain numbers of layers 10, 12, 13: how many vectors there are, how many pulses there may be, what they cost: literal tables, and the closed facts on them. -/
import Derived.RowKit
import Derived.Lib.BitFns
set_option linter.unusedSimpArgs false
set_option linter.unusedVariables false
namespace Go.Proofs.YtkcambhojpafkaaDoor
open Go
set_option maxRecDepth 100000

def vT : List (List Nat) := [[1, 0, 0, 0, 0, 0, 0, 0, 0, 0, 0, 0, 0, 0, 0, 0, 0, 0, 0, 0, 0, 0, 0, 0, 0, 0, 0, 0, 0, 0, 0, 0, 0],
  [1, 2, 2, 2, 2, 2, 2, 2, 2, 2, 2, 2, 2, 2, 2, 2, 2, 2, 2, 2, 2, 2, 2, 2, 2, 2, 2, 2, 2, 2, 2, 2, 2],
  [1, 4, 8, 12, 16, 20, 24, 28, 32, 36, 40, 44, 48, 52, 56, 60, 64, 68, 72, 76, 80, 84, 88, 92, 96, 100, 104, 108, 112, 116, 120, 124, 128],
  [1, 6, 18, 38, 66, 102, 146, 198, 258, 326, 402, 486, 578, 678, 786, 902, 1026, 1158, 1298, 1446, 1602, 1766, 1938, 2118, 2306, 2502, 2706, 2918, 3138, 3366, 3602, 3846, 4098],
  [1, 8, 32, 88, 192, 360, 608, 952, 1408, 1992, 2720, 3608, 4672, 5928, 7392, 9080, 11008, 13192, 15648, 18392, 21440, 24808, 28512, 32568, 36992, 41800, 47008, 52632, 58688, 65192, 72160, 79608, 87552],
  [1, 10, 50, 170, 450, 1002, 1970, 3530, 5890, 9290, 14002, 20330, 28610, 39210, 52530, 69002, 89090, 113290, 142130, 176170, 216002, 262250, 315570, 376650, 446210, 525002, 613810, 713450, 824770, 948650, 1086002, 1237770, 1404930],
  [1, 12, 72, 292, 912, 2364, 5336, 10836, 20256, 35436, 58728, 93060, 142000, 209820, 301560, 423092, 581184, 783564, 1038984, 1357284, 1749456, 2227708, 2805528, 3497748, 4320608, 5291820, 6430632, 7757892, 9296112, 11069532, 13104184, 15427956, 18070656],
  [1, 14, 98, 462, 1666, 4942, 12642, 28814, 59906, 115598, 209762, 361550, 596610, 948430, 1459810, 2184462, 3188738, 4553486, 6376034, 8772302, 11879042, 15856206, 20889442, 27192718, 35011074, 44623502, 56345954, 70534478, 87588482, 107954126, 132127842, 160659982, 194158594],
  [1, 16, 128, 688, 2816, 9424, 27008, 68464, 157184, 332688, 658048, 1229360, 2187520, 3732560, 6140800, 9785072, 15158272, 22900496, 33830016, 48978352, 69629696, 97364944, 134110592, 182192752, 244396544, 324031120, 425000576, 551881008, 710003968, 905546576, 1145628544, 1438416368, 1793234944],
  [1, 18, 162, 978, 4482, 16722, 53154, 148626, 374274, 864146, 1854882, 3742290, 7159170, 13079250, 22952610, 38878482, 63821826, 101880594, 158611106, 241419474, 360027522, 527022162, 758497698, 1074801042, 1501390338, 2069818002, 2818849698, 3795731282, 5057616258, 6673166802, 8724341922, 11308386834, 14540038146],
  [1, 20, 200, 1340, 6800, 28004, 97880, 299660, 822560, 2060980, 4780008, 10377180, 21278640, 41517060, 77548920, 139380012, 242080320, 407782740, 668274440, 1068305020, 1669752016, 2556801700, 3842321560, 5675620300, 8251811680, 11823020020, 16711687720, 23326268700, 32179616240, 43910399300, 59307908024, 79340636780, 105189061760],
  [1, 22, 242, 1782, 9922, 44726, 170610, 568150, 1690370, 4573910, 11414898, 26572086, 58227906, 121023606, 240089586, 457018518, 838478850, 1488341910, 2564399090, 4300978550, 7039035586, 11265589302, 17664712562, 27182654422, 41110086402, 61184918102, 89719625842, 129757582262, 185263467202, 261353482742, 364571790066, 503220334870, 687750033410],
  [1, 24, 288, 2312, 14016, 68664, 284000, 1022760, 3281280, 9545560, 25534368, 63521352, 148321344, 327572856, 688686048, 1385794152, 2681291520, 5008112280, 9060853280, 15926230920, 27266245056, 45570869944, 74501171808, 119348538792, 187641279616, 289936284120, 440840828064, 660318036168, 975339085632, 1421956035576, 2047881308384, 2915673433320, 4106643801600],
  [1, 26, 338, 2938, 19266, 101946, 454610, 1761370, 6065410, 18892250, 53972178, 143027898, 354870594, 830764794, 1847023698, 3921503898, 7988589570, 15677993370, 29746958930, 54734043130, 97926519106, 170763634106, 290835675858, 484685386458, 791675204866, 1269252768602, 2000029880786, 3101188745018, 4736845866818, 7134140988026, 10603978331986, 15567533073690, 22589850308610],
  [1, 28, 392, 3668, 25872, 147084, 703640, 2919620, 10746400, 35704060, 108568488, 305568564, 803467056, 1989102444, 4666890936, 10435418532, 22345512000, 46012094940, 91437047240, 175918049300, 328578611536, 597268764748, 1058868074712, 1834389137028, 3110749728352, 5171677701820, 8440960351208, 13542178977012, 21380213588848, 33251200443692, 50989319763704, 77160831169380, 115318214551680],
  [1, 30, 450, 4510, 34050, 207006, 1057730, 4680990, 18347010, 64797470, 209070018, 623207070, 1732242690, 4524812190, 11180805570, 26283115038, 59064045570, 127421652510, 264870794690, 532225891230, 1036722552066, 1962569928350, 3618706767810, 6511963979550, 11457102844930, 19739530275102, 33352168328130, 55335307656350, 90257700222210, 144889114254750, 229129634462146, 357279785395230, 549758831116290],
  [1, 32, 512, 5472, 44032, 285088, 1549824, 7288544, 30316544, 113461024, 387328512, 1219605600, 3575055360, 9832110240, 25537728000, 63001648608, 148348809216, 334834507296, 727126954496, 1524223640416, 3093172083712, 6092464564128, 11673741260288, 21804412007648, 39773478832128, 70970111952160, 124061810555392, 212749286539872, 358342294418432, 593489108895392, 967507857612288, 1553917277469664, 2460955893981184]]
def capT : List Nat := [0, 32, 32, 32, 32, 29, 18, 13, 10, 29, 29, 18, 18, 13, 13, 10, 10]
def bitT : List (List Nat) := [[0, 0, 0, 0, 0, 0, 0, 0, 0, 0, 0, 0, 0, 0, 0, 0, 0, 0, 0, 0, 0, 0, 0, 0, 0, 0, 0, 0, 0, 0, 0, 0, 0],
  [0, 2, 2, 2, 2, 2, 2, 2, 2, 2, 2, 2, 2, 2, 2, 2, 2, 2, 2, 2, 2, 2, 2, 2, 2, 2, 2, 2, 2, 2, 2, 2, 2],
  [0, 3, 4, 5, 5, 6, 6, 6, 6, 7, 7, 7, 7, 7, 7, 7, 7, 8, 8, 8, 8, 8, 8, 8, 8, 8, 8, 8, 8, 8, 8, 8, 8],
  [0, 4, 6, 7, 8, 8, 9, 9, 10, 10, 10, 10, 11, 11, 11, 11, 12, 12, 12, 12, 12, 12, 12, 13, 13, 13, 13, 13, 13, 13, 13, 13, 14],
  [0, 4, 6, 8, 9, 10, 11, 11, 12, 12, 13, 13, 14, 14, 14, 15, 15, 15, 15, 16, 16, 16, 16, 16, 17, 17, 17, 17, 17, 17, 18, 18, 18],
  [0, 5, 7, 9, 10, 11, 12, 13, 14, 15, 15, 16, 16, 17, 17, 18, 18, 18, 19, 19, 19, 20, 20, 20, 20, 21, 21, 21, 21, 21, 0, 0, 0],
  [0, 5, 8, 10, 11, 13, 14, 15, 16, 17, 17, 18, 19, 19, 20, 20, 21, 21, 21, 0, 0, 0, 0, 0, 0, 0, 0, 0, 0, 0, 0, 0, 0],
  [0, 5, 8, 10, 12, 14, 15, 16, 17, 18, 19, 20, 21, 21, 0, 0, 0, 0, 0, 0, 0, 0, 0, 0, 0, 0, 0, 0, 0, 0, 0, 0, 0],
  [0, 5, 8, 11, 13, 15, 16, 18, 19, 20, 21, 0, 0, 0, 0, 0, 0, 0, 0, 0, 0, 0, 0, 0, 0, 0, 0, 0, 0, 0, 0, 0, 0],
  [0, 7, 12, 14, 17, 19, 21, 22, 24, 25, 26, 27, 28, 29, 30, 31, 32, 33, 33, 34, 34, 35, 35, 36, 36, 37, 37, 38, 38, 38, 0, 0, 0],
  [0, 7, 13, 15, 18, 20, 22, 23, 25, 26, 27, 28, 29, 30, 31, 32, 34, 35, 36, 36, 37, 37, 38, 38, 39, 39, 40, 40, 41, 41, 0, 0, 0],
  [0, 7, 13, 16, 19, 21, 23, 24, 27, 28, 29, 30, 31, 32, 33, 34, 36, 37, 38, 0, 0, 0, 0, 0, 0, 0, 0, 0, 0, 0, 0, 0, 0],
  [0, 7, 13, 16, 20, 22, 24, 25, 28, 29, 31, 32, 33, 34, 35, 36, 38, 39, 40, 0, 0, 0, 0, 0, 0, 0, 0, 0, 0, 0, 0, 0, 0],
  [0, 7, 13, 16, 20, 22, 24, 26, 29, 30, 32, 33, 34, 35, 0, 0, 0, 0, 0, 0, 0, 0, 0, 0, 0, 0, 0, 0, 0, 0, 0, 0, 0],
  [0, 7, 13, 16, 20, 22, 24, 26, 29, 31, 33, 34, 35, 36, 0, 0, 0, 0, 0, 0, 0, 0, 0, 0, 0, 0, 0, 0, 0, 0, 0, 0, 0],
  [0, 7, 13, 16, 20, 23, 25, 27, 30, 32, 34, 0, 0, 0, 0, 0, 0, 0, 0, 0, 0, 0, 0, 0, 0, 0, 0, 0, 0, 0, 0, 0, 0],
  [0, 7, 13, 16, 20, 23, 26, 28, 31, 33, 35, 0, 0, 0, 0, 0, 0, 0, 0, 0, 0, 0, 0, 0, 0, 0, 0, 0, 0, 0, 0, 0, 0]]
/-- How many vectors there are of n numbers and k pulses. -/
def V (n k : Nat) : Nat := (vT.getD n []).getD k 0
def cap (n : Nat) : Nat := capT.getD n 0
def bit (n k : Nat) : Nat := (bitT.getD n []).getD k 0
/-- How many there are below k pulses. -/
def S (n k : Nat) : Nat := ((List.range k).map (V n)).foldl (· + ·) 0

theorem getD_out {α : Type} (l : List α) {n : Nat} (d : α) (h : l.length ≤ n) : l.getD n d = d := by simp [List.getD, List.getElem?_eq_none h]
theorem V_zero {n : Nat} (h : n ≤ 16) : V n 0 = 1 := by
  have : ((List.range 17).all fun n => V n 0 == 1) = true := by decide +kernel
  have := List.all_eq_true.1 this n (List.mem_range.2 (by omega))
  simpa using this
theorem V_none (k : Nat) : V 0 (k + 1) = 0 := by
  rcases Nat.lt_or_ge k 32 with h | h
  · have : ((List.range 32).all fun k => V 0 (k + 1) == 0) = true := by decide +kernel
    have := List.all_eq_true.1 this k (List.mem_range.2 h)
    simpa using this
  · have hl : (vT.getD 0 []).length = 33 := by decide +kernel
    unfold V
    rw [getD_out _ _ (by omega)]
theorem V_succ {n k : Nat} (hn : n < 16) (hk : k < 32) : V (n + 1) (k + 1) = V n (k + 1) + V (n + 1) k + V n k := by
  have : ((List.range 16).all fun n => (List.range 32).all fun k => V (n + 1) (k + 1) == V n (k + 1) + V (n + 1) k + V n k) = true := by decide +kernel
  have := List.all_eq_true.1 this n (List.mem_range.2 hn)
  have := List.all_eq_true.1 this k (List.mem_range.2 hk)
  simpa using this
theorem V_lt {n k : Nat} : V n k < 4503599627370496 := by
  have : (vT.all fun r => r.all fun v => decide (v < 4503599627370496)) = true := by decide +kernel
  unfold V
  rcases Nat.lt_or_ge n vT.length with hn | hn
  · have h1 := List.all_eq_true.1 this (vT[n]) (by simp)
    have e : vT.getD n [] = vT[n] := by simp [hn]
    rw [e]
    rcases Nat.lt_or_ge k vT[n].length with hk | hk
    · have := List.all_eq_true.1 h1 (vT[n][k]) (by simp)
      have e2 : (vT[n]).getD k 0 = vT[n][k] := by simp [hk]
      rw [e2]
      simpa using this
    · rw [getD_out _ _ hk]; omega
  · rw [getD_out vT _ hn]; simp
theorem S_zero (n : Nat) : S n 0 = 0 := rfl
theorem S_succ (n k : Nat) : S n (k + 1) = S n k + V n k := by
  unfold S
  rw [List.range_succ, List.map_append, List.foldl_append]
  rfl
theorem S_lt {n k : Nat} (hk : k ≤ 33) : S n k ≤ k * 4503599627370496 := by
  induction k with
  | zero => simp [S_zero]
  | succ k ih => rw [S_succ]; have := ih (by omega); have := @V_lt n k; omega
theorem cap_le (n : Nat) : cap n ≤ 32 := by
  have : ((List.range 17).all fun n => decide (cap n ≤ 32)) = true := by decide +kernel
  rcases Nat.lt_or_ge n 17 with h | h
  · have := List.all_eq_true.1 this n (List.mem_range.2 h)
    simpa using this
  · have hl : capT.length = 17 := by decide +kernel
    unfold cap
    rw [getD_out _ _ (by omega)]; omega
theorem cap_zero : cap 0 = 0 := by decide +kernel
/-- Up to 8 numbers: up to the cap there are no more than 2^20 vectors, behind it more. -/
theorem cap_small {n k : Nat} (h1 : 1 ≤ n) (h : n ≤ 8) (hk : k ≤ 32) : V n k ≤ 1048576 ↔ k ≤ cap n := by
  have : ((List.range 8).all fun n => (List.range 33).all fun k => decide (V (n + 1) k ≤ 1048576) == decide (k ≤ cap (n + 1))) = true := by decide +kernel
  have := List.all_eq_true.1 this (n - 1) (List.mem_range.2 (by omega))
  have := List.all_eq_true.1 this k (List.mem_range.2 (by omega))
  rw [show n - 1 + 1 = n by omega] at this
  simpa using this
theorem cap_great {n : Nat} (h1 : 8 < n) (h : n ≤ 16) : cap n = min (cap (n / 2)) (cap (n - n / 2)) := by
  have : ((List.range 17).all fun n => decide (n ≤ 8) || (cap n == min (cap (n / 2)) (cap (n - n / 2)))) = true := by decide +kernel
  have := List.all_eq_true.1 this n (List.mem_range.2 (by omega))
  simp only [Bool.or_eq_true, decide_eq_true_eq, beq_iff_eq] at this
  omega
theorem bit_zero (n : Nat) : bit n 0 = 0 := by
  have : ((List.range 17).all fun n => bit n 0 == 0) = true := by decide +kernel
  rcases Nat.lt_or_ge n 17 with h | h
  · have := List.all_eq_true.1 this n (List.mem_range.2 h)
    simpa using this
  · have hl : bitT.length = 17 := by decide +kernel
    unfold bit
    rw [getD_out bitT _ (by omega)]; rfl
theorem bit_le (n k : Nat) : bit n k ≤ 100 := by
  have : (bitT.all fun r => r.all fun v => decide (v ≤ 100)) = true := by decide +kernel
  unfold bit
  rcases Nat.lt_or_ge n bitT.length with hn | hn
  · have h1 := List.all_eq_true.1 this (bitT[n]) (by simp)
    have e : bitT.getD n [] = bitT[n] := by simp [hn]
    rw [e]
    rcases Nat.lt_or_ge k bitT[n].length with hk | hk
    · have := List.all_eq_true.1 h1 (bitT[n][k]) (by simp)
      have e2 : (bitT[n]).getD k 0 = bitT[n][k] := by simp [hk]
      rw [e2]
      simpa using this
    · rw [getD_out _ _ hk]; omega
  · rw [getD_out bitT _ hn]; simp
theorem bit_small {n k : Nat} (h1 : 1 ≤ n) (h : n ≤ 8) (hk : 1 ≤ k) (hc : k ≤ cap n) : bit n k = Lib.bitLen (V n k - 1) + 1 := by
  have : ((List.range 8).all fun n => (List.range 33).all fun k => decide (k = 0) || decide (cap (n + 1) < k) || (bit (n + 1) k == Lib.bitLen (V (n + 1) k - 1) + 1)) = true := by decide +kernel
  have := List.all_eq_true.1 this (n - 1) (List.mem_range.2 (by omega))
  have hc' := cap_le n
  have := List.all_eq_true.1 this k (List.mem_range.2 (by omega))
  rw [show n - 1 + 1 = n by omega] at this
  simp only [Bool.or_eq_true, decide_eq_true_eq, beq_iff_eq] at this
  omega
/-- The most that two halves cost, over the first m ways to share k out. -/
def most (n k : Nat) : Nat → Nat
  | 0 => 0
  | a + 1 => max (most n k a) (bit (n / 2) a + bit (n - n / 2) (k - a))
theorem most_le (n k m : Nat) : most n k m ≤ 200 := by
  induction m with
  | zero => simp [most]
  | succ m ih => have := bit_le (n / 2) m; have := bit_le (n - n / 2) (k - m); simp only [most]; omega
theorem bit_great {n k : Nat} (h1 : 8 < n) (h : n ≤ 16) (hk : 1 ≤ k) (hc : k ≤ cap n) : bit n k = Lib.bitLen k + 1 + most n k (k + 1) := by
  have : ((List.range 17).all fun n => (List.range 33).all fun k => decide (n ≤ 8) || decide (k = 0) || decide (cap n < k) || (bit n k == Lib.bitLen k + 1 + most n k (k + 1))) = true := by decide +kernel
  have := List.all_eq_true.1 this n (List.mem_range.2 (by omega))
  have hc' := cap_le n
  have := List.all_eq_true.1 this k (List.mem_range.2 (by omega))
  simp only [Bool.or_eq_true, decide_eq_true_eq, beq_iff_eq] at this
  omega
/-- Caps and costs, of whatever numbers. -/
def capZ (n : Int) : Int := if 1 ≤ n ∧ n ≤ 16 then (cap n.toNat : Int) else -1
def bitZ (n k : Int) : Int := if k < 0 ∨ capZ n < k then -1 else (bit n.toNat k.toNat : Int)
theorem capZ_le (n : Int) : -1 ≤ capZ n ∧ capZ n ≤ 32 := by
  unfold capZ; split
  · have := cap_le n.toNat; omega
  · omega
theorem capZ_in {n : Int} (h1 : 1 ≤ n) (h2 : n ≤ 16) : capZ n = (cap n.toNat : Int) := by simp [capZ, h1, h2]
theorem capZ_out {n : Int} (h : ¬ (1 ≤ n ∧ n ≤ 16)) : capZ n = -1 := by simp [capZ, h]
theorem bitZ_bd (n k : Int) : -1 ≤ bitZ n k ∧ bitZ n k ≤ 100 := by
  unfold bitZ; split
  · omega
  · have := bit_le n.toNat k.toNat; omega
/-- A cell of the table while it is made: the rows above n are whole; of row n the first kv numbers and the first ks + 1 sums are there. -/
def tc (n kv ks j : Nat) : Int :=
  if j / 67 < n then (if j % 67 < 33 then (V (j / 67) (j % 67) : Int) else (S (j / 67) (j % 67 - 33) : Int))
  else if j / 67 = n then (if j % 67 < 33 then (if j % 67 < kv then (V n (j % 67) : Int) else 0) else (if j % 67 - 33 ≤ ks then (S n (j % 67 - 33) : Int) else 0))
  else 0
theorem tc_v {n kv ks r c : Nat} (hc : c < 33) (h : r < n ∨ r = n ∧ c < kv) : tc n kv ks (r * 67 + c) = (V r c : Int) := by
  have h1 : (r * 67 + c) / 67 = r := by omega
  have h2 : (r * 67 + c) % 67 = c := by omega
  unfold tc
  rw [h1, h2]
  rcases h with h | ⟨h, hk⟩
  · rw [if_pos h, if_pos hc]
  · subst h; rw [if_neg (by omega), if_pos rfl, if_pos hc, if_pos hk]
theorem tc_s {n kv ks r c : Nat} (hc : c < 34) (h : r < n ∨ r = n ∧ c ≤ ks) : tc n kv ks (r * 67 + 33 + c) = (S r c : Int) := by
  have h1 : (r * 67 + 33 + c) / 67 = r := by omega
  have h2 : (r * 67 + 33 + c) % 67 = 33 + c := by omega
  unfold tc
  rw [h1, h2]
  rcases h with h | ⟨h, hk⟩
  · rw [if_pos h, if_neg (by omega)]; congr 2; omega
  · subst h; rw [if_neg (by omega), if_pos rfl, if_neg (by omega), if_pos (by omega)]; congr 2; omega
theorem tc_put_v {n k ks : Nat} (hk : k < 33) (j : Nat) : (if j = n * 67 + k then (V n k : Int) else tc n k ks j) = tc n (k + 1) ks j := by
  unfold tc
  grind
theorem tc_put_s {n k : Nat} (hk : k < 33) (j : Nat) : (if j = n * 67 + 33 + (k + 1) then (S n (k + 1) : Int) else tc n 33 k j) = tc n 33 (k + 1) j := by
  unfold tc
  grind
theorem tc_next (n j : Nat) : tc n 33 33 j = tc (n + 1) 0 0 j := by
  unfold tc
  have hz : S (n + 1) 0 = 0 := rfl
  grind
theorem tc_zero {j : Nat} (hj : j ≠ 0) : tc 0 33 0 j = 0 := by
  unfold tc
  have hz : S 0 0 = 0 := rfl
  have hv := V_none (j % 67 - 1)
  grind
theorem tc_zero0 : tc 0 33 0 0 = 1 := by decide +kernel
theorem bit_out {n k : Nat} (hn : n ≤ 16) (h : cap n < k) : bit n k = 0 := by
  have : ((List.range 17).all fun n => (List.range 33).all fun k => decide (k ≤ cap n) || (bit n k == 0)) = true := by decide +kernel
  have h1 := List.all_eq_true.1 this n (List.mem_range.2 (by omega))
  rcases Nat.lt_or_ge k 33 with hk | hk
  · have h2 := List.all_eq_true.1 h1 k (List.mem_range.2 hk)
    simp only [Bool.or_eq_true, decide_eq_true_eq, beq_iff_eq] at h2
    omega
  · have hl : (bitT.all fun r => r.length == 33) = true := by decide +kernel
    unfold bit
    rcases Nat.lt_or_ge n bitT.length with hb | hb
    · have e : bitT.getD n [] = bitT[n] := by simp [hb]
      have := List.all_eq_true.1 hl (bitT[n]) (by simp)
      rw [e, getD_out _ _ (by simp at this; omega)]
    · rw [getD_out bitT _ hb]; simp
theorem V_pos {n k : Nat} (h1 : 1 ≤ n) (hn : n ≤ 16) (hk : k ≤ 32) : 1 ≤ V n k := by
  have : ((List.range 16).all fun n => (List.range 33).all fun k => decide (1 ≤ V (n + 1) k)) = true := by decide +kernel
  have := List.all_eq_true.1 this (n - 1) (List.mem_range.2 (by omega))
  have := List.all_eq_true.1 this k (List.mem_range.2 (by omega))
  rw [show n - 1 + 1 = n by omega] at this
  simpa using this
/-- A cell of the sheet while it is made: what stands before n is whole; the cap of n stands at c; the first k costs of n are there. -/
def sc (n : Nat) (c : Int) (k j : Nat) : Int :=
  if j < 17 then (if j = 0 then -1 else if j < n then (cap j : Int) else if j = n then c else 0)
  else if (j - 17) / 33 < n then (bit ((j - 17) / 33) ((j - 17) % 33) : Int)
  else if (j - 17) / 33 = n then (if (j - 17) % 33 < k then (bit n ((j - 17) % 33) : Int) else 0)
  else 0
theorem sc_cap {n k j : Nat} {c : Int} (h1 : 1 ≤ j) (h : j < n) (hj : j < 17) : sc n c k j = (cap j : Int) := by
  unfold sc; grind
theorem sc_at {n k : Nat} {c : Int} (h1 : 1 ≤ n) (h : n < 17) : sc n c k n = c := by
  unfold sc; grind
theorem sc_bit {n k r a : Nat} {c : Int} (h : r < n) (ha : a < 33) : sc n c k (17 + r * 33 + a) = (bit r a : Int) := by
  have h1 : (17 + r * 33 + a - 17) / 33 = r := by omega
  have h2 : (17 + r * 33 + a - 17) % 33 = a := by omega
  unfold sc; grind
theorem sc_put_c {n k : Nat} (h1 : 1 ≤ n) (h : n < 17) (c d : Int) (j : Nat) : (if j = n then d else sc n c k j) = sc n d k j := by
  unfold sc; grind
theorem sc_put_b {n k : Nat} (hk : k < 33) (c : Int) (j : Nat) : (if j = 17 + n * 33 + k then (bit n k : Int) else sc n c k j) = sc n c (k + 1) j := by
  unfold sc; grind
theorem sc_next {n : Nat} (h1 : 1 ≤ n) (hn : n ≤ 16) (j : Nat) : sc n (cap n) (cap n + 1) j = sc (n + 1) 0 1 j := by
  have hz := bit_zero (n + 1)
  have ho := @bit_out n ((j - 17) % 33) hn
  unfold sc
  by_cases hj : j < 17
  · grind
  · grind
theorem sc_zero {j : Nat} (hj : j ≠ 0) : sc 1 0 1 j = 0 := by
  have hz := bit_zero 1
  have h0 : (List.range 33).all (fun k => bit 0 k == 0) = true := by decide +kernel
  have h1 := List.all_eq_true.1 h0 ((j - 17) % 33) (List.mem_range.2 (by omega))
  simp at h1
  unfold sc
  grind
theorem sc_zero0 : sc 1 0 1 0 = -1 := by decide +kernel
end Go.Proofs.YtkcambhojpafkaaDoor
