/- Texts for the law DigestSums: the machine, printed functions of the program, and what they are shown to be. -/
import Derived.Test.YtbiimljinilefaaDoorSC15
import Derived.Test.YtbiimljinilefaaDoorSC6
import Derived.Test.YtbiimljinilefaaDoorSC7
import Derived.Test.YtbiimljinilefaaDoorSC8
import Derived.Test.YtbiimljinilefaaDoorSC9
import Derived.Test.YtbiimljinilefaaDoorSC10
import Derived.Test.YtbiimljinilefaaDoorSC11
import Derived.Test.YtbiimljinilefaaDoorSC12
import Derived.Test.YtbiimljinilefaaDoorSC13
import Derived.Test.YtbiimljinilefaaDoorSC14
import Derived.Test.YtbiimljinilefaaDoorSC3
namespace Go.Am.AmTrydDig
set_option linter.unusedSimpArgs false
set_option linter.unusedVariables false
/-! ### the document's table is the program's -/
theorem fillT_eq (l : List Nat) (cube : Bool) (base : Nat) : ∀ (j i : Nat) (T0 : List Nat), i + j ≤ l.length → base + i + j ≤ T0.length →
    fillT l cube base j i T0 = T0.take (base + i) ++ ((l.drop i).take j).map (rootP · cube) ++ T0.drop (base + i + j) := by
  intro j
  induction j with
  | zero => intro i T0 _ h; simp [fillT]
  | succ j ih =>
    intro i T0 h1 h2
    rw [fillT, ih (i + 1) _ (by omega) (by simp; omega)]
    have hl : l.drop i = l.getD i 0 :: l.drop (i + 1) := by
      rw [List.drop_eq_getElem_cons (show i < l.length by omega)]
      simp [List.getD_eq_getElem?_getD, List.getElem?_eq_getElem (show i < l.length by omega)]
    have ht : (T0.set (base + i) (rootP (l.getD i 0) cube)).take (base + (i + 1)) = T0.take (base + i) ++ [rootP (l.getD i 0) cube] := by
      rw [show base + (i + 1) = base + i + 1 by omega, List.take_add_one, List.take_set_of_le (Nat.le_refl _), List.getElem?_set_self (by omega)]
      rfl
    have hd : (T0.set (base + i) (rootP (l.getD i 0) cube)).drop (base + (i + 1) + j) = T0.drop (base + i + (j + 1)) := by
      rw [List.drop_set_of_lt (by omega)]
      congr 1; omega
    rw [ht, hd, hl, List.take_succ_cons, List.map_cons]
    simp
theorem cubes_lit : (([4794697086780616226, 8158064640168781261, 13096744586834688815, 16840607885511220156, 4131703408338449720, 6480981068601479193, 10538285296894168987, 12329834152419229976, 15566598209576043074, 1334009975649890238] ++ ([2608012711638119052, 6128411473006802146, 8268148722764581231, 9286055187155687089, 11230858885718282805, 13951009754708518548, 16472876342353939154, 17275323862435702243, 1135362057144423861, 2597628984639134821] ++ ([3308224258029322869, 5365058923640841347, 6679025012923562964, 8573033837759648693, 10970295158949994411, 12119686244451234320, 12683024718118986047, 13788192230050041572, 14330467153632333762, 15395433587784984357] ++ ([489312712824947311, 1452737877330783856, 2861767655752347644, 3322285676063803686, 5560940570517711597, 5996557281743188959, 7280758554555802590, 8532644243296465576, 9350256976987008742, 10552545826968843579] ++ ([11727347734174303076, 12113106623233404929, 14000437183269869457, 14369950271660146224, 15101387698204529176, 15463397548674623760, 17586052441742319658, 1182934255886127544, 1847814050463011016, 2177327727835720531] ++ ([2830643537854262169, 3796741975233480872, 4115178125766777443, 5681478168544905931, 6601373596472566643, 7507060721942968483, 8399075790359081724, 8693463985226723168, 9568029438360202098, 10144078919501101548] ++ ([10430055236837252648, 11840083180663258601, 13761210420658862357, 14299343276471374635, 14566680578165727644, 15097957966210449927, 16922976911328602910, 17689382322260857208, 500013540394364858, 748580250866718886] ++ [1242879168328830382, 1977374033974150939, 2944078676154940804, 3659926193048069267, 4368137639120453308, 4836135668995329356, 5532061633213252278, 6448918945643986474, 6902733635092675308, 7801388544844847127]))))))) : List Nat) = consts := by kernel_rfl
theorem squares_lit : ([7640891576956012808, 13503953896175478587, 4354685564936845355, 11912009170470909681, 5840696475078001361, 11170449401992604703, 2270897969802886507, 6620516959819538809, 14680500436340154072, 7105036623409894663, 10473403895298186519, 1526699215303891257, 7436329637833083697, 10282925794625328401, 15784041429090275239, 5167115440072839076] : List Nat) = start512 ++ start384 := by kernel_rfl
theorem cubes_eq : primes80.map (rootP · true) = consts := by
  have e : primes80 = [2, 3, 5, 7, 11, 13, 17, 19, 23, 29] ++ ([31, 37, 41, 43, 47, 53, 59, 61, 67, 71] ++ ([73, 79, 83, 89, 97, 101, 103, 107, 109, 113] ++ ([127, 131, 137, 139, 149, 151, 157, 163, 167, 173] ++ ([179, 181, 191, 193, 197, 199, 211, 223, 227, 229] ++ ([233, 239, 241, 251, 257, 263, 269, 271, 277, 281] ++ ([283, 293, 307, 311, 313, 317, 331, 337, 347, 349] ++ [353, 359, 367, 373, 379, 383, 389, 397, 401, 409])))))) := rfl
  rw [e, List.map_append, List.map_append, List.map_append, List.map_append, List.map_append, List.map_append, List.map_append, rootsK_eq _ _ _ roots0, rootsK_eq _ _ _ roots1, rootsK_eq _ _ _ roots2, rootsK_eq _ _ _ roots3, rootsK_eq _ _ _ roots4, rootsK_eq _ _ _ roots5, rootsK_eq _ _ _ roots6, rootsK_eq _ _ _ roots7]
  exact cubes_lit
theorem squares_eq : (primes80.take 16).map (rootP · false) = start512 ++ start384 := by
  have e : primes80.take 16 = [2, 3, 5, 7, 11, 13, 17, 19, 23, 29, 31, 37, 41, 43, 47, 53] := rfl
  rw [e, rootsK_eq _ _ _ roots8]
  exact squares_lit
theorem tableP_eq : tableP = consts ++ (start512 ++ start384) := by
  have hp : primes80.length = 80 := rfl
  unfold tableP
  rw [fillT_eq primes80 true 0 80 0 _ (by omega) (by simp), fillT_eq primes80 false 80 16 0 _ (by omega) (by simp [hp])]
  have h1 : ((primes80.drop 0).take 80).map (rootP · true) = consts := by
    rw [List.drop_zero, List.take_of_length_le (by omega)]; exact cubes_eq
  have h2 : ((primes80.drop 0).take 16).map (rootP · false) = start512 ++ start384 := by
    rw [List.drop_zero]; exact squares_eq
  rw [h1, h2]
  have hc := consts_len
  simp [hc]
theorem tableP_len : tableP.length = 96 := by
  rw [tableP_eq, List.length_append, List.length_append, consts_len, start512_len, start384_len]
theorem tableP_K {i : Nat} (h : i < 80) : tableP.getD i 0 = consts.getD i 0 := by
  rw [tableP_eq]
  simp [List.getD_eq_getElem?_getD, List.getElem?_append_left (show i < consts.length by rw [consts_len]; exact h)]
theorem tableP_H {i : Nat} (h : i < 16) : tableP.getD (80 + i) 0 = (start512 ++ start384).getD i 0 := by
  rw [tableP_eq]
  simp [List.getD_eq_getElem?_getD, List.getElem?_append_right (show consts.length ≤ 80 + i by rw [consts_len]; omega), consts_len]
theorem hR_mk (wb fr : Nat) (hf : fr ≤ 8) (l : List Nat) (h : ((List.range 8).map fun i => constR wb ((start512 ++ start384).getD (fr + i) 0)) = l) : hR tableP wb fr 8 0 (List.replicate 8 0) = l := by
  have e : ∀ i, i < 8 → constR wb (tableP.getD (80 + (fr + i)) 0) = constR wb ((start512 ++ start384).getD (fr + i) 0) := fun i hi => by rw [tableP_H (by omega)]
  simp only [hR, Nat.zero_add, Nat.reduceAdd, e 0 (by omega), e 1 (by omega), e 2 (by omega), e 3 (by omega), e 4 (by omega), e 5 (by omega), e 6 (by omega), e 7 (by omega)]
  rw [← h]
  rfl
theorem h256 : ((List.range 8).map fun i => constR 32 ((start512 ++ start384).getD (0 + i) 0)) = start256 := by kernel_rfl
theorem h384 : ((List.range 8).map fun i => constR 64 ((start512 ++ start384).getD (8 + i) 0)) = start384 := by kernel_rfl
theorem h512 : ((List.range 8).map fun i => constR 64 ((start512 ++ start384).getD (0 + i) 0)) = start512 := by kernel_rfl
theorem hR_256 : hR tableP 32 0 8 0 (List.replicate 8 0) = start256 := hR_mk 32 0 (by omega) _ h256
theorem hR_384 : hR tableP 64 8 8 0 (List.replicate 8 0) = start384 := hR_mk 64 8 (by omega) _ h384
theorem hR_512 : hR tableP 64 0 8 0 (List.replicate 8 0) = start512 := hR_mk 64 0 (by omega) _ h512
end Go.Am.AmTrydDig

namespace Go.Am.AmTrydDig
set_option linter.unusedSimpArgs false
set_option linter.unusedVariables false
/-! ### both hashes of long words are one -/
theorem turn_64 (x n : Nat) : turnT 64 x n = rightT .u64 x n 64 := by
  unfold turnT cutT; rw [if_neg (by decide)]; rfl
theorem mixW_64t (x a b d : Nat) : mixW 64 x a b d true = littleT .u64 x a b d 64 := by
  unfold mixW littleT; rw [turn_64, turn_64, if_pos rfl]
theorem mixW_64f (x a b d : Nat) : mixW 64 x a b d false = bigT .u64 x a b d 64 := by
  unfold mixW bigT; rw [turn_64, turn_64, turn_64]; rfl
theorem take_drop_take {α : Type} (b : List α) (m i k : Nat) (h : i + k ≤ m) : ((b.take m).drop i).take k = (b.drop i).take k := by
  rw [List.drop_take, List.take_take]; congr 1; omega
theorem sched64_add (bs : List Nat) : ∀ n m t W, sched64 bs (n + m) t W = sched64 bs m (t + n) (sched64 bs n t W) := by
  intro n; induction n with
  | zero => intro m t W; rw [Nat.zero_add]; rfl
  | succ n ih => intro m t W; rw [Nat.succ_add]; show sched64 bs (n + m) (t + 1) _ = _; rw [ih]; rw [show t + 1 + n = t + (n + 1) by omega]; rfl
theorem init_64 (b : List Nat) : ∀ n t X, t + n ≤ 16 → initR 8 (b.take 128) n t X = sched64 b n t X := by
  intro n; induction n with
  | zero => intros; rfl
  | succ n ih =>
    intro t X h
    have hw : word64 b t X = X.set t (accT .u64 (X.getD t 0) ((b.drop (t * 8)).take 8)) := by unfold word64; rw [if_neg (by omega)]
    rw [initR, sched64, ih (t + 1) _ (by omega), hw, take_drop_take _ _ _ _ (by omega)]
theorem exp_64 (b : List Nat) : ∀ n t X, 16 ≤ t → expR 64 n t X = sched64 b n t X := by
  intro n; induction n with
  | zero => intros; rfl
  | succ n ih =>
    intro t X h
    have hw : word64 b t X = X.set t (expR1 64 X t) := by
      unfold word64 expR1 cutT
      rw [if_pos h, if_neg (by decide), mixW_64t, mixW_64t]
      rfl
    rw [expR, sched64, ih (t + 1) _ (by omega), hw]
theorem blockX_64 (b : List Nat) : blockX 64 (b.take 128) = sched64 b 80 0 (List.replicate 80 0) := by
  unfold blockX
  rw [show roundsR 64 - 16 = 64 by rfl, show (64 / 8 : Nat) = 8 by rfl, init_64 b 16 0 _ (by omega), exp_64 b 64 16 _ (by omega)]
  exact (sched64_add b 16 64 0 _).symm
theorem round_64 (X v : List Nat) (i : Nat) (hi : i < 80) : roundR 64 tableP X i v = round64 consts X i v := by
  have h1 : t1R 64 tableP X i v = oneT64 consts X i v := by
    unfold t1R oneT64
    rw [mixW_64f, cr64, tableP_K hi, Nat.pow_zero, Nat.div_one]
    rfl
  have h2 : t2R 64 v = twoT64 v := by unfold t2R twoT64; rw [mixW_64f]; rfl
  unfold roundR round64 cutT
  rw [if_neg (by decide), if_neg (by decide), h1, h2]
theorem rs_64 (X : List Nat) : ∀ n i v, i + n ≤ 80 → rsR 64 tableP X n i v = rounds64 consts X n i v := by
  intro n; induction n with
  | zero => intros; rfl
  | succ n ih => intro i v h; rw [rsR, rounds64, round_64 _ _ _ (by omega), ih (i + 1) _ (by omega)]
theorem add_64 (v : List Nat) : ∀ n i h, addR 64 v n i h = addAll .u64 v n i h := by
  intro n; induction n with
  | zero => intros; rfl
  | succ n ih => intro i h; rw [addR, addAll, ih]; unfold cutT; rw [if_neg (by decide)]
theorem block_64 (b h : List Nat) : blockR 64 tableP (b.take 128) h = mix64 consts b h := by
  unfold blockR mix64
  rw [blockX_64, show roundsR 64 = 80 by rfl, rs_64 _ 80 0 _ (by omega), add_64]
theorem blocks_64 (x : List Nat) : ∀ n i h, blocksR 64 128 tableP x n i h = blocks64 consts x n i h := by
  intro n; induction n with
  | zero => intros; rfl
  | succ n ih => intro i h; rw [blocksR, blocks64, block_64, ih]

/-! ### blocks side by side -/
theorem blocksR_add (wb size : Nat) (K x : List Nat) : ∀ n m i h, blocksR wb size K x (n + m) i h = blocksR wb size K x m (i + n * size) (blocksR wb size K x n i h) := by
  intro n; induction n with
  | zero => intro m i h; rw [Nat.zero_add, Nat.zero_mul]; rfl
  | succ n ih =>
    intro m i h
    rw [Nat.succ_add]
    show blocksR wb size K x (n + m) (i + size) _ = _
    rw [ih, show i + size + n * size = i + (n + 1) * size by rw [Nat.add_mul, Nat.one_mul]; omega]
    rfl
theorem blocksR_congr (wb size : Nat) (K x y : List Nat) : ∀ n i j h, (∀ k, k < n → (x.drop (i + k * size)).take size = (y.drop (j + k * size)).take size) → blocksR wb size K x n i h = blocksR wb size K y n j h := by
  intro n; induction n with
  | zero => intros; rfl
  | succ n ih =>
    intro i j h hk
    have h0 := hk 0 (by omega)
    rw [Nat.zero_mul, Nat.add_zero, Nat.add_zero] at h0
    rw [blocksR, blocksR, h0]
    refine ih (i + size) (j + size) _ fun k hkn => ?_
    have := hk (k + 1) (by omega)
    rw [show i + size + k * size = i + (k + 1) * size by rw [Nat.add_mul, Nat.one_mul]; omega, show j + size + k * size = j + (k + 1) * size by rw [Nat.add_mul, Nat.one_mul]; omega]
    exact this
theorem blocksR_app (wb size : Nat) (K p q : List Nat) (n m : Nat) (hs : 0 < size) (hp : p.length = n * size) (h : List Nat) : blocksR wb size K (p ++ q) (n + m) 0 h = blocksR wb size K q m 0 (blocksR wb size K p n 0 h) := by
  rw [blocksR_add, Nat.zero_add]
  have e1 : blocksR wb size K (p ++ q) n 0 h = blocksR wb size K p n 0 h := by
    refine blocksR_congr _ _ _ _ _ _ _ _ _ fun k hk => ?_
    have hk1 : 0 + k * size + size ≤ p.length := by
      rw [hp]
      have : (k + 1) * size ≤ n * size := Nat.mul_le_mul_right _ (by omega)
      rw [Nat.add_mul, Nat.one_mul] at this; omega
    rw [List.drop_append_of_le_length (by omega), List.take_append_of_le_length (by rw [List.length_drop]; omega)]
  have e2 : ∀ h', blocksR wb size K (p ++ q) m (n * size) h' = blocksR wb size K q m 0 h' := fun h' => by
    refine blocksR_congr _ _ _ _ _ _ _ _ _ fun k hk => ?_
    rw [← hp, Nat.zero_add, List.drop_append, List.drop_eq_nil_of_le (by omega), List.nil_append, Nat.add_sub_cancel_left]
  rw [e1, e2]
theorem pad_128 (bs : List Nat) : padR 128 bs = bs.take (bs.length / 128 * 128) ++ tail64 bs := by
  unfold padR tail64
  have hL : bs.length / 128 * 128 ≤ bs.length := Nat.div_mul_le_self _ _
  have hz : (2 * 128 - 128 / 8 - (bs.length + 1) % 128) % 128 = (128 - ((bs.drop (bs.length / 128 * 128) ++ [128]).length + 16) % 128) % 128 := by
    rw [List.length_append, List.length_drop]; simp only [List.length_singleton]; omega
  rw [hz]
  have : bs = bs.take (bs.length / 128 * 128) ++ bs.drop (bs.length / 128 * 128) := (List.take_append_drop _ _).symm
  conv => lhs; rw [show bs ++ [128] = bs.take (bs.length / 128 * 128) ++ (bs.drop (bs.length / 128 * 128) ++ [128]) by rw [← List.append_assoc, List.take_append_drop]]
  simp only [List.append_assoc]
theorem sum_64 (st bs : List Nat) (fr : Nat) (hst : hR tableP 64 fr 8 0 (List.replicate 8 0) = st) : sumR0 tableP 64 128 fr bs = hash64 consts st bs := by
  have hL : bs.length / 128 * 128 ≤ bs.length := Nat.div_mul_le_self _ _
  have hp : (bs.take (bs.length / 128 * 128)).length = bs.length / 128 * 128 := by rw [List.length_take]; omega
  have hn : (padR 128 bs).length / 128 = bs.length / 128 + (tail64 bs).length / 128 := by
    rw [pad_128, List.length_append, hp, Nat.add_comm, Nat.add_mul_div_right _ _ (by omega), Nat.add_comm]
  unfold sumR0 hash64
  rw [hst, hn, pad_128, blocksR_app 64 128 tableP _ _ _ _ (by omega) hp, ← blocks_64, ← blocks_64]
  have : blocksR 64 128 tableP (bs.take (bs.length / 128 * 128)) (bs.length / 128) 0 st = blocksR 64 128 tableP bs (bs.length / 128) 0 st := by
    refine blocksR_congr _ _ _ _ _ _ _ _ _ fun k hk => ?_
    refine take_drop_take _ _ _ _ ?_
    have : (k + 1) * 128 ≤ bs.length / 128 * 128 := Nat.mul_le_mul_right _ (by omega)
    omega
  rw [this]
end Go.Am.AmTrydDig

namespace Go.Am.AmTrydDig
set_option linter.unusedSimpArgs false
set_option linter.unusedVariables false
/-! ### both hashes of short words are one -/
theorem p64 : pow2 .u64 = 2 ^ 64 := by decide
theorem p32 : pow2 .u32 = 2 ^ 32 := by decide
theorem mm (x : Nat) : x % 2 ^ 64 % 2 ^ 32 = x % 2 ^ 32 := Nat.mod_mod_of_dvd _ (Nat.pow_dvd_pow 2 (by omega))
theorem cut_32 (x : Nat) : cutT 32 x = x % 2 ^ 32 := by
  unfold cutT landT
  rw [if_pos rfl, p64]
  have h1 : (4294967295 : Nat) % 2 ^ 64 = 2 ^ 32 - 1 := by decide
  rw [h1]
  show (x % 2 ^ 64 &&& (2 ^ 32 - 1)) % 2 ^ 64 = _
  rw [Nat.and_two_pow_sub_one_eq_mod, mm]
  apply Nat.mod_eq_of_lt
  exact Nat.lt_of_lt_of_le (Nat.mod_lt _ (by decide)) (by decide)
theorem lor64 (a b : Nat) : lorT .u64 a b % 2 ^ 32 = a % 2 ^ 32 ||| b % 2 ^ 32 := by
  unfold lorT
  rw [p64]
  show (a % 2 ^ 64 ||| b % 2 ^ 64) % 2 ^ 64 % 2 ^ 32 = _
  rw [mm, Nat.or_mod_two_pow, mm, mm]
theorem lor32 (a b : Nat) : lorT .u32 a b = a % 2 ^ 32 ||| b % 2 ^ 32 := by
  unfold lorT
  rw [p32]
  show (a % 2 ^ 32 ||| b % 2 ^ 32) % 2 ^ 32 = _
  rw [Nat.or_mod_two_pow, Nat.mod_mod, Nat.mod_mod]
theorem xor64 (a b : Nat) : xorT .u64 a b % 2 ^ 32 = a % 2 ^ 32 ^^^ b % 2 ^ 32 := by
  unfold xorT
  rw [p64]
  show (a % 2 ^ 64 ^^^ b % 2 ^ 64) % 2 ^ 64 % 2 ^ 32 = _
  rw [mm, Nat.xor_mod_two_pow, mm, mm]
theorem xor32 (a b : Nat) : xorT .u32 a b = a % 2 ^ 32 ^^^ b % 2 ^ 32 := by
  unfold xorT
  rw [p32]
  show (a % 2 ^ 32 ^^^ b % 2 ^ 32) % 2 ^ 32 = _
  rw [Nat.xor_mod_two_pow, Nat.mod_mod, Nat.mod_mod]
theorem and64 (a b : Nat) : landT .u64 a b % 2 ^ 32 = a % 2 ^ 32 &&& b % 2 ^ 32 := by
  unfold landT
  rw [p64]
  show (a % 2 ^ 64 &&& b % 2 ^ 64) % 2 ^ 64 % 2 ^ 32 = _
  rw [mm, Nat.and_mod_two_pow, mm, mm]
theorem and32 (a b : Nat) : landT .u32 a b = a % 2 ^ 32 &&& b % 2 ^ 32 := by
  unfold landT
  rw [p32]
  show (a % 2 ^ 32 &&& b % 2 ^ 32) % 2 ^ 32 = _
  rw [Nat.and_mod_two_pow, Nat.mod_mod, Nat.mod_mod]
/-- what is the same in its lowest 32 bits -/
def Eq32 (a b : Nat) : Prop := a % 2 ^ 32 = b % 2 ^ 32
theorem e_lor {a b c d : Nat} (h1 : Eq32 a c) (h2 : Eq32 b d) : Eq32 (lorT .u64 a b) (lorT .u32 c d) := by
  unfold Eq32 at *; rw [lor64, lor32, h1, h2, Nat.or_mod_two_pow, Nat.mod_mod, Nat.mod_mod]
theorem e_xor {a b c d : Nat} (h1 : Eq32 a c) (h2 : Eq32 b d) : Eq32 (xorT .u64 a b) (xorT .u32 c d) := by
  unfold Eq32 at *; rw [xor64, xor32, h1, h2, Nat.xor_mod_two_pow, Nat.mod_mod, Nat.mod_mod]
theorem e_and {a b c d : Nat} (h1 : Eq32 a c) (h2 : Eq32 b d) : Eq32 (landT .u64 a b) (landT .u32 c d) := by
  unfold Eq32 at *; rw [and64, and32, h1, h2, Nat.and_mod_two_pow, Nat.mod_mod, Nat.mod_mod]
theorem e_add {a b c d : Nat} (h1 : Eq32 a c) (h2 : Eq32 b d) : Eq32 (addT .u64 a b) (addT .u32 c d) := by
  unfold Eq32 addT at *; rw [p64, p32, mm, Nat.mod_mod, Nat.add_mod, h1, h2, ← Nat.add_mod]
theorem e_not (a : Nat) : Eq32 (notT .u64 a) (notT .u32 a) := by
  unfold Eq32 notT
  have h1 : pow2 .u64 = 18446744073709551616 := by decide
  have h2 : pow2 .u32 = 4294967296 := by decide
  rw [h1, h2, show (2 : Nat) ^ 32 = 4294967296 by decide]
  omega
theorem e_refl (a : Nat) : Eq32 a a := rfl
theorem e_mod {a b : Nat} (h : Eq32 a b) (hb : b < 2 ^ 32) : a % 2 ^ 32 = b := by
  unfold Eq32 at h; rw [h]; exact Nat.mod_eq_of_lt hb
theorem lt_add (a b : Nat) : addT .u32 a b < 2 ^ 32 := by unfold addT; rw [p32]; exact Nat.mod_lt _ (by decide)
theorem e_right (x n : Nat) (hn : n ≤ 32) : Eq32 (turnT 32 x n) (rightT .u32 x n 32) := by
  unfold Eq32 turnT rightT
  rw [cut_32, Nat.mod_mod]
  have h1 : shrT .u64 x n = shrT .u32 x n := by
    unfold shrT; rw [show min n IntKind.u64.bits = n by show min n 64 = n; omega, show min n IntKind.u32.bits = n by show min n 32 = n; omega]
  rw [h1]
  refine e_lor (e_refl _) ?_
  unfold Eq32
  rw [show min (32 - n) IntKind.u64.bits = 32 - n by show min (32 - n) 64 = 32 - n; omega, show min (32 - n) IntKind.u32.bits = 32 - n by show min (32 - n) 32 = 32 - n; omega, p64, p32, mm, Nat.mod_mod]
theorem e_little (x a b d : Nat) (ha : a ≤ 32) (hb : b ≤ 32) (hd : d ≤ 32) : Eq32 (mixW 32 x a b d true) (littleT .u32 x a b d 32) := by
  unfold mixW littleT
  rw [if_pos rfl]
  refine e_xor (e_xor (e_right x a ha) (e_right x b hb)) ?_
  have h1 : shrT .u64 x d = shrT .u32 x d := by
    unfold shrT; rw [show min d IntKind.u64.bits = d by show min d 64 = d; omega, show min d IntKind.u32.bits = d by show min d 32 = d; omega]
  rw [h1]; exact e_refl _
theorem e_big (x a b d : Nat) (ha : a ≤ 32) (hb : b ≤ 32) (hd : d ≤ 32) : Eq32 (mixW 32 x a b d false) (bigT .u32 x a b d 32) := by
  unfold mixW bigT
  exact e_xor (e_xor (e_right x a ha) (e_right x b hb)) (e_right x d hd)
theorem e_choice (v : List Nat) : Eq32 (choiceT .u64 v) (choiceT .u32 v) := e_xor (e_and (e_refl _) (e_refl _)) (e_and (e_not _) (e_refl _))
theorem e_most (v : List Nat) : Eq32 (mostT .u64 v) (mostT .u32 v) := e_xor (e_xor (e_and (e_refl _) (e_refl _)) (e_and (e_refl _) (e_refl _))) (e_and (e_refl _) (e_refl _))

theorem sched32_add (bs : List Nat) : ∀ n m t W, sched32 bs (n + m) t W = sched32 bs m (t + n) (sched32 bs n t W) := by
  intro n; induction n with
  | zero => intro m t W; rw [Nat.zero_add]; rfl
  | succ n ih => intro m t W; rw [Nat.succ_add]; show sched32 bs (n + m) (t + 1) _ = _; rw [ih]; rw [show t + 1 + n = t + (n + 1) by omega]; rfl
/-- four bytes are a short word -/
theorem acc_32 : ∀ (l : List Nat) (x j : Nat), (∀ b ∈ l, b < 256) → x < 2 ^ (8 * j) → j + l.length ≤ 4 → accT .u64 x l = accT .u32 x l ∧ accT .u64 x l < 2 ^ (8 * (j + l.length)) := by
  intro l
  induction l with
  | nil => intro x j _ hx _; exact ⟨rfl, hx⟩
  | cons b l ih =>
    intro x j hb hx hj
    have hb0 := hb b (by simp)
    simp only [List.length_cons] at hj
    have hx4 : x * 2 ^ 8 < 2 ^ (8 * (j + 1)) := by
      rw [show 8 * (j + 1) = 8 * j + 8 by omega, Nat.pow_add]; exact (Nat.mul_lt_mul_right (by decide)).mpr hx
    have hle : 2 ^ (8 * (j + 1)) ≤ 2 ^ 32 := Nat.pow_le_pow_right (by decide) (by omega)
    have hbj : b < 2 ^ (8 * (j + 1)) := Nat.lt_of_lt_of_le hb0 (by rw [show (256 : Nat) = 2 ^ 8 by decide]; exact Nat.pow_le_pow_right (by decide) (by omega))
    have e64 : lorT .u64 ((x * 2 ^ min 8 IntKind.u64.bits) % pow2 .u64) (b % pow2 .u64) = x * 2 ^ 8 ||| b := by
      have h1 : (x * 2 ^ min 8 IntKind.u64.bits) % pow2 .u64 = x * 2 ^ 8 := by
        rw [show min 8 IntKind.u64.bits = 8 by rfl, p64]; exact Nat.mod_eq_of_lt (by omega)
      have h2 : b % pow2 .u64 = b := by rw [p64]; exact Nat.mod_eq_of_lt (by omega)
      unfold lorT
      rw [h1, h2, p64, Nat.mod_eq_of_lt (show x * 2 ^ 8 < 2 ^ 64 by omega), Nat.mod_eq_of_lt (show b < 2 ^ 64 by omega)]
      show (x * 2 ^ 8 ||| b) % 2 ^ 64 = _
      refine Nat.mod_eq_of_lt (Nat.lt_of_lt_of_le (Nat.or_lt_two_pow hx4 hbj) (by omega))
    have e32 : lorT .u32 ((x * 2 ^ min 8 IntKind.u32.bits) % pow2 .u32) (b % pow2 .u32) = x * 2 ^ 8 ||| b := by
      have h1 : (x * 2 ^ min 8 IntKind.u32.bits) % pow2 .u32 = x * 2 ^ 8 := by
        rw [show min 8 IntKind.u32.bits = 8 by rfl, p32]; exact Nat.mod_eq_of_lt (by omega)
      have h2 : b % pow2 .u32 = b := by rw [p32]; exact Nat.mod_eq_of_lt (by omega)
      rw [h1, h2, lor32, Nat.mod_eq_of_lt (show x * 2 ^ 8 < 2 ^ 32 by omega), Nat.mod_eq_of_lt (show b < 2 ^ 32 by omega)]
    have := ih (x * 2 ^ 8 ||| b) (j + 1) (fun c hc => hb c (by simp [hc])) (Nat.or_lt_two_pow hx4 hbj) (by omega)
    unfold accT at this ⊢
    simp only [List.foldl_cons, e64, e32, List.length_cons]
    rw [show j + (l.length + 1) = j + 1 + l.length by omega]
    exact this
theorem init_32 (b : List Nat) (hb : ∀ x ∈ b, x < 256) : ∀ n t X, t + n ≤ 16 → (∀ i, t ≤ i → X.getD i 0 = 0) → initR 4 (b.take 64) n t X = sched32 b n t X := by
  intro n; induction n with
  | zero => intros; rfl
  | succ n ih =>
    intro t X h hX
    have hw : word32 b t X = X.set t (accT .u32 (X.getD t 0) ((b.drop (t * 4)).take 4)) := by unfold word32; rw [if_neg (by omega)]
    have ha := (acc_32 ((b.drop (t * 4)).take 4) 0 0 (fun x hx => hb x (List.mem_of_mem_drop (List.mem_of_mem_take hx))) (by decide) (by rw [List.length_take]; omega)).1
    rw [initR, sched32, ih (t + 1) _ (by omega) (fun i hi => by
      rw [List.getD_eq_getElem?_getD, List.getElem?_set_ne (by omega), ← List.getD_eq_getElem?_getD]; exact hX i (by omega)), hw, take_drop_take _ _ _ _ (by omega), hX t (Nat.le_refl _), ha]
theorem exp_32 (b : List Nat) : ∀ n t X, 16 ≤ t → expR 32 n t X = sched32 b n t X := by
  intro n; induction n with
  | zero => intros; rfl
  | succ n ih =>
    intro t X h
    have hw : word32 b t X = X.set t (expR1 32 X t) := by
      unfold word32 expR1
      rw [if_pos h, cut_32]
      congr 1
      symm
      refine e_mod (e_add (e_add (e_add (e_little _ 17 19 10 (by omega) (by omega) (by omega)) (e_refl _)) (e_little _ 7 18 3 (by omega) (by omega) (by omega))) (e_refl _)) (lt_add _ _)
    rw [expR, sched32, ih (t + 1) _ (by omega), hw]
theorem blockX_32 (b : List Nat) (hb : ∀ x ∈ b, x < 256) : blockX 32 (b.take 64) = sched32 b 64 0 (List.replicate 80 0) := by
  unfold blockX
  rw [show roundsR 32 - 16 = 48 by rfl, show (32 / 8 : Nat) = 4 by rfl, init_32 b hb 16 0 _ (by omega) (fun i _ => by
    rw [List.getD_eq_getElem?_getD, List.getElem?_replicate]; split <;> rfl), exp_32 b 48 16 _ (by omega)]
  exact (sched32_add b 16 48 0 _).symm
theorem round_32 (X v : List Nat) (i : Nat) (hi : i < 80) : roundR 32 tableP X i v = round32 consts X i v := by
  have h1 : Eq32 (t1R 32 tableP X i v) (oneT32 consts X i v) := by
    unfold t1R oneT32
    refine e_add (e_add (e_add (e_add (e_refl _) (e_big _ 6 11 25 (by omega) (by omega) (by omega))) (e_choice v)) ?_) (e_refl _)
    unfold Eq32
    rw [cr32, tableP_K hi, p32, Nat.mod_mod]
    rfl
  have h2 : Eq32 (t2R 32 v) (twoT32 v) := e_add (e_big _ 2 13 22 (by omega) (by omega) (by omega)) (e_most v)
  unfold roundR round32
  rw [cut_32, cut_32, e_mod (e_add h1 h2) (lt_add _ _), e_mod (e_add (e_refl _) h1) (lt_add _ _)]
theorem rs_32 (X : List Nat) : ∀ n i v, i + n ≤ 80 → rsR 32 tableP X n i v = rounds32 consts X n i v := by
  intro n; induction n with
  | zero => intros; rfl
  | succ n ih => intro i v h; rw [rsR, rounds32, round_32 _ _ _ (by omega), ih (i + 1) _ (by omega)]
theorem add_32 (v : List Nat) : ∀ n i h, addR 32 v n i h = addAll .u32 v n i h := by
  intro n; induction n with
  | zero => intros; rfl
  | succ n ih => intro i h; rw [addR, addAll, ih, cut_32, e_mod (e_add (e_refl _) (e_refl _)) (lt_add _ _)]
theorem block_32 (b h : List Nat) (hb : ∀ x ∈ b, x < 256) : blockR 32 tableP (b.take 64) h = mix32 consts b h := by
  unfold blockR mix32
  rw [blockX_32 b hb, show roundsR 32 = 64 by rfl, rs_32 _ 64 0 _ (by omega), add_32]
theorem blocks_32 (x : List Nat) (hb : ∀ b ∈ x, b < 256) : ∀ n i h, blocksR 32 64 tableP x n i h = blocks32 consts x n i h := by
  intro n; induction n with
  | zero => intros; rfl
  | succ n ih => intro i h; rw [blocksR, blocks32, block_32 _ _ (fun y hy => hb y (List.mem_of_mem_drop hy)), ih]
theorem pad_64 (bs : List Nat) : padR 64 bs = bs.take (bs.length / 64 * 64) ++ tail32 bs := by
  unfold padR tail32
  have hL : bs.length / 64 * 64 ≤ bs.length := Nat.div_mul_le_self _ _
  have hz : (2 * 64 - 64 / 8 - (bs.length + 1) % 64) % 64 = (64 - ((bs.drop (bs.length / 64 * 64) ++ [128]).length + 8) % 64) % 64 := by
    rw [List.length_append, List.length_drop]; simp only [List.length_singleton]; omega
  rw [hz]
  conv => lhs; rw [show bs ++ [128] = bs.take (bs.length / 64 * 64) ++ (bs.drop (bs.length / 64 * 64) ++ [128]) by rw [← List.append_assoc, List.take_append_drop]]
  simp only [List.append_assoc]
theorem lens_lt (L : Nat) : ∀ n x, x ∈ lens L n → x < 256 := by
  intro n; induction n with
  | zero => intro x h; simp [lens] at h
  | succ n ih =>
    intro x h
    simp only [lens, List.mem_cons] at h
    rcases h with rfl | h
    · unfold lenW; split
      · exact Nat.mod_lt _ (by decide)
      · decide
    · exact ih x h
theorem tail32_lt (bs : List Nat) (hb : ∀ b ∈ bs, b < 256) : ∀ b ∈ tail32 bs, b < 256 := by
  intro b h
  unfold tail32 at h
  simp only [List.mem_append, List.mem_singleton, List.mem_replicate] at h
  rcases h with ((h | h) | h) | h
  · exact hb b (List.mem_of_mem_drop h)
  · omega
  · omega
  · exact lens_lt _ _ _ h
theorem word_32 (x : Nat) : ∀ n, n ≤ 4 → wordB .u64 x n = wordB .u32 x n := by
  intro n; induction n with
  | zero => intro _; rfl
  | succ n ih =>
    intro h
    rw [wordB, wordB, ih (by omega), show min (8 * n) IntKind.u64.bits = 8 * n by show min (8 * n) 64 = 8 * n; omega, show min (8 * n) IntKind.u32.bits = 8 * n by show min (8 * n) 32 = 8 * n; omega]
theorem out_32 (st : List Nat) : outB .u64 (32 / 8) st = outB .u32 4 st := by
  have e : (fun x => wordB .u64 x (32 / 8)) = fun x => wordB .u32 x 4 := funext fun x => word_32 x 4 (by omega)
  unfold outB
  rw [e]
theorem sum_32 (bs : List Nat) (hb : ∀ b ∈ bs, b < 256) : sumR0 tableP 32 64 0 bs = hash32 consts start256 bs := by
  have hL : bs.length / 64 * 64 ≤ bs.length := Nat.div_mul_le_self _ _
  have hp : (bs.take (bs.length / 64 * 64)).length = bs.length / 64 * 64 := by rw [List.length_take]; omega
  have hn : (padR 64 bs).length / 64 = bs.length / 64 + (tail32 bs).length / 64 := by
    rw [pad_64, List.length_append, hp, Nat.add_comm, Nat.add_mul_div_right _ _ (by omega), Nat.add_comm]
  unfold sumR0 hash32
  rw [hR_256, hn, pad_64, blocksR_app 32 64 tableP _ _ _ _ (by omega) hp, ← blocks_32 _ (tail32_lt bs hb), ← blocks_32 _ hb, out_32]
  have : blocksR 32 64 tableP (bs.take (bs.length / 64 * 64)) (bs.length / 64) 0 start256 = blocksR 32 64 tableP bs (bs.length / 64) 0 start256 := by
    refine blocksR_congr _ _ _ _ _ _ _ _ _ fun k hk => ?_
    refine take_drop_take _ _ _ _ ?_
    have : (k + 1) * 64 ≤ bs.length / 64 * 64 := Nat.mul_le_mul_right _ (by omega)
    omega
  rw [this]

/-- digest.Sum, as a function of texts -/
def sumT (bits : Nat) (bs : List Nat) : List Nat := if bits = 256 then hash32 consts start256 bs else if bits = 384 then (hash64 consts start384 bs).take 48 else hash64 consts start512 bs
theorem sumT_len {bits : Nat} (h : bits = 256 ∨ bits = 384 ∨ bits = 512) (bs : List Nat) : (sumT bits bs).length = bits / 8 := by
  rcases h with rfl | rfl | rfl
  · unfold sumT; rw [if_pos rfl, hash32_len _ _ _ start256_len]
  · unfold sumT; rw [if_neg (by decide), if_pos rfl, List.length_take, hash64_len _ _ _ start384_len]; rfl
  · unfold sumT; rw [if_neg (by decide), if_neg (by decide), hash64_len _ _ _ start512_len]
/-- BOTH HASHES ARE ONE -/
theorem sums_eq {bits : Nat} (h : bits = 256 ∨ bits = 384 ∨ bits = 512) (bs : List Nat) (hb : ∀ b ∈ bs, b < 256) : sumR tableP bits bs = sumT bits bs := by
  rcases h with rfl | rfl | rfl
  · unfold sumR sumT; rw [if_pos rfl, if_pos rfl, sum_32 bs hb, List.take_of_length_le (by rw [hash32_len _ _ _ start256_len]; omega)]
  · unfold sumR sumT; rw [if_neg (by decide), if_pos rfl, if_neg (by decide), if_pos rfl, sum_64 start384 bs 8 hR_384]
  · unfold sumR sumT; rw [if_neg (by decide), if_neg (by decide), if_neg (by decide), if_neg (by decide), sum_64 start512 bs 0 hR_512, List.take_of_length_le (by rw [hash64_len _ _ _ start512_len]; omega)]
end Go.Am.AmTrydDig

