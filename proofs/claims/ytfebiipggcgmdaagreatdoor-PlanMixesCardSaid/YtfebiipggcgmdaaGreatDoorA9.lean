import Derived.Test.YtfebiipggcgmdaaGreatDoorA8
import Derived.Test.YtfebiipggcgmdaaGreatDoorShelf
namespace Go.Proofs.YtfebiipggcgmdaaGreatDoor
open Go.RowKit

theorem wd_small {V : Nat} (h : nw V ≤ 1) : wd V 0 = V := by
  have h1 := nw_le_iff.1 h
  unfold wd
  rw [Nat.pow_zero, Nat.div_one]
  exact Nat.mod_eq_of_lt (by simpa using h1)
/-- What the outer loop of Gcd keeps. -/
structure GcdRel (w wr : World) (G bx by' X Y : Nat) (lx ly : Bool) : Prop where
  x : IsW wr bx lx (nw X) X
  y : IsW wr by' ly (nw Y) Y
  g : Nat.gcd X Y = G
  b : Below w.heap.size w wr
  nx : w.heap.size ≤ bx
  ny : w.heap.size ≤ by'

set_option maxRecDepth 100000 in
set_option maxHeartbeats 3200000 in
theorem gcd_any (a b : Int) (w : World) (ha : In a) (hb : In b) (he : Env w) :
    Calls Tryz.prog 134 #[.string (it a), .string (it b)] w (OkEnd ((Int.gcd a b : Nat) : Int) w) := by
  have HA := Lib.hid ha
  have HB := Lib.hid hb
  have HE := Lib.hid he
  have HC := Lib.hid (two_cells w (.string (it a)) (.string (it b)) 63)
  have HB0 := Lib.hid ((Below.refl w.heap.size w).alloc (Nat.le_refl _) (.cells #[.string (it a), .string (it b)] 63))
  clear ha hb he
  go_enter Tryz.func134, Tryz.ntmps134
  go_wp2_with fail
  refine (all_ok _ a b _ HA.out HB.out HC.out.1 HC.out.2).mono ?_
  rintro e w1 ⟨rfl, hb1⟩
  have HB1 := Lib.hid (HB0.out.trans (hb1.mono (by simp)))
  clear hb1
  go_wp2_with fail
  refine (read_any a _ HA.out).mono ?_
  rintro e w3 ⟨bx, rfl, hbx, hwx, hb3⟩
  have HB3 := Lib.hid (HB1.out.trans (hb3.mono HB1.out.size))
  have HWX := Lib.hid hwx
  clear hb3 hwx
  go_wp2_with fail
  refine (read_any b _ HB.out).mono ?_
  rintro e w4 ⟨by', rfl, hby, hwy, hb4⟩
  have HWX2 := Lib.hid (HWX.out.below hb4 HWX.out.lt_size)
  have HB4 := Lib.hid (HB3.out.trans (hb4.mono HB3.out.size))
  have HWY := Lib.hid hwy
  clear hb4 hwy
  obtain ⟨G, hG⟩ : ∃ G, Int.gcd a b = G := ⟨_, rfl⟩
  have HGG := Lib.hid hG
  have HG0 := Lib.hid (show GcdRel w w4 G bx by' a.natAbs b.natAbs (decide (a < 0)) (decide (b < 0)) from
    ⟨HWX2.out, HWY.out, hG, HB4.out, by have := HB1.out.size; omega, by have := HB3.out.size; omega⟩)
  clear hG HC HB0 HWX HWX2 HWY hbx hby
  go_wp2
  go_loopg [7, 8] b.natAbs (fun k px py wr => ∃ (bx by' X : Nat) (lx ly : Bool), px = .pointer (some ⟨bx, 0, none⟩) ∧ py = .pointer (some ⟨by', 0, none⟩) ∧ GcdRel w wr G bx by' X k lx ly)
  case atStart => exact ⟨bx, by', a.natAbs, _, _, rfl, rfl, HG0.out⟩
  case round =>
    obtain ⟨cx, cy, X, lx, ly, rfl, rfl, hD⟩ := hrel
    have HD := Lib.hid hD
    have xn := hD.x.num
    have yn := hD.y.num
    by_cases hz : gk = 0
    · subst hz
      have e1 : X = G := by have := hD.g; simpa using this
      have yn0 : wr.cell? ⟨cy, 1, none⟩ = some (.int .i64 0) := by rw [yn, nw_zero]; rfl
      have x0 := hD.x.sgn
      have x0f := hD.x.free 0
      have HX := Lib.hid (hD.x.sets false)
      have HB5 := Lib.hid (below_gb hD.b (gb_setCell (gb_refl wr (some cx)) 0 (.bool false)) hD.nx hD.b.size)
      clear yn hD
      go_wp2_with fail
      refine (text_any cx X false _ HX.out (HE.out.below HB5.out)).mono ?_
      rintro e w7 ⟨rfl, hb7⟩
      have HB7 := Lib.hid (HB5.out.trans (hb7.mono HB5.out.size))
      clear hb7
      go_wp2
      go_ret2
      exact ⟨by rw [HGG.out, ← e1]; rfl, HB7.out⟩
    · have hk : 0 < gk := by omega
      have hp : 0 < nw gk := nw_pos hz
      by_cases hs : nw X ≤ 1 ∧ nw gk ≤ 1
      · obtain ⟨s1, s2⟩ := hs
        have x2 := hD.x.word 0 (by omega)
        have y2 := hD.y.word 0 (by omega)
        rw [wd_small s1] at x2
        rw [wd_small s2] at y2
        have xl := nw_le_iff.1 s1
        have yl := nw_le_iff.1 s2
        have hbb : BB ^ 1 = 1000000000 := by unfold BB; rfl
        rw [hbb] at xl yl
        have hg := hD.g
        have HB5 := Lib.hid hD.b
        have HG := Lib.hid hg
        clear hD hbb hg
        go_wp2
        go_quiet (fail)
        go_wp2
        go_loopg [9, 10] gk (fun k pm pn wz => ∃ m : Nat, pm = .int .i64 m ∧ pn = .int .i64 k ∧ Nat.gcd m k = G ∧ m < 1000000000 ∧ k < 1000000000 ∧ Below w.heap.size w wz)
        case atStart => exact ⟨X, rfl, rfl, HG.out, xl, yl, below_drewN HB5.out _⟩
        case round =>
          obtain ⟨m, rfl, rfl, hg, hm, hk2, hbz⟩ := hrel
          have HG2 := Lib.hid hg
          have HBZ := Lib.hid hbz
          clear hg hbz
          by_cases hz2 : gk = 0
          · subst hz2
            go_wp2_with fail
            refine (of_any m (by omega) (by omega) _ (HE.out.below HBZ.out)).mono ?_
            rintro e w7 ⟨rfl, hb7⟩
            have HB7 := Lib.hid (HBZ.out.trans (hb7.mono HBZ.out.size))
            clear hb7
            go_wp2
            go_ret2
            have e1 : m = G := by have := HG2.out; simpa using this
            exact ⟨by rw [HGG.out, ← e1]; rfl, HB7.out⟩
          · have hb4 : ((gk : Int) == 0) = false := by simp; omega
            have hb5 : ¬ (gk : Int) = 0 := by omega
            have e1 : (m : Int).tmod gk = ((m % gk : Nat) : Int) := (Int.ofNat_tmod m gk).symm
            have hlt := Nat.mod_lt m (show 0 < gk by omega)
            have e2 : IntKind.i64.wrap ((m : Int).tmod gk) = ((m % gk : Nat) : Int) := by rw [e1]; exact IntWalk.i64_in _ (by omega)
            go_wp2
            go_quiet (fail)
            go_wp2
            go_roundg (m % gk)
            case rel => exact ⟨gk, rfl, rfl, by rw [Nat.gcd_comm, ← Nat.gcd_rec, Nat.gcd_comm]; exact HG2.out, hk2, by omega, below_drewN HBZ.out _⟩
            case measure => exact hlt
      · have HB5 := Lib.hid hD.b
        have hy0 := hD.y.lt_size
        rcases (show (1 < nw X) ∨ (nw X ≤ 1 ∧ 1 < nw gk) by omega) with s1 | ⟨s1, s2⟩
        all_goals clear hs hD
        all_goals go_wp2_with fail
        all_goals refine (divided_any cx X cy gk lx ly _ HD.out.x HD.out.y hk).mono ?_
        all_goals rintro e w5 ⟨q, r, rfl, hq, hr, hqr, hwq, hwr, hb5⟩
        all_goals have hB := HB5.out.trans (hb5.mono HB5.out.size)
        all_goals have hyn := HD.out.y.below hb5 HD.out.y.lt_size
        all_goals have HN := Lib.hid (show GcdRel w w5 G cy r gk (X % gk) ly false from ⟨hyn, hwr, by rw [Nat.gcd_comm, ← Nat.gcd_rec, Nat.gcd_comm]; exact HD.out.g, hB, HD.out.ny, by have := HD.out.b.size; omega⟩)
        all_goals clear hwq hwr hb5 hB hyn
        all_goals go_wp2
        · go_roundg (X % gk)
          case rel => exact ⟨_, _, _, _, _, rfl, rfl, HN.out⟩
          case measure => exact Nat.mod_lt _ hk
        · go_roundg (X % gk)
          case rel => exact ⟨_, _, _, _, _, rfl, rfl, HN.out⟩
          case measure => exact Nat.mod_lt _ hk
end Go.Proofs.YtfebiipggcgmdaaGreatDoor

namespace Go.Proofs.YtfebiipggcgmdaaGreatDoor
open Go.RowKit

theorem u8_dig {c : UInt8} (h : 48 ≤ c.toNat ∧ c.toNat ≤ 57) : (c.toNat - 48) + 48 = c.toNat := by omega

theorem cmp_digits : ∀ (l m : List UInt8), Dig l → Dig m → l.length = m.length → Lib.compareBytes l m = ((dv l : Int) - dv m).sign
  | [], [], _, _, _ => by simp [Lib.compareBytes]
  | [], _ :: _, _, _, h => by simp at h
  | _ :: _, [], _, _, h => by simp at h
  | a :: l, b :: m, hl, hm, h => by
    have hlen : l.length = m.length := by simpa using h
    have ha := hl a (List.mem_cons_self ..)
    have hb := hm b (List.mem_cons_self ..)
    have hl' : Dig l := fun x hx => hl x (List.mem_cons_of_mem _ hx)
    have hm' : Dig m := fun x hx => hm x (List.mem_cons_of_mem _ hx)
    have h1 := dv_lt hl'
    have h2 := dv_lt hm'
    have ih := cmp_digits l m hl' hm' hlen
    unfold Lib.compareBytes
    rw [dv_cons, dv_cons]
    rw [hlen] at h1 ⊢
    have key : ∀ x y : Nat, x < y → x * 10 ^ m.length + 10 ^ m.length ≤ y * 10 ^ m.length := fun x y hxy => by
      have := Nat.mul_le_mul_right (10 ^ m.length) (show x + 1 ≤ y from hxy)
      rw [Nat.add_mul] at this
      omega
    by_cases hab : a < b
    · rw [if_pos hab]
      have hab' : a.toNat < b.toNat := hab
      have hk := key (a.toNat - 48) (b.toNat - 48) (by omega)
      exact (Int.sign_eq_neg_one_of_neg (by omega)).symm
    · rw [if_neg hab]
      have hab' : ¬ a.toNat < b.toNat := hab
      by_cases hba : b < a
      · rw [if_pos hba]
        have hba' : b.toNat < a.toNat := hba
        have hk := key (b.toNat - 48) (a.toNat - 48) (by omega)
        exact (Int.sign_eq_one_of_pos (by omega)).symm
      · rw [if_neg hba, ih]
        have hba' : ¬ b.toNat < a.toNat := hba
        have he : a.toNat = b.toNat := by omega
        rw [he]
        congr 1
        omega

theorem dec_lt_of_len {u v : Nat} (h : (Lib.decDigits u).length < (Lib.decDigits v).length) : u < v := by
  refine Nat.lt_of_not_le fun hle => ?_
  rw [Lib.decDigits_length, Lib.decDigits_length] at h
  have h1 : Lib.nDigits v ≤ Lib.nDigits u := by
    have hk : 1 ≤ Lib.nDigits u := by
      rw [← Lib.decDigits_length]
      exact List.length_pos_iff.2 (dec_ne u)
    refine (nDigits_le_iff hk).2 ?_
    have := (nDigits_le_iff hk).1 (Nat.le_refl _)
    omega
  omega

theorem it_nat_size (u : Nat) : (it (u : Int)).size = (Lib.decDigits u).length := by
  rw [← it_nat_list]; rfl

set_option maxRecDepth 100000 in
theorem order_any (u v : Nat) (w : World) : Calls Tryz.prog 119 #[.string (it (u : Int)), .string (it (v : Int))] w fun e w' => e = .returned (.int .i64 ((u : Int) - v).sign) ∧ w' = w := by
  by_cases h : (it (u : Int)).size = (it (v : Int)).size
  · have hc := cmp_digits _ _ (dec_dig u) (dec_dig v) (by rw [← it_nat_size, ← it_nat_size, h])
    rw [dv_dec, dv_dec] at hc
    have HC := Lib.hid hc
    clear hc
    go_enter Tryz.func119, Tryz.ntmps119
    go_wp2_with fail
    refine (Tryz.strings_Compare _ _ _).mono ?_
    rintro e w1 ⟨rfl, rfl⟩
    rw [it_nat_list, it_nat_list, HC.out]
    go_wp2
    go_ret
    exact ⟨rfl, rfl⟩
  · by_cases h2 : (it (u : Int)).size < (it (v : Int)).size
    · have hs : ((u : Int) - v).sign = -1 := Int.sign_eq_neg_one_of_neg (by have := dec_lt_of_len (u := u) (v := v) (by rw [← it_nat_size, ← it_nat_size]; exact h2); omega)
      have HS := Lib.hid hs
      clear hs
      go_enter Tryz.func119, Tryz.ntmps119
      go_wp2
      go_ret
      exact ⟨by rw [HS.out]; rfl, rfl⟩
    · have hs : ((u : Int) - v).sign = 1 := Int.sign_eq_one_of_pos (by have := dec_lt_of_len (u := v) (v := u) (by rw [← it_nat_size, ← it_nat_size]; omega); omega)
      have HS := Lib.hid hs
      clear hs
      go_enter Tryz.func119, Tryz.ntmps119
      go_wp2
      go_ret
      exact ⟨by rw [HS.out]; rfl, rfl⟩

theorem trim_it (z : Int) (w : World) : Calls Tryz.prog 120 #[.string (it z), .string ⟨#[45]⟩] w fun e w' => e = .returned (.string (it (z.natAbs : Int))) ∧ w' = w := by
  refine (Tryz.strings_TrimPrefix (it z) ⟨#[45]⟩ w).mono ?_
  rintro e w1 ⟨rfl, rfl⟩
  refine ⟨?_, rfl⟩
  rw [it_list]
  have h : Lib.trimPrefix (Lib.itoa z) [45] = Lib.decDigits z.natAbs := mag_itoa z
  show Ending.returned (.string ⟨(Lib.trimPrefix (Lib.itoa z) [45]).toArray⟩) = _
  rw [h]
  rfl

/-- A number and no error. -/
def NumEnd (z : Int) (w : World) (e : Ending) (w' : World) : Prop := e = .returned (.tuple #[.int .i64 z, .int .i64 0]) ∧ Below w.heap.size w w'

theorem cmp_same (a b : Int) (h : a.sign = b.sign) : a.sign * ((a.natAbs : Int) - b.natAbs).sign = (a - b).sign := by
  rcases Int.lt_trichotomy a 0 with h1 | h1 | h1
  · have hb : b < 0 := by rw [Int.sign_eq_neg_one_of_neg h1] at h; exact Int.sign_eq_neg_one_iff_neg.1 h.symm
    rw [Int.sign_eq_neg_one_of_neg h1, Int.neg_mul, Int.one_mul, ← Int.sign_neg]
    congr 1; omega
  · subst h1
    have hb : b = 0 := by rw [Int.sign_zero] at h; exact Int.sign_eq_zero_iff_zero.1 h.symm
    subst hb; rfl
  · have hb : 0 < b := by rw [Int.sign_eq_one_of_pos h1] at h; exact Int.sign_eq_one_iff_pos.1 h.symm
    rw [Int.sign_eq_one_of_pos h1, Int.one_mul]
    congr 1; omega
theorem cmp_less {a b : Int} (h : a.sign < b.sign) : (a - b).sign = -1 := by
  refine Int.sign_eq_neg_one_of_neg ?_
  rcases Int.lt_trichotomy a 0 with h1 | h1 | h1 <;> rcases Int.lt_trichotomy b 0 with h2 | h2 | h2 <;> simp_all [Int.sign_eq_neg_one_of_neg, Int.sign_eq_one_of_pos] <;> omega

theorem sign_bd (a : Int) : -1 ≤ a.sign ∧ a.sign ≤ 1 := by
  rcases Int.lt_trichotomy a 0 with h1 | h1 | h1
  · rw [Int.sign_eq_neg_one_of_neg h1]; omega
  · subst h1; decide
  · rw [Int.sign_eq_one_of_pos h1]; omega

set_option maxRecDepth 100000 in
set_option maxHeartbeats 1600000 in
theorem compare_any (a b : Int) (w : World) (ha : In a) (hb : In b) :
    Calls Tryz.prog 75 #[.string (it a), .string (it b)] w (NumEnd (a - b).sign w) := by
  have HA := Lib.hid ha
  have HB := Lib.hid hb
  have HC := Lib.hid (two_cells w (.string (it a)) (.string (it b)) 63)
  have HB0 := Lib.hid ((Below.refl w.heap.size w).alloc (Nat.le_refl _) (.cells #[.string (it a), .string (it b)] 63))
  clear ha hb
  obtain ⟨s, hs⟩ : ∃ s, a.sign = s := ⟨_, rfl⟩
  obtain ⟨t, ht⟩ : ∃ t, b.sign = t := ⟨_, rfl⟩
  have HS := Lib.hid hs
  have HT := Lib.hid ht
  have bs := sign_bd a
  have bt := sign_bd b
  rw [hs] at bs
  rw [ht] at bt
  clear hs ht
  obtain ⟨s1, s2⟩ := bs
  obtain ⟨t1, t2⟩ := bt
  go_enter Tryz.func75, Tryz.ntmps75
  go_wp2_with fail
  refine (all_ok _ a b _ HA.out HB.out HC.out.1 HC.out.2).mono ?_
  rintro e w1 ⟨rfl, hb1⟩
  have HB1 := Lib.hid (HB0.out.trans (hb1.mono (by simp)))
  clear hb1
  go_wp2_with fail
  refine (sign_any a _).mono ?_
  rintro e w2 ⟨rfl, rfl⟩
  rw [HS.out]
  go_wp2_with fail
  refine (sign_any b _).mono ?_
  rintro e w2 ⟨rfl, rfl⟩
  rw [HT.out]
  by_cases h1 : s < t
  · have hE : (a - b).sign = -1 := cmp_less (by rw [HS.out, HT.out]; exact h1)
    have HEE := Lib.hid hE
    clear hE
    go_wp2
    go_ret2
    exact ⟨by rw [HEE.out]; rfl, HB1.out⟩
  · go_wp2_with fail
    refine (sign_any b _).mono ?_
    rintro e w2 ⟨rfl, rfl⟩
    rw [HT.out]
    by_cases h2 : t < s
    · have hE : (a - b).sign = 1 := by
        have h3 := cmp_less (a := b) (b := a) (by rw [HS.out, HT.out]; exact h2)
        rw [show a - b = -(b - a) by omega, Int.sign_neg, h3]; rfl
      have HEE := Lib.hid hE
      clear hE
      go_wp2
      go_ret2
      exact ⟨by rw [HEE.out]; rfl, HB1.out⟩
    · have hst : a.sign = b.sign := by rw [HS.out, HT.out]; omega
      have hE := cmp_same a b hst
      rw [HS.out] at hE
      have bd := sign_bd (a - b)
      rw [← hE] at bd
      have hw : IntKind.i64.wrap (s * ((a.natAbs : Int) - b.natAbs).sign) = s * ((a.natAbs : Int) - b.natAbs).sign := IntWalk.i64_in _ (by omega)
      have HEE := Lib.hid hE
      clear hE hst bd
      go_wp2_with fail
      refine (trim_it a _).mono ?_
      rintro e w2 ⟨rfl, rfl⟩
      go_wp2_with fail
      refine (trim_it b _).mono ?_
      rintro e w2 ⟨rfl, rfl⟩
      go_wp2_with fail
      refine (order_any _ _ _).mono ?_
      rintro e w2 ⟨rfl, rfl⟩
      go_wp2
      go_ret2
      exact ⟨by rw [← HEE.out]; rfl, HB1.out⟩

set_option maxRecDepth 100000 in
theorem signz_any (a : Int) (w : World) (ha : In a) : Calls Tryz.prog 138 #[.string (it a)] w (NumEnd a.sign w) := by
  have HA := Lib.hid ha
  clear ha
  go_enter Tryz.func138, Tryz.ntmps138
  go_wp2_with fail
  refine (check_it a _ HA.out).mono ?_
  rintro e w1 ⟨rfl, hb1⟩
  have HB1 := Lib.hid hb1
  clear hb1
  go_wp2_with fail
  refine (sign_any a _).mono ?_
  rintro e w2 ⟨rfl, rfl⟩
  go_wp2
  go_ret2
  exact ⟨rfl, HB1.out⟩
end Go.Proofs.YtfebiipggcgmdaaGreatDoor

namespace Go.Proofs.YtfebiipggcgmdaaGreatDoor
open Go.RowKit

theorem it_one : it 1 = ⟨#[49]⟩ := by
  apply ba_ext
  show (it ((1 : Nat) : Int)).data.toList = _
  rw [it_nat_list, dec_small (by omega)]
  rfl
theorem it_zero : it 0 = ⟨#[48]⟩ := by
  apply ba_ext
  show (it ((0 : Nat) : Int)).data.toList = _
  rw [it_nat_list, dec_zero]
theorem P_one : 1 < P1024 := Nat.one_lt_pow (by decide) (by decide)
theorem pow_In {a : Int} {n k : Nat} (h : In (a ^ n)) (hk : k ≤ n) : In (a ^ k) := by
  have h1 := h.abs
  refine In.of_abs ?_
  rw [Int.natAbs_pow] at h1 ⊢
  have hp := P_one
  by_cases h0 : a.natAbs = 0
  · rw [h0]
    cases k with
    | zero => simpa using hp
    | succ k => rw [Nat.zero_pow (by omega)]; omega
  · exact Nat.lt_of_le_of_lt (Nat.pow_le_pow_right (by omega) hk) h1

set_option maxRecDepth 100000 in
theorem pow_any (a : Int) (n : Nat) (w : World) (ha : In a) (hn : n ≤ 4096) (hi : In (a ^ n)) (he : Env w) :
    Calls Tryz.prog 61 #[.string (it a), .int .i64 n] w (OkEnd (a ^ n) w) := by
  have HA := Lib.hid ha
  have HI := Lib.hid hi
  have HE := Lib.hid he
  clear ha hi he
  go_enter Tryz.func61, Tryz.ntmps61
  go_wp2_with fail
  refine (check_it a _ HA.out).mono ?_
  rintro e w1 ⟨rfl, hb1⟩
  have HB1 := Lib.hid hb1
  clear hb1
  have hn1 : ¬ (n : Int) < 0 := by omega
  have hn2 : ¬ (4096 : Int) < n := by omega
  go_wp2
  go_loopg [7, 21] n (fun k s i wr => ∃ j : Nat, s = .string (it (a ^ j)) ∧ i = .int .i64 j ∧ j + k = n ∧ Below w.heap.size w wr)
  case atStart => exact ⟨0, by rw [Int.pow_zero, it_one], rfl, by omega, HB1.out⟩
  case round =>
    obtain ⟨j, rfl, rfl, hj, hbl⟩ := hrel
    have HBL := Lib.hid hbl
    clear hbl
    by_cases hz : gk = 0
    · obtain rfl : j = n := by omega
      go_wp2
      go_ret2
      exact ⟨rfl, HBL.out⟩
    · have hlt : j < n := by omega
      have e1 : IntKind.i64.wrap ((j : Int) + 1) = (j : Int) + 1 := IntWalk.i64_in _ (by omega)
      go_wp2_with fail
      refine (muli_any (a ^ j) a _ (pow_In HI.out (by omega)) HA.out (by rw [← Int.pow_succ]; exact pow_In HI.out (by omega)) (HE.out.below HBL.out)).mono ?_
      rintro e w2 ⟨rfl, hb2⟩
      have HB2 := Lib.hid (HBL.out.trans (hb2.mono HBL.out.size))
      clear hb2
      go_wp2
      go_roundg (gk - 1)
      case rel => exact ⟨j + 1, by rw [Int.pow_succ], by simp, by omega, HB2.out⟩
      case measure => omega
end Go.Proofs.YtfebiipggcgmdaaGreatDoor
