import Derived.Test.YtfebiipggcgmdaaGreatDoorR7
namespace Go.Proofs.YtfebiipggcgmdaaGreatDoor
open Go.RowKit

/-! ## The reference's digits: column, bare, less -/
theorem u8w {n : Int} (h0 : 0 ≤ n) (h : n < 256) : IntKind.u8.wrap n = n := by
  obtain ⟨m, rfl⟩ := Int.eq_ofNat_of_zero_le h0
  exact u8_in (by omega)

set_option maxRecDepth 100000 in
theorem column_add (a b : UInt8) (c : Nat) (w : World) (ha : 48 ≤ a.toNat ∧ a.toNat ≤ 57) (hb : 48 ≤ b.toNat ∧ b.toNat ≤ 57) (hc : c ≤ 1) :
    Calls Tryz.prog 148 #[.int .u8 a.toNat, .int .u8 b.toNat, .int .i64 c, .bool true] w fun e w' =>
      e = .returned (.tuple #[.int .u8 ((48 + ((a.toNat - 48) + (b.toNat - 48) + c) % 10 : Nat) : Int), .int .i64 ((((a.toNat - 48) + (b.toNat - 48) + c) / 10 : Nat) : Int)]) ∧ w' = w := by
  obtain ⟨x, hx⟩ : ∃ x : Nat, a.toNat - 48 = x := ⟨_, rfl⟩
  obtain ⟨y, hy⟩ : ∃ y : Nat, b.toNat - 48 = y := ⟨_, rfl⟩
  obtain ⟨p, hp⟩ : ∃ p : Int, (a.toNat : Int) = p := ⟨_, rfl⟩
  obtain ⟨q, hq⟩ : ∃ q : Int, (b.toNat : Int) = q := ⟨_, rfl⟩
  rw [hx, hy, hp, hq]
  have e1 : IntKind.u8.wrap (p - 48) = (x : Int) := by rw [u8w (by omega) (by omega)]; omega
  have e2 : IntKind.u8.wrap (q - 48) = (y : Int) := by rw [u8w (by omega) (by omega)]; omega
  have hxb : x ≤ 9 := by omega
  have hyb : y ≤ 9 := by omega
  clear hx hy hp hq ha hb
  have e3 : IntKind.i64.wrap ((x : Int) - y) = (x : Int) - y := IntWalk.i64_in _ (by omega)
  have e4 : IntKind.i64.wrap ((x : Int) - y - c) = (x : Int) - y - c := IntWalk.i64_in _ (by omega)
  have e5 : IntKind.i64.wrap ((x : Int) + y) = (x : Int) + y := IntWalk.i64_in _ (by omega)
  have e0 : IntKind.i64.wrap (x : Int) = (x : Int) := IntWalk.i64_in _ (by omega)
  have e00 : IntKind.i64.wrap (y : Int) = (y : Int) := IntWalk.i64_in _ (by omega)
  obtain ⟨n, hn⟩ : ∃ n : Nat, x + y + c = n := ⟨_, rfl⟩
  have e6 : IntKind.i64.wrap ((x : Int) + y + c) = (n : Int) := by rw [IntWalk.i64_in _ (by omega)]; omega
  rw [hn]
  have hn19 : n ≤ 19 := by omega
  have e7 : IntKind.i64.wrap (48 + (n : Int)) = 48 + (n : Int) := IntWalk.i64_in _ (by omega)
  have e8 : IntKind.i64.wrap (48 + (n : Int) - 10) = 48 + (n : Int) - 10 := IntWalk.i64_in _ (by omega)
  have hnn : ¬ (n : Int) < 0 := by omega
  clear hn
  by_cases h : 9 < n
  · have hi : 9 < (n : Int) := by omega
    have e9 : IntKind.u8.wrap (48 + (n : Int) - 10) = 48 + (n : Int) - 10 := u8w (by omega) (by omega)
    rw [show n / 10 = 1 by omega, show ((48 + n % 10 : Nat) : Int) = 48 + (n : Int) - 10 by omega]
    clear h hc hxb hyb hn19
    go_enter Tryz.func148, Tryz.ntmps148
    go_wp2
    go_ret2
    exact ⟨rfl, rfl⟩
  · have hi : ¬ 9 < (n : Int) := by omega
    have e9 : IntKind.u8.wrap (48 + (n : Int)) = 48 + (n : Int) := u8w (by omega) (by omega)
    rw [show n / 10 = 0 by omega, show ((48 + n % 10 : Nat) : Int) = 48 + (n : Int) by omega]
    clear h hc hxb hyb hn19
    go_enter Tryz.func148, Tryz.ntmps148
    go_wp2
    go_ret2
    exact ⟨rfl, rfl⟩

set_option maxRecDepth 100000 in
theorem column_sub (a b : UInt8) (c : Nat) (w : World) (ha : 48 ≤ a.toNat ∧ a.toNat ≤ 57) (hb : 48 ≤ b.toNat ∧ b.toNat ≤ 57) (hc : c ≤ 1) :
    Calls Tryz.prog 148 #[.int .u8 a.toNat, .int .u8 b.toNat, .int .i64 c, .bool false] w fun e w' =>
      e = .returned (.tuple #[.int .u8 ((48 + ((a.toNat - 48) + 10 - (b.toNat - 48) - c) % 10 : Nat) : Int), .int .i64 ((1 - ((a.toNat - 48) + 10 - (b.toNat - 48) - c) / 10 : Nat) : Int)]) ∧ w' = w := by
  obtain ⟨x, hx⟩ : ∃ x : Nat, a.toNat - 48 = x := ⟨_, rfl⟩
  obtain ⟨y, hy⟩ : ∃ y : Nat, b.toNat - 48 = y := ⟨_, rfl⟩
  obtain ⟨p, hp⟩ : ∃ p : Int, (a.toNat : Int) = p := ⟨_, rfl⟩
  obtain ⟨q, hq⟩ : ∃ q : Int, (b.toNat : Int) = q := ⟨_, rfl⟩
  rw [hx, hy, hp, hq]
  have e1 : IntKind.u8.wrap (p - 48) = (x : Int) := by rw [u8w (by omega) (by omega)]; omega
  have e2 : IntKind.u8.wrap (q - 48) = (y : Int) := by rw [u8w (by omega) (by omega)]; omega
  have hxb : x ≤ 9 := by omega
  have hyb : y ≤ 9 := by omega
  clear hx hy hp hq ha hb
  obtain ⟨m, hm⟩ : ∃ m : Int, (x : Int) - y - c = m := ⟨_, rfl⟩
  have e3 : IntKind.i64.wrap ((x : Int) - y) = (x : Int) - y := IntWalk.i64_in _ (by omega)
  have e4 : IntKind.i64.wrap ((x : Int) - y - c) = m := by rw [IntWalk.i64_in _ (by omega)]; omega
  have e0 : IntKind.i64.wrap (x : Int) = (x : Int) := IntWalk.i64_in _ (by omega)
  have e00 : IntKind.i64.wrap (y : Int) = (y : Int) := IntWalk.i64_in _ (by omega)
  obtain ⟨n, hn⟩ : ∃ n : Nat, x + 10 - y - c = n := ⟨_, rfl⟩
  rw [hn]
  have hmn : m = (n : Int) - 10 := by omega
  have hn19 : n ≤ 19 := by omega
  have e7 : IntKind.i64.wrap (48 + m) = 48 + m := IntWalk.i64_in _ (by omega)
  have h9 : ¬ 9 < m := by omega
  clear hn hm
  by_cases h : m < 0
  · have e8 : IntKind.i64.wrap (48 + m + 10) = 48 + m + 10 := IntWalk.i64_in _ (by omega)
    have e9 : IntKind.u8.wrap (48 + m + 10) = 48 + m + 10 := u8w (by omega) (by omega)
    rw [show 1 - n / 10 = 1 by omega, show ((48 + n % 10 : Nat) : Int) = 48 + m + 10 by omega]
    clear hc hxb hyb hn19 hmn
    go_enter Tryz.func148, Tryz.ntmps148
    go_wp2
    go_ret2
    exact ⟨rfl, rfl⟩
  · have e9 : IntKind.u8.wrap (48 + m) = 48 + m := u8w (by omega) (by omega)
    rw [show 1 - n / 10 = 0 by omega, show ((48 + n % 10 : Nat) : Int) = 48 + m by omega]
    clear hc hxb hyb hn19 hmn
    go_enter Tryz.func148, Tryz.ntmps148
    go_wp2
    go_ret2
    exact ⟨rfl, rfl⟩

/-- digits without zeros in front -/
def dt (n : Nat) : ByteArray := ⟨(Lib.decDigits n).toArray⟩
theorem dt_it (n : Nat) : dt n = it (n : Int) := by unfold dt it; rw [itoa_nat]

set_option maxRecDepth 100000 in
theorem bare_any (s : ByteArray) (w : World) (hd : Dig s.data.toList) (h0 : s.data.toList ≠ []) :
    Calls Tryz.prog 146 #[.string s] w fun e w' => e = .returned (.string (it (dv s.data.toList : Nat))) ∧ w' = w := by
  obtain ⟨V, hV⟩ : ∃ V, dv s.data.toList = V := ⟨_, rfl⟩
  rw [hV]
  have H0 := Lib.hid (And.intro hd (And.intro h0 hV))
  clear hd h0 hV
  go_enter Tryz.func146, Tryz.ntmps146
  go_wp2
  go_loopg [0] s.size (fun k sv wr => ∃ t : ByteArray, sv = .string t ∧ t.size ≤ k ∧ k ≤ s.size ∧ (Dig t.data.toList ∧ t.data.toList ≠ [] ∧ dv t.data.toList = V) ∧ wr = w)
  case atStart => exact ⟨s, rfl, Nat.le_refl _, Nat.le_refl _, H0.out, rfl⟩
  case round =>
    obtain ⟨t, rfl, hk, hks, ht, rfl⟩ := hrel
    have HT := Lib.hid ht
    obtain ⟨td, tn, tv⟩ := ht
    have htl : t.data.toList.length = t.size := by rw [Array.length_toList]; rfl
    have ht1 : 1 ≤ t.size := by
      have := List.length_pos_iff.2 tn
      omega
    by_cases hone : t.size = 1
    · have h1 : ¬ 1 < (t.size : Int) := by omega
      have HE := Lib.hid (show t = it (V : Int) from ba_ext (by rw [it_nat_list, ← tv]; exact dec_of td tn (.inl (by omega))))
      clear td tn tv htl hone
      go_wp2
      go_ret
      exact ⟨by rw [← HE.out]; rfl, rfl⟩
    · have h1 : 1 < (t.size : Int) := by omega
      have hj : 0 < t.size := by omega
      obtain ⟨b, hb⟩ : ∃ b, t[0] = b := ⟨_, rfl⟩
      have hb2 : t.data.toList[0]? = some b := by rw [List.getElem?_eq_getElem (by omega), ← hb]; rfl
      by_cases h48 : b = 48
      · subst h48
        have hl : t.data.toList = 48 :: t.data.toList.drop 1 := by
          cases hh : t.data.toList with
          | nil => exact absurd hh tn
          | cons x r => rw [hh] at hb2; simp at hb2; subst hb2; rfl
        have HR := Lib.hid (show Dig (t.data.toList.drop 1) ∧ t.data.toList.drop 1 ≠ [] ∧ dv (t.data.toList.drop 1) = V from
          ⟨fun c hc => td c (List.mem_of_mem_drop hc), fun e => by have := congrArg List.length e; rw [List.length_drop, htl] at this; simp at this; omega, by rw [← tv, hl, dv_cons]; simp⟩)
        have hle : (1 : Int) ≤ t.size := by omega
        have HX := Lib.hid (show (t.extract 1 t.size).data.toList = t.data.toList.drop 1 by rw [Lib.extract_data, List.take_of_length_le (by rw [List.length_drop]; omega)])
        have HXS := Lib.hid (show (t.extract 1 t.size).size = t.size - 1 by have h := congrArg List.length HX.out; rw [Array.length_toList, List.length_drop, htl] at h; exact h)
        clear td tn tv hb2 hl hone
        go_wp2
        go_roundg (gk - 1)
        case rel => exact ⟨_, rfl, by rw [HXS.out]; omega, by omega, by rw [HX.out]; exact HR.out, rfl⟩
        case measure => omega
      · have hbn : ¬ (b.toNat : Int) = 48 := by
          intro e
          exact h48 (UInt8.toNat_inj.1 (by show b.toNat = 48; omega))
        have HE := Lib.hid (show t = it (V : Int) from ba_ext (by rw [it_nat_list, ← tv]; exact dec_of td tn (.inr (by rw [List.head?_eq_getElem?, hb2]; simpa using h48))))
        clear td tn tv hb2 h48 hone
        go_wp2
        go_ret
        exact ⟨by rw [← HE.out]; rfl, rfl⟩
end Go.Proofs.YtfebiipggcgmdaaGreatDoor
