import Derived.Test.YtfebiipggcgmdaaGreatDoorShelf
import Derived.Test.YtfebiipggcgmdaaGreatDoorA1
import Derived.Laws.Externs
import Derived.Lib.AppendStr
import Derived.Lib.Builder
import Derived.Shelf.Strings.SlTrimAscii
namespace Go.Proofs.YtfebiipggcgmdaaGreatDoor
open Go.RowKit

/-! ## strings.Builder, whose text here bears a statement that the loader refuses: its three writing methods by walks of our own -/
set_option maxHeartbeats 1000000 in
set_option maxRecDepth 100000 in
theorem cc_used (b : Nat) (w : World) (h0 : w.cell? ⟨b, 0, none⟩ = some (.pointer (some ⟨b, 0, none⟩))) :
    Calls Tryz.prog 188 #[.pointer (some ⟨b, 0, none⟩)] w fun e w' => e = .returned (.tuple #[]) ∧ w' = w := by
  have X := Tryz.Builder_Extra_169.toX72
  obtain ⟨j, hj, _⟩ := Option.map_eq_some_iff.1 X.sizeBuilder
  go_enter Tryz.func188, Tryz.ntmps188
  go_wp2
  rw [Lib.run_neq_ptr_same w _ Tryz.underlying182 hj]
  go_wp2
  go_end0
  exact ⟨rfl, rfl⟩

set_option maxHeartbeats 1000000 in
set_option maxRecDepth 100000 in
theorem cc_fresh (b : Nat) (w : World) (h0 : w.cell? ⟨b, 0, none⟩ = some (.pointer none)) (hsh : w.shape? b = some (184, 2)) (hfz : w.frozen? ⟨b, 0, none⟩ = false) :
    Calls Tryz.prog 188 #[.pointer (some ⟨b, 0, none⟩)] w fun e w' => e = .returned (.tuple #[]) ∧ w' = w.setCell ⟨b, 0, none⟩ (.pointer (some ⟨b, 0, none⟩)) := by
  have X := Tryz.Builder_Extra_169.toX72
  obtain ⟨j, hj, hjs⟩ := Option.map_eq_some_iff.1 X.sizeBuilder
  go_enter Tryz.func188, Tryz.ntmps188
  go_wp2
  rw [Lib.run_to_unsafe w ⟨b, 0, none⟩ Tryz.underlying182 Tryz.underlying220 hj (by rw [hjs]; decide) hsh (Nat.zero_lt_succ 1)]
  simp only [Result.andThen]
  rw [Oper.upon_value]
  go_wp2
  rw [run_callFunc_extern Tryz.func202 (by kernel_rfl) (by kernel_rfl) (by kernel_rfl) (e := Extern.AbiNoEscape.same) (by kernel_rfl)]
  rw [Lib.run_noEscape]
  simp only [Result.andThen]
  rw [Oper.upon_value]
  go_wp2
  rw [Lib.run_from_unsafe w ⟨b, 0, none⟩ Tryz.underlying220 Tryz.underlying182 hj hsh X.liesBuilder]
  simp only [Result.andThen]
  rw [Oper.upon_value]
  go_wp2
  go_end0
  exact ⟨rfl, rfl⟩

theorem cc_any (B b : Nat) (bs : List Value) (w : World) (h : Lib.IsBuilder 184 5 B b bs w) :
    Calls Tryz.prog 188 #[.pointer (some ⟨b, 0, none⟩)] w fun e w' => e = .returned (.tuple #[]) ∧ (Lib.BuilderAt 184 5 B b (.pointer (some ⟨b, 0, none⟩)) bs w' ∧ Below B w w') := by
  rcases h with h | h
  · refine (cc_fresh b w h.cell0 h.shape h.frozen0).mono ?_
    rintro e w' ⟨rfl, rfl⟩
    exact ⟨rfl, h.used _, (Below.refl B w).setCell (p := ⟨b, 0, none⟩) h.1 _⟩
  · refine (cc_used b w h.cell0).mono ?_
    rintro e w' ⟨rfl, rfl⟩
    exact ⟨rfl, h, Below.refl B _⟩

set_option maxHeartbeats 1000000 in
set_option maxRecDepth 100000 in
theorem writeString_any (B b : Nat) (bs : List Value) (s : ByteArray) (w : World) (h : Lib.IsBuilder 184 5 B b bs w) (hlen : bs.length + s.size ≤ 140737488355328) (hBw : B ≤ w.heap.size) :
    Calls Tryz.prog 169 #[.pointer (some ⟨b, 0, none⟩), .string s] w fun e w' =>
      e = .returned (.tuple #[.int .i64 s.size, .nilIface]) ∧ (Lib.BuilderAt 184 5 B b (.pointer (some ⟨b, 0, none⟩)) (bs ++ Lib.strCells s) w' ∧ Below B w w') := by
  obtain ⟨i0, hi, hz0, hz1, hz2⟩ := info_parts Tryz.Builder_Extra_169.infoByte
  go_enter Tryz.func169, Tryz.ntmps169
  go_wp2_with (go_at_call 188; refine (cc_any B b bs _ h).mono ?_)
  rintro e w1 ⟨rfl, h1, hb1⟩
  obtain ⟨hB, v, hbk, hown, hne⟩ := h1
  have c0 : w1.cell? ⟨b, 0, none⟩ = some (.pointer (some ⟨b, 0, none⟩)) := by rw [Lib.cell_of_heap hbk]; rfl
  have c1 : w1.cell? ⟨b, 1, none⟩ = some v := by rw [Lib.cell_of_heap hbk]; rfl
  go_wp2_with (at_builtin; refine Lib.wpList_append_own_string _ rfl _ _ 135 9 rfl B 5 i0 Tryz.underlying135 Tryz.underlying9 hi hz0 hz1 hz2 _ _ _ rfl hown s rfl ?c3 ?c4 ?c5 ?_)
  case c3 => unfold maxLen; omega
  case c4 => omega
  case c5 => have := hb1.size; omega
  intro v' w2 hown' hgrow _
  have hlt : b < w1.heap.size := (Array.getElem?_eq_some_iff.1 hbk).1
  have hb2 : w2.heap[b]? = some (.cells #[.pointer (some ⟨b, 0, none⟩), v] 184 (0, 0)) := by
    rw [hgrow.block b hlt (fun e => hne e.symm)]
    exact hbk
  have d0 : w2.cell? ⟨b, 0, none⟩ = some (.pointer (some ⟨b, 0, none⟩)) := by rw [Lib.cell_of_heap hb2]; rfl
  have d1 : w2.cell? ⟨b, 1, none⟩ = some v := by rw [Lib.cell_of_heap hb2]; rfl
  have f1 : w2.frozen? ⟨b, 1, none⟩ = false := Lib.frozen_of_heap hb2 1
  obtain ⟨ao, n', cap, rfl⟩ : ∃ ao n' cap, v' = .slice ao n' cap := by
    rcases hown'.2 with ⟨hv, _⟩ | ⟨g, cap, cur, hv, _⟩
    · exact ⟨_, _, _, hv⟩
    · exact ⟨_, _, _, hv⟩
  go_wp2
  go_ret2
  refine ⟨rfl, ?_, ?_⟩
  · exact Lib.BuilderAt.put (T := 184) (e := 5) hB hb2 (bs' := bs ++ Lib.strCells s) (by simpa [Lib.strCells_length] using hown') Tryz.Builder_Extra_169.neB5
  · exact (hb1.grown hgrow (by have := hb1.size; omega) (fun k hk => (hown.lt k hk).1)).setCell (p := ⟨b, 1, none⟩) hB _

set_option maxHeartbeats 1000000 in
set_option maxRecDepth 100000 in
theorem writeByte_any (B b : Nat) (bs : List Value) (c : Int) (w : World) (h : Lib.IsBuilder 184 5 B b bs w) (hlen : bs.length + 1 ≤ 140737488355328) (hBw : B ≤ w.heap.size) :
    Calls Tryz.prog 168 #[.pointer (some ⟨b, 0, none⟩), .int .u8 c] w fun e w' =>
      e = .returned .nilIface ∧ (Lib.BuilderAt 184 5 B b (.pointer (some ⟨b, 0, none⟩)) (bs ++ [.int .u8 c]) w' ∧ Below B w w') := by
  obtain ⟨i0, hi, hz0, hz1, hz2⟩ := info_parts Tryz.Builder_Extra_169.infoByte
  go_enter Tryz.func168, Tryz.ntmps168
  go_wp2_with (go_at_call 188; refine (cc_any B b bs _ h).mono ?_)
  rintro e w1 ⟨rfl, h1, hb1⟩
  obtain ⟨hB, v, hbk, hown, hne⟩ := h1
  have hlt : b < w1.heap.size := (Array.getElem?_eq_some_iff.1 hbk).1
  have c0 : w1.cell? ⟨b, 0, none⟩ = some (.pointer (some ⟨b, 0, none⟩)) := by rw [Lib.cell_of_heap hbk]; rfl
  have c1 : w1.cell? ⟨b, 1, none⟩ = some v := by rw [Lib.cell_of_heap hbk]; rfl
  go_wp2_with (at_builtin; refine wpList_append_own _ rfl _ _ 135 rfl B 5 i0 (.int .u8 0) 1 1 Tryz.underlying135 hi hz0 hz1 hz2 rfl (by decide) _ _ _ rfl (hown.alloc _) ⟨w1.heap.size, 0, none⟩ 1 1 [.int .u8 c] rfl rfl ?c1 ?c2 ?c3 ?c4 ?c5 ?_)
  case c1 =>
    intro j u hj
    match j, hj with
    | 0, hj => simp at hj; subst hj; simp [Addr.add]
  case c2 => intro u hu; simp at hu; subst hu; rfl
  case c3 => unfold maxLen; omega
  case c4 => omega
  case c5 => have := hb1.size; simp; omega
  intro v' w2 hown' hgrow _
  have hb2 : w2.heap[b]? = some (.cells #[.pointer (some ⟨b, 0, none⟩), v] 184 (0, 0)) := by
    rw [hgrow.block b (by simp; omega) (fun e => hne e.symm), Lib.alloc_old w1 _ b hlt]
    exact hbk
  have d0 : w2.cell? ⟨b, 0, none⟩ = some (.pointer (some ⟨b, 0, none⟩)) := by rw [Lib.cell_of_heap hb2]; rfl
  have d1 : w2.cell? ⟨b, 1, none⟩ = some v := by rw [Lib.cell_of_heap hb2]; rfl
  have f1 : w2.frozen? ⟨b, 1, none⟩ = false := Lib.frozen_of_heap hb2 1
  obtain ⟨g, cap, rfl⟩ : ∃ g cap, v' = .slice (some ⟨g, 0, none⟩) (bs.length + 1) cap := by
    rcases hown'.2 with ⟨_, h0⟩ | ⟨g, cap, cur, hv, _⟩
    · omega
    · exact ⟨g, cap, hv⟩
  go_wp2
  go_ret
  refine ⟨rfl, ?_, ?_⟩
  · exact Lib.BuilderAt.put (T := 184) (e := 5) hB hb2 (bs' := bs ++ [.int .u8 c]) (by simpa using hown') Tryz.Builder_Extra_169.neB5
  · exact ((hb1.alloc (by have := hb1.size; omega) _).grown hgrow (by have := hb1.size; simp; omega) (fun k hk => (hown.lt k hk).1)).setCell (p := ⟨b, 1, none⟩) hB _
end Go.Proofs.YtfebiipggcgmdaaGreatDoor

namespace Go.Proofs.YtfebiipggcgmdaaGreatDoor
open Go.RowKit

/-- What the library's package-level variables hold. -/
structure Env (w : World) : Prop where
  tab : Lib.TabIs Tryz.prog w "internal/strconv.uint64pow10" .u64 Lib.pow10Tab
  mx : ∃ m, w.cell? ⟨0, 0, none⟩ = some (.int .i64 m)

theorem var_below {P : Program} {w w' : World} {n : String} {cs : Array Value} (h : w.var? P n = some cs) (hb : Below w.heap.size w w') : w'.var? P n = some cs := by
  unfold World.var? at *
  cases hg : P.globalNamed n with
  | none => rw [hg] at h; cases h
  | some g =>
    rw [hg] at h
    simp only [Option.bind_some] at *
    cases hh : w.heap[g]? with
    | none => rw [hh] at h; cases h
    | some o =>
      have hlt : g < w.heap.size := (Array.getElem?_eq_some_iff.1 hh).1
      rw [hb.block g hlt]; exact h
theorem Env.below {w w' : World} (h : Env w) (hb : Below w.heap.size w w') : Env w' := by
  refine ⟨var_below h.tab hb, ?_⟩
  obtain ⟨m, hm⟩ := h.mx
  exact ⟨m, (hb.cell (World.block_lt_of_cell? w _ hm)).trans hm⟩
theorem Env.dr {w w' : World} (h : Env w) (hb : Dr w w') : Env w' := h.below (hb.below _)
theorem Env.drewN {w : World} (h : Env w) (m : Nat) : Env (w.drewN m) := h.dr (Dr.of w m)
theorem Env.alloc {w : World} (h : Env w) (o : Obj) : Env (w.alloc o) := h.below ((Below.refl _ _).alloc (Nat.le_refl _) _)

/-- strconv.Itoa. -/
theorem itoa_any (n : Int) (h0 : -9223372036854775808 ≤ n) (h1 : n ≤ 9223372036854775807) (w : World) (he : Env w) :
    Calls Tryz.prog 133 #[.int .i64 n] w fun e w' => e = .returned (.string (it n)) ∧ Below w.heap.size w w' := by
  refine (Tryz.strconv_Itoa n h0 h1 w he.tab).mono ?_
  rintro e w' ⟨rfl, k, os, rfl⟩
  refine ⟨rfl, rfl, rfl, rfl, by simp [«Sort».grow], fun i hi => ?_⟩
  show (w.heap ++ os)[i]? = w.heap[i]?
  exact Array.getElem?_append_left hi

/-- strconv.Atoi of digits, at most eighteen, with or without a sign. -/
theorem atoi_any (s : ByteArray) (n : Int) (hl : s.size ≤ 18) (h : Lib.atoi s.data.toList = some n) (w : World) :
    Calls Tryz.prog 149 #[.string s] w fun e w' => e = .returned (.tuple #[.int .i64 n, .nilIface]) ∧ Below w.heap.size w w' := by
  refine (Tryz.strconv_Atoi s n hl h w).mono ?_
  rintro e w' ⟨rfl, t, rfl⟩
  exact ⟨rfl, Lib.bytesWorld_below w _ t⟩

/-! ## whole.Check -/
def digs10 : ByteArray := ⟨#[48, 49, 50, 51, 52, 53, 54, 55, 56, 57]⟩
theorem mem_digs (b : UInt8) : digs10.data.toList.contains b = decide (48 ≤ b.toNat ∧ b.toNat ≤ 57) := by
  revert b
  have h : ∀ i : Fin 256, digs10.data.toList.contains (UInt8.ofNat i.val) = decide (48 ≤ (UInt8.ofNat i.val).toNat ∧ (UInt8.ofNat i.val).toNat ≤ 57) := by decide +kernel
  intro b
  have := h ⟨b.toNat, b.toNat_lt⟩
  simpa using this
theorem dropWhile_nil {α : Type} {p : α → Bool} {l : List α} : l.dropWhile p = [] ↔ ∀ b, b ∈ l → p b = true := by
  induction l with
  | nil => simp
  | cons a r ih =>
    rw [List.dropWhile_cons]
    split
    · rename_i h; rw [ih]; simp [h]
    · rename_i h; simp [h]
theorem dropWhile_head {α : Type} {p : α → Bool} {l r : List α} {a : α} (h : l.dropWhile p = a :: r) : p a = false := by
  induction l with
  | nil => cases h
  | cons b m ih =>
    rw [List.dropWhile_cons] at h
    split at h
    · exact ih h
    · rename_i hb
      injection h with h1 _
      subst h1
      simpa using hb
theorem trimS_digits (l : List UInt8) : Lib.trimS l digs10.data.toList = [] ↔ Dig l := by
  unfold Lib.trimS Lib.trimLeftS Lib.trimRightS Dig
  constructor
  · intro h b hb
    rw [dropWhile_nil] at h
    cases hd : l.reverse.dropWhile (digs10.data.toList.contains ·) with
    | nil =>
      have := dropWhile_nil.1 hd b (by simpa using hb)
      rw [mem_digs] at this; simpa using this
    | cons a r =>
      have h1 := dropWhile_head hd
      have h2 := h a (by rw [hd]; simp)
      rw [h1] at h2; cases h2
  · intro h
    rw [dropWhile_nil]
    intro b hb
    rw [List.mem_reverse] at hb
    have hb2 : b ∈ l.reverse := (List.dropWhile_sublist _).subset hb
    rw [mem_digs]
    have := h b (by simpa using hb2)
    simpa using this

/-- what stands behind the sign -/
def mag (l : List UInt8) : List UInt8 := Lib.trimPrefix l [45]
theorem mag_eq (l : List UInt8) : mag l = if l.head? = some 45 then l.tail else l := by
  unfold mag Lib.trimPrefix Lib.hasPrefix
  cases l with
  | nil => rfl
  | cons a r =>
    by_cases h : a = 45
    · subst h; simp [List.isPrefixOf]
    · have h2 : ¬ (45 : UInt8) = a := fun e => h e.symm
      simp [List.isPrefixOf, h, h2]
theorem wChkL_spec (l : List UInt8) : wChkL l = if mag l = [] ∨ ¬ Dig (mag l) then 3 else if (mag l).head? = some 48 ∧ l ≠ [48] then 3 else if 1024 < (mag l).length then 11 else 0 := by
  by_cases h45 : l.head? = some 45
  · have hm : mag l = l.tail := by rw [mag_eq, if_pos h45]
    have hl : l ≠ [48] := by rintro rfl; simp at h45
    rw [hm]
    unfold wChkL canL
    rw [if_pos h45]
    cases hc : canN l.tail with
    | none =>
      unfold canN at hc
      split at hc
      · cases hc
      · rename_i h
        simp only
        by_cases h1 : l.tail = [] ∨ ¬ Dig l.tail
        · rw [if_pos h1]
        · rw [if_neg h1]
          simp only [not_or, Classical.not_not] at h1
          rw [if_pos]
          refine ⟨Classical.byContradiction fun h2 => h ⟨h1.1, h1.2, .inr h2⟩, hl⟩
    | some u =>
      have hu := canN_some hc
      have hd : Dig l.tail := by rw [hu]; exact dec_dig u
      have hne : l.tail ≠ [] := by rw [hu]; exact dec_ne u
      rw [if_neg (by simp only [not_or, Classical.not_not]; exact ⟨hne, hd⟩)]
      cases u with
      | zero => rw [dec_zero] at hu; rw [hu, if_pos ⟨rfl, hl⟩]; rfl
      | succ u =>
        rw [if_neg (fun h => by have := dec_head (u := u + 1) (by omega); rw [← hu] at this; exact this h.1)]
        simp only
        have e : dl (-((u + 1 : Nat) : Int)) = l.tail.length := by
          rw [hu, Lib.decDigits_length]; unfold dl; congr 1
        rw [e]
        by_cases h1 : l.tail.length ≤ 1024
        · rw [if_pos h1, if_neg (by omega)]
        · rw [if_neg h1, if_pos (by omega)]
  · have hm : mag l = l := by rw [mag_eq, if_neg h45]
    rw [hm]
    unfold wChkL canL
    rw [if_neg h45]
    cases hc : canN l with
    | none =>
      unfold canN at hc
      split at hc
      · cases hc
      · rename_i h
        simp only [Option.map_none]
        by_cases h1 : l = [] ∨ ¬ Dig l
        · rw [if_pos h1]
        · rw [if_neg h1]
          simp only [not_or, Classical.not_not] at h1
          rw [if_pos]
          refine ⟨Classical.byContradiction fun h2 => h ⟨h1.1, h1.2, .inr h2⟩, fun e => h ⟨h1.1, h1.2, .inl (by rw [e]; rfl)⟩⟩
    | some u =>
      have hu := canN_some hc
      have hd : Dig l := by rw [hu]; exact dec_dig u
      have hne : l ≠ [] := by rw [hu]; exact dec_ne u
      rw [if_neg (by simp only [not_or, Classical.not_not]; exact ⟨hne, hd⟩)]
      have e : dl (u : Int) = l.length := by rw [hu, Lib.decDigits_length]; unfold dl; congr 1
      have h0 : ¬ (l.head? = some 48 ∧ l ≠ [48]) := by
        rintro ⟨h1, h2⟩
        cases u with
        | zero => rw [dec_zero] at hu; exact h2 hu
        | succ u => have := dec_head (u := u + 1) (by omega); rw [← hu] at this; exact this h1
      rw [if_neg h0]
      simp only [Option.map_some]
      rw [e]
      by_cases h1 : l.length ≤ 1024
      · rw [if_pos h1, if_neg (by omega)]
      · rw [if_neg h1, if_pos (by omega)]
end Go.Proofs.YtfebiipggcgmdaaGreatDoor

namespace Go.Proofs.YtfebiipggcgmdaaGreatDoor
open Go.RowKit

theorem trim_any (s : ByteArray) (w : World) (hs : s.size ≤ 9223372036854775807) :
    Calls Tryz.prog 139 #[.string s, .string ⟨#[48, 49, 50, 51, 52, 53, 54, 55, 56, 57]⟩] w fun e w' => e = .returned (.string ⟨(Lib.trimS s.data.toList digs10.data.toList).toArray⟩) ∧ Below w.heap.size w w' :=
  Any.strings_Trim_laid Tryz.lays160 (by kernel_rfl) s digs10 w hs (by decide) (ascii_of_all (by decide))

theorem head48 (c : UInt8) (t : List UInt8) : (c :: t).head? = some 48 ↔ (c.toNat : Int) = 48 := by
  simp only [List.head?_cons, Option.some.injEq]
  constructor
  · rintro rfl; rfl
  · intro h; exact UInt8.toNat_inj.1 (by have : (48 : UInt8).toNat = 48 := rfl; omega)

set_option maxRecDepth 100000 in
set_option maxHeartbeats 800000 in
theorem check_any (s : ByteArray) (w : World) (hs : s.size ≤ 4611686018427387904) :
    Calls Tryz.prog 108 #[.string s] w fun e w' => e = .returned (.int .i64 (wChk s)) ∧ Below w.heap.size w w' := by
  have hspec := wChkL_spec s.data.toList
  have hml : (mag s.data.toList).length ≤ s.size := by
    rw [mag_eq]
    have : s.data.toList.length = s.size := rfl
    split
    · simp only [List.length_tail]; omega
    · omega
  unfold wChk
  unfold mag at hml hspec
  generalize wChkL s.data.toList = r at *
  have HS := Lib.hid hspec
  clear hspec
  go_enter Tryz.func108, Tryz.ntmps108
  go_wp2_with fail
  refine (Tryz.strings_TrimPrefix s _ _).mono ?_
  rintro e w' ⟨rfl, rfl⟩
  have hs2 := HS.out
  rw [show ({ data := #[45] } : ByteArray).data.toList = [45] from rfl] at *
  generalize Lib.trimPrefix s.data.toList [45] = d at *
  cases d with
  | nil =>
    rw [if_pos (.inl rfl)] at hs2
    subst hs2
    clear HS
    go_wp2_with fail
    go_ret
    exact ⟨rfl, Below.refl _ _⟩
  | cons c t =>
    have hsz : (⟨(c :: t).toArray⟩ : ByteArray).size ≤ 9223372036854775807 := by show (c :: t).toArray.size ≤ _; simp at hml ⊢; omega
    have htr := trimS_digits (c :: t)
    have HSZ := Lib.hid hsz
    have HTR := Lib.hid htr
    have HML := Lib.hid hml
    have HS2 := Lib.hid hs2
    clear hsz htr hml hs2 HS
    go_wp2_with fail
    refine (trim_any ⟨(c :: t).toArray⟩ _ HSZ.out).mono ?_
    rintro e w1 ⟨rfl, hb⟩
    have htr := HTR.out
    rw [show ({ data := (c :: t).toArray } : ByteArray).data.toList = c :: t from rfl] at *
    have hs2 := HS2.out
    have HB := Lib.hid hb
    clear HTR HS2 hb
    generalize Lib.trimS (c :: t) digs10.data.toList = q at *
    cases q with
    | cons a q =>
      have hnd : ¬ Dig (c :: t) := fun h => by have := htr.2 h; cases this
      rw [if_pos (.inr hnd)] at hs2
      subst hs2
      clear hnd htr
      go_wp2_with fail
      go_ret
      exact ⟨rfl, HB.out⟩
    | nil =>
      have hd : Dig (c :: t) := htr.1 rfl
      rw [if_neg (by simp only [not_or, Classical.not_not]; exact ⟨by simp, hd⟩)] at hs2
      have hc := hd c (by simp)
      have HC := Lib.hid hc
      have HS2 := Lib.hid hs2
      clear hd htr hs2 hc
      go_wp2_with fail
      all_goals have hs2 := HS2.out
      all_goals have hc := HC.out
      all_goals have hh := head48 c t
      all_goals have hl : (c :: t).length = t.length + 1 := rfl
      · have h1 : (c.toNat : Int) = 48 := by assumption
        have h2 : (!s.toList == [48]) = true := by assumption
        rw [if_pos ⟨hh.2 h1, by rw [← Lib.toList_data s]; simpa using h2⟩] at hs2
        subst hs2
        go_ret
        exact ⟨rfl, HB.out⟩
      · have h2 : (!s.toList == [48]) = false := by assumption
        have h3 : (1024 : Int) < (t.length : Int) + 1 := by assumption
        rw [if_neg (fun h => h.2 (by rw [← Lib.toList_data s]; simpa using h2)), if_pos (by rw [hl]; omega)] at hs2
        subst hs2
        go_ret
        exact ⟨rfl, HB.out⟩
      · have h2 : (!s.toList == [48]) = false := by assumption
        have h3 : (t.length : Int) + 1 ≤ 1024 := by assumption
        rw [if_neg (fun h => h.2 (by rw [← Lib.toList_data s]; simpa using h2)), if_neg (by rw [hl]; omega)] at hs2
        subst hs2
        go_ret
        exact ⟨rfl, HB.out⟩
      · have h1 : ¬ (c.toNat : Int) = 48 := by assumption
        have h3 : (1024 : Int) < (t.length : Int) + 1 := by assumption
        rw [if_neg (fun h => h1 (hh.1 h.1)), if_pos (by rw [hl]; omega)] at hs2
        subst hs2
        go_ret
        exact ⟨rfl, HB.out⟩
      · have h1 : ¬ (c.toNat : Int) = 48 := by assumption
        have h3 : (t.length : Int) + 1 ≤ 1024 := by assumption
        rw [if_neg (fun h => h1 (hh.1 h.1)), if_neg (by rw [hl]; omega)] at hs2
        subst hs2
        go_ret
        exact ⟨rfl, HB.out⟩
end Go.Proofs.YtfebiipggcgmdaaGreatDoor
