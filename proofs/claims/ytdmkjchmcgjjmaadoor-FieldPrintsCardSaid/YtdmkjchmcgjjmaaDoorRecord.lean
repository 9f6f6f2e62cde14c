/- The program's field.record: what a line says (written by wip/gen_record.py). Conditions: the text is of moderate size; the package's variables hold what they hold. -/
import Derived.Test.YtdmkjchmcgjjmaaDoorEnds
import Derived.Test.YtdmkjchmcgjjmaaDoorScope
namespace Go.Proofs.YtdmkjchmcgjjmaaDoor
open Go Go.RowKit

/-- an error's value -/
def errW (k : Int) : Value := .iface 77 (.agg #[.int .i64 k])
def errV (k : Int) : Value := if k = 0 then .nilIface else errW k
/-- a line's text, its remark and its blanks taken away -/
def bodyB (s : ByteArray) : ByteArray := trimT (cutH s ⟨#[35]⟩)
/-- its parts -/
def partsB (s : ByteArray) : List ByteArray := (splitT 59 (bodyB s)).map trimT
/-- what a line's parts say: an error's number; the record -/
def parseP (l : List ByteArray) : Int × Option (Nat × Nat × List ByteArray) :=
  match endsB (l.headD ⟨#[]⟩) with
  | none => (21, none)
  | some (a, b) => if b < a ∨ 1114111 < b then (22, none) else if l.length < 2 ∨ 21 < l.length then (23, none) else (0, some (a, b, l.tail))
/-- what a line says -/
def lineB (s : ByteArray) : Int × Option (Nat × Nat × List ByteArray) := if bodyB s = ⟨#[]⟩ then (0, none) else parseP (partsB s)
/-- texts in a block of texts -/
def FldAt (w : World) (lo : Nat) (A : Option Addr) (fs : List ByteArray) : Prop :=
  ∃ (b o : Nat) (cs : Array Value), A = some ⟨b, o, none⟩ ∧ lo ≤ b ∧ w.heap[b]? = some (.cells cs 9 (0, 0)) ∧ ∀ j u, (strCells fs)[j]? = some u → cs[o + j]? = some u
theorem FldAt.keep {w w' : World} {lo : Nat} {A : Option Addr} {fs : List ByteArray} (h : FldAt w lo A fs) (hk : ∀ (b : Nat) (cs : Array Value), w.heap[b]? = some (.cells cs 9 (0, 0)) → w'.heap[b]? = some (.cells cs 9 (0, 0))) : FldAt w' lo A fs := by
  obtain ⟨b, o, cs, e, hl, hh, hc⟩ := h
  exact ⟨b, o, cs, e, hl, hk b cs hh, hc⟩
theorem FldAt.below {w w' : World} {lo : Nat} {A : Option Addr} {fs : List ByteArray} (h : FldAt w lo A fs) (hb : Below w.heap.size w w') : FldAt w' lo A fs :=
  h.keep fun b _ hh => (hb.block b (Array.getElem?_eq_some_iff.1 hh).1).trans hh
theorem FldAt.lower {w : World} {lo lo' : Nat} {A : Option Addr} {fs : List ByteArray} (h : FldAt w lo A fs) (hl : lo' ≤ lo) : FldAt w lo' A fs := by
  obtain ⟨b, o, cs, e, h1, hh, hc⟩ := h
  exact ⟨b, o, cs, e, Nat.le_trans hl h1, hh, hc⟩
theorem FldAt.rds {w : World} {lo : Nat} {A : Option Addr} {fs : List ByteArray} (h : FldAt w lo A fs) (hn : fs.length ≤ 9223372036854775807) : Rds w w.heap.size 1 A fs.length (strCells fs) := by
  obtain ⟨b, o, cs, e, hl, hh, hc⟩ := h
  refine ⟨by rw [strCells_length]; omega, hn, fun _ => ⟨b, o, e, (Array.getElem?_eq_some_iff.1 hh).1, fun j u hu => ?_⟩⟩
  rw [cell_of_row w b (o + j) cs _ (0, 0) hh]
  exact hc j u hu
theorem FldAt.far {w : World} {lo : Nat} {A : Option Addr} {fs : List ByteArray} (h : FldAt w lo A fs) : ∀ p, A = some p → lo ≤ p.block := by
  obtain ⟨b, o, cs, e, hl, hh, hc⟩ := h
  intro p hp
  rw [e] at hp
  injection hp with hp
  subst hp
  exact hl
/-- what record answers -/
def RecA (w : World) (r : Int × Option (Nat × Nat × List ByteArray)) (e : Ending) (w' : World) : Prop :=
  (r.2 = none ∧ e = .returned (.tuple #[.pointer none, errV r.1]) ∧ Below w.heap.size w w') ∨
  (∃ (a b : Nat) (fs : List ByteArray) (g : Nat) (A : Option Addr) (c : Nat), r = (0, some (a, b, fs)) ∧ a < 2 ^ 24 ∧ b < 2 ^ 24 ∧ e = .returned (.tuple #[.pointer (some ⟨g, 0, none⟩), .nilIface]) ∧ w.heap.size ≤ g ∧
    Blk w' g 31 #[.int .i64 0, .int .i64 (a : Int), .int .i64 (b : Int), .slice A fs.length c] ∧ fs.length ≤ c ∧ 1 ≤ fs.length ∧ fs.length ≤ 20 ∧ FldAt w' w.heap.size A fs ∧ Below w.heap.size w w')
theorem recA_none {w w' : World} {r : Int × Option (Nat × Nat × List ByteArray)} {k : Int} (h : r = (k, none)) (hk : k ≠ 0) (hb : Below w.heap.size w w') : RecA w r (.returned (.tuple #[.pointer none, errW k])) w' := by
  subst h
  exact .inl ⟨rfl, by unfold errV; rw [if_neg hk], hb⟩
theorem recA_empty {w w' : World} {r : Int × Option (Nat × Nat × List ByteArray)} (h : r = (0, none)) (hb : Below w.heap.size w w') : RecA w r (.returned (.tuple #[.pointer none, .nilIface])) w' := by
  subst h
  exact .inl ⟨rfl, rfl, hb⟩
theorem parse_hex {h : ByteArray} {t : List ByteArray} (he : endsB h = none) : parseP (h :: t) = (21, none) := by
  unfold parseP
  rw [List.headD_cons, he]
theorem parse_range {h : ByteArray} {t : List ByteArray} {a b : Nat} (he : endsB h = some (a, b)) (hb : b < a ∨ 1114111 < b) : parseP (h :: t) = (22, none) := by
  unfold parseP
  rw [List.headD_cons, he]
  exact if_pos hb
theorem parse_field {h : ByteArray} {t : List ByteArray} {a b : Nat} (he : endsB h = some (a, b)) (hb : ¬ (b < a ∨ 1114111 < b)) (ht : (h :: t).length < 2 ∨ 21 < (h :: t).length) : parseP (h :: t) = (23, none) := by
  unfold parseP
  rw [List.headD_cons, he]
  exact (if_neg hb).trans (if_pos ht)
theorem parse_ok {h : ByteArray} {t : List ByteArray} {a b : Nat} (he : endsB h = some (a, b)) (hb : ¬ (b < a ∨ 1114111 < b)) (ht : ¬ ((h :: t).length < 2 ∨ 21 < (h :: t).length)) : parseP (h :: t) = (0, some (a, b, t)) := by
  unfold parseP
  rw [List.headD_cons, he]
  exact (if_neg hb).trans (if_neg ht)
theorem max_scalar : (4697535882029170688 : Nat) = f64 1114111 := by decide +kernel
theorem order_lt {a b : Nat} (ha : a < 2 ^ 24) (hb : b < 2 ^ 24) : (FloatKind.f64.format.order (f64 a) (f64 b) == some Ordering.lt) = decide (a < b) := by
  rw [show FloatKind.f64.format = Ieee.double from rfl, order_f64 ha hb]
  rcases Nat.lt_trichotomy a b with h | h | h
  · rw [Nat.compare_eq_lt.2 h, decide_eq_true h]; rfl
  · rw [Nat.compare_eq_eq.2 h, decide_eq_false (by omega)]; rfl
  · rw [Nat.compare_eq_gt.2 h, decide_eq_false (by omega)]; rfl
theorem order_gt {a b : Nat} (ha : a < 2 ^ 24) (hb : b < 2 ^ 24) : (FloatKind.f64.format.order (f64 a) (f64 b) == some Ordering.gt) = decide (b < a) := by
  rw [show FloatKind.f64.format = Ieee.double from rfl, order_f64 ha hb]
  rcases Nat.lt_trichotomy a b with h | h | h
  · rw [Nat.compare_eq_lt.2 h, decide_eq_false (by omega)]; rfl
  · rw [Nat.compare_eq_eq.2 h, decide_eq_false (by omega)]; rfl
  · rw [Nat.compare_eq_gt.2 h, decide_eq_true h]; rfl

/-- the frame at the label none -/
def At0 (k : Int) (a : Act) : Prop := ∃ f : Nat → Value, a = { tmps := #[f 0, f 1, f 2, f 3, f 4, f 5, f 6, errW k, f 8, f 9, f 10, f 11, f 12, f 13, f 14, f 15, f 16, f 17, f 18, f 19, f 20, f 21, f 22, f 23, f 24, f 25, f 26, f 27, f 28, f 29, f 30, f 31, f 32, f 33, f 34, f 35, f 36, f 37, f 38, f 39, f 40, f 41, f 42, f 43, f 44, f 45, f 46, f 47, f 48, f 49, f 50, f 51, f 52, f 53, f 54, f 55, f 56, f 57, f 58, f 59, f 60, f 61, f 62, f 63, f 64, f 65, f 66, f 67], defers := [] }
theorem at0_mk (k : Int) (u0 u1 u2 u3 u4 u5 u6 u8 u9 u10 u11 u12 u13 u14 u15 u16 u17 u18 u19 u20 u21 u22 u23 u24 u25 u26 u27 u28 u29 u30 u31 u32 u33 u34 u35 u36 u37 u38 u39 u40 u41 u42 u43 u44 u45 u46 u47 u48 u49 u50 u51 u52 u53 u54 u55 u56 u57 u58 u59 u60 u61 u62 u63 u64 u65 u66 u67 : Value) : At0 k { tmps := #[u0, u1, u2, u3, u4, u5, u6, errW k, u8, u9, u10, u11, u12, u13, u14, u15, u16, u17, u18, u19, u20, u21, u22, u23, u24, u25, u26, u27, u28, u29, u30, u31, u32, u33, u34, u35, u36, u37, u38, u39, u40, u41, u42, u43, u44, u45, u46, u47, u48, u49, u50, u51, u52, u53, u54, u55, u56, u57, u58, u59, u60, u61, u62, u63, u64, u65, u66, u67], defers := [] } := ⟨fun i => [u0, u1, u2, u3, u4, u5, u6, undef, u8, u9, u10, u11, u12, u13, u14, u15, u16, u17, u18, u19, u20, u21, u22, u23, u24, u25, u26, u27, u28, u29, u30, u31, u32, u33, u34, u35, u36, u37, u38, u39, u40, u41, u42, u43, u44, u45, u46, u47, u48, u49, u50, u51, u52, u53, u54, u55, u56, u57, u58, u59, u60, u61, u62, u63, u64, u65, u66, u67].getD i undef, rfl⟩

theorem tail_fld {w : World} {base g n c : Nat} {h : ByteArray} {t : List ByteArray} (hr : w.ownsRow base 9 1 (.slice (some ⟨g, 0, none⟩) n c) n (strCells (h :: t))) (hn : 0 < n) : FldAt w base (some ⟨g, 1, none⟩) t := by
  rcases hr.2 with ⟨h1, h2⟩ | ⟨g', cap, cur, e, hg, hh, h1, h2, h3, h4⟩
  · omega
  · injection e with e1 e2 e3
    injection e1 with e1
    injection e1 with e1
    subst e1
    refine ⟨g, 1, cur, rfl, hg, hh, fun j u hu => ?_⟩
    have h5 : (strCells (h :: t))[j + 1]? = some u := by simpa [strCells] using hu
    rw [← h4, List.getElem?_take] at h5
    split at h5
    · rw [Nat.add_comm 1 j]
      simpa using h5
    · cases h5

set_option maxRecDepth 100000 in
set_option maxHeartbeats 4000000 in
theorem record_any (s : ByteArray) (B : Nat) (m : Int) (w : World) (hE : FEnv w B m) (hB : B ≤ w.heap.size) (hs : s.size ≤ 100000) : Calls Tryd.prog 32 #[.string s] w (RecA w (lineB s)) := by
  have hcut := cut_any s ⟨#[35]⟩ B m w hE hs
  have hcs := (cut_size s ⟨#[35]⟩).1
  have HLB : Hid (lineB s = if bodyB s = ⟨#[]⟩ then (0, none) else parseP ((splitT 59 (bodyB s)).map trimT)) := rfl
  have hbd : bodyB s = trimT (cutH s ⟨#[35]⟩) := rfl
  generalize lineB s = R at *
  generalize bodyB s = bd at *
  generalize cutH s ⟨#[35]⟩ = h1 at *
  generalize cutR s ⟨#[35]⟩ = t1 at *
  generalize cutIs s ⟨#[35]⟩ = two at *
  have HTR : Hid (∀ W : World, Calls Tryd.prog 50 #[.string h1, .string ⟨#[32, 9, 13]⟩] W (Freed W (.string bd))) := fun W => by rw [hbd]; exact trim_any h1 W (by omega)
  have hbs : bd.size ≤ 100000 := by
    have := trimT_size h1
    rw [← hbd] at this
    omega
  have hsl := splitT_len 59 bd
  have hsz : ∀ x ∈ splitT 59 bd, x.size ≤ 100000 := fun x hx => Nat.le_trans (splitT_size hx) hbs
  have HSP : Hid (∀ W : World, FEnv W B m → _) := fun W hW => split_any 59 bd B m W hW hbs
  generalize splitT 59 bd = L at *
  have HTM : Hid (∀ (W : World) (A : Option Addr) (c : Nat), Rds W W.heap.size 1 A L.length (strCells L) → _) := fun W A c hr => trimmed_any A L.length c L W hr (by omega) hsz
  have hsz2 : ∀ x ∈ L.map trimT, x.size ≤ 100000 := fun x hx => by
    obtain ⟨y, hy, rfl⟩ := List.mem_map.1 hx
    exact Nat.le_trans (trimT_size y) (hsz y hy)
  have hlen : 1 ≤ (L.map trimT).length ∧ (L.map trimT).length ≤ 100001 := by rw [List.length_map]; omega
  generalize L.map trimT = M at *
  obtain ⟨h0, tl, rfl⟩ : ∃ h0 tl, M = h0 :: tl := by
    cases M with
    | nil => simp at hlen
    | cons x y => exact ⟨x, y, rfl⟩
  have HEN : Hid (∀ W : World, FEnv W B m → B ≤ W.heap.size → _) := fun W h1 h2 => ends_any h0 B m W h1 h2 (hsz2 h0 (by simp))
  have HP1 := hide (@parse_hex h0 tl)
  have HP2 := hide (fun (a b : Nat) => @parse_range h0 tl a b)
  have HP3 := hide (fun (a b : Nat) => @parse_field h0 tl a b)
  have HP4 := hide (fun (a b : Nat) => @parse_ok h0 tl a b)
  generalize parseP (h0 :: tl) = PP at *
  generalize endsB h0 = EN at *
  have HLEN := hide hlen
  have HE := hide hE
  clear hbd hcs hsl hsz hsz2 hlen hE
  go_enter Tryd.func32, Tryd.ntmps32
  go_wp2_with fail
  refine wp_scope_fwd (fun i a' w' => Below w.heap.size w w' ∧ i = 0 ∧ ∃ k : Int, k ≠ 0 ∧ R = (k, none) ∧ At0 k a') ?_ ?_
  · rintro i a' w' ⟨hb', rfl, k, hk0, hR, f, rfl⟩
    refine ⟨_, rfl, ?_⟩
    have HR := hide hR
    have HK := hide hk0
    clear hR hk0 hcut
    generalize hev : errW k = ev
    have HEV := hide hev
    clear hev
    go_wp2_with fail
    go_ret2
    rw [← HEV.out]
    exact recA_none HR.out HK.out hb'
  go_wp2_with fail
  refine hcut.mono ?_
  rintro e w1 ⟨rfl, q1, hw1⟩
  have HB1 := hide (show Below w.heap.size w w1 by rw [hw1]; exact drewN_below _ _ _)
  clear hcut hw1
  go_wp2_with fail
  refine (HTR.out _).mono ?_
  rintro e w2 ⟨rfl, hb2⟩
  have HB2 := hide (HB1.out.trans (hb2.mono HB1.out.size))
  clear HB1 hb2 HTR
  by_cases hbe : bd = ⟨#[]⟩
  · have e1 : (bd.toList == []) = true := list_eq_true hbe
    have HR := hide (HLB.out.trans (if_pos hbe))
    clear HLB hbe
    go_wp2_with fail
    all_goals
      go_ret2
      exact recA_empty HR.out HB2.out
  have e1 : (bd.toList == []) = false := list_eq_false hbe
  have HR := hide (HLB.out.trans (if_neg hbe))
  clear HLB hbe
  go_wp2_with fail
  refine (HSP.out w2 (HE.out.below (HB2.out.mono hB))).mono ?_
  rintro e w3 ⟨rfl, hr3, hb3, hlt3⟩
  have HB3 := hide (HB2.out.trans (hb3.mono HB2.out.size))
  clear HSP hb3
  go_wp2_with fail
  refine (HTM.out w3 _ _ hr3).mono ?_
  rintro e w4 ⟨v4, rfl, hrow, hb4⟩
  have HB4 := hide (HB3.out.trans (hb4.mono HB3.out.size))
  have hwl : w.heap.size ≤ w3.heap.size := HB3.out.size
  clear HTM hr3 hlt3 HB2 HB3 hb4
  obtain ⟨g4, c4, rfl⟩ := own_some hrow (by simp)
  have hcl := (own_rds hrow (Nat.le_refl _) (by have := HLEN.out; omega))
  obtain ⟨A', c', e', hcc, hrd⟩ := hcl
  injection e' with e1' e2' e3'
  subst e1' e3'
  have hg4 := (hrow.lt g4 rfl)
  obtain ⟨b', o', e1', hbb, hcell⟩ := hrd.str (k := 0) (by simp)
  injection e1' with e1'
  injection e1' with e1' e2'
  subst e1' e2'
  simp only [Nat.add_zero, List.getElem_cons_zero] at hcell
  have hl0 : (0 : Int) < ((h0 :: tl).length : Int) := by simp only [List.length_cons]; omega
  have HFL := hide (tail_fld hrow (by simp))
  have HCC := hide hcc
  obtain ⟨n4, hn4⟩ : ∃ n4 : Nat, n4 = (h0 :: tl).length := ⟨_, rfl⟩
  rw [← hn4] at HCC HLEN hl0 HP3 HP4
  simp only [← hn4]
  have HN4 := hide (show n4 = tl.length + 1 by rw [hn4]; rfl)
  clear hn4 hrd hcc hrow
  go_wp2_with fail
  refine (HEN.out w4 (HE.out.below (HB4.out.mono hB)) (Nat.le_trans hB HB4.out.size)).mono ?_
  rintro e w5 ⟨a, b, ha, hb, rfl, hen, hb5⟩
  have HB5 := hide (HB4.out.trans (hb5.mono HB4.out.size))
  have HFL5 := hide (HFL.out.below hb5)
  have HS5 := hide hb5.size
  clear HEN hb5 hcell
  cases hi : EN.isSome with
  | false =>
    have hen2 : EN = none := by cases EN with | none => rfl | some x => cases hi
    have HR2 := hide (HR.out.trans (HP1.out hen2))
    have HEW : Hid (Value.iface 77 (.agg #[.int .i64 21]) = errW 21) := rfl
    clear hi hen hen2 HP1 HP2 HP3 HP4
    go_wp2_with fail
    all_goals
      go_step3
      exact ⟨HB5.out, rfl, 21, by decide, HR2.out, by apply at0_mk⟩
  | true =>
    have hen2 : EN = some (a, b) := by
      rcases hen with h | h
      · rw [h] at hi; cases hi
      · exact h
    have HP2' := hide (HP2.out a b hen2)
    have HP3' := hide (HP3.out a b hen2)
    have HP4' := hide (HP4.out a b hen2)
    have f1 := order_lt hb ha
    have f2 : (FloatKind.f64.format.order (f64 b) 4697535882029170688 == some Ordering.gt) = decide (1114111 < b) := by rw [max_scalar]; exact order_gt hb (by decide)
    have HCA := hide (int_f64 ha)
    have HCB := hide (int_f64 hb)
    have HA := hide ha
    have HBB := hide hb
    have HORD1 := hide f1
    have HORD2 := hide f2
    clear hi hen hen2 HP1 HP2 HP3 HP4 ha hb f1 f2
    by_cases hr1 : b < a
    · have HR2 := hide (HR.out.trans (HP2'.out (.inl hr1)))
      have f1 : (FloatKind.f64.format.order (f64 b) (f64 a) == some Ordering.lt) = true := HORD1.out.trans (decide_eq_true hr1)
      clear HP2' HP3' HP4' HORD1 HORD2 hr1
      go_wp2_with fail
      all_goals
        go_step3
        exact ⟨HB5.out, rfl, 22, by decide, HR2.out, by apply at0_mk⟩
    · by_cases hr2 : 1114111 < b
      · have HR2 := hide (HR.out.trans (HP2'.out (.inr hr2)))
        have f1 : (FloatKind.f64.format.order (f64 b) (f64 a) == some Ordering.lt) = false := HORD1.out.trans (decide_eq_false hr1)
        have f2 : (FloatKind.f64.format.order (f64 b) 4697535882029170688 == some Ordering.gt) = true := HORD2.out.trans (decide_eq_true hr2)
        clear HP2' HP3' HP4' HORD1 HORD2 hr1 hr2
        go_wp2_with fail
        all_goals
          go_step3
          exact ⟨HB5.out, rfl, 22, by decide, HR2.out, by apply at0_mk⟩
      · have f1 : (FloatKind.f64.format.order (f64 b) (f64 a) == some Ordering.lt) = false := HORD1.out.trans (decide_eq_false hr1)
        have f2 : (FloatKind.f64.format.order (f64 b) 4697535882029170688 == some Ordering.gt) = false := HORD2.out.trans (decide_eq_false hr2)
        have hno : ¬ (b < a ∨ 1114111 < b) := by omega
        have HP3n := hide (HP3'.out hno)
        have HP4n := hide (HP4'.out hno)
        clear HP2' HP3' HP4' HORD1 HORD2 hr1 hr2 hno
        by_cases hr3 : n4 < 2 ∨ 21 < n4
        · have HR2 := hide (HR.out.trans (HP3n.out hr3))
          clear HP3n HP4n
          rcases (show (n4 < 2) ∨ (¬ n4 < 2 ∧ 21 < n4) by omega) with h | ⟨h, h'⟩
          · have i1 : decide ((n4 : Int) < 2) = true := decide_eq_true (by omega)
            clear hr3 h
            go_wp2_with fail
            all_goals
              go_step3
              exact ⟨HB5.out, rfl, 23, by decide, HR2.out, by apply at0_mk⟩
          · have i1 : decide ((n4 : Int) < 2) = false := decide_eq_false (by omega)
            have i2 : decide ((21 : Int) < (n4 : Int)) = true := decide_eq_true (by omega)
            clear hr3 h h'
            go_wp2_with fail
            all_goals
              go_step3
              exact ⟨HB5.out, rfl, 23, by decide, HR2.out, by apply at0_mk⟩
        · have HR2 := hide (HR.out.trans (HP4n.out hr3))
          have i1 : decide ((n4 : Int) < 2) = false := decide_eq_false (by omega)
          have i2 : decide ((21 : Int) < (n4 : Int)) = false := decide_eq_false (by omega)
          have j1 : (1 : Int) ≤ (n4 : Int) := by omega
          have j2 : (n4 : Int) ≤ (c4 : Int) := by have := HCC.out; omega
          have j3 : (n4 : Int) ≤ 21 := by omega
          have hca := fun W => run_convert_float_int (P := Tryd.prog) (w := W) 84 3 .f64 .i64 (f64 a) (a : Int) (by rw [Tryd.underlying84]; rfl) Tryd.underlying3 HCA.out
          have hcb := fun W => run_convert_float_int (P := Tryd.prog) (w := W) 84 3 .f64 .i64 (f64 b) (b : Int) (by rw [Tryd.underlying84]; rfl) Tryd.underlying3 HCB.out
          clear HP3n HP4n hr3 HCA HCB
          go_wp2_with fail
          · exfalso
            have := of_decide_eq_false i1
            have := HCC.out
            omega
          · go_ret2
            have hn1 : n4 - 1 = tl.length := by have := HN4.out; omega
            have hbn : Below w.heap.size w (w5.alloc (.cells #[.int .i64 0, .int .i64 (a : Int), .int .i64 (b : Int), .slice (some ⟨g4, 1, none⟩) (n4 - 1) (c4 - 1)] 31)) := HB5.out.alloc HB5.out.size _
            refine .inr ⟨a, b, tl, w5.heap.size, some ⟨g4, 1, none⟩, c4 - 1, HR2.out, HA.out, HBB.out, rfl, HB5.out.size, ?_, by have := HCC.out; omega, ?_, ?_, (HFL5.out.lower hwl).below ((Below.refl _ _).alloc (Nat.le_refl _) _), hbn⟩
            · rw [← hn1]
              exact Blk.new _ _ _
            · have := of_decide_eq_false i1
              omega
            · omega
end Go.Proofs.YtdmkjchmcgjjmaaDoor
