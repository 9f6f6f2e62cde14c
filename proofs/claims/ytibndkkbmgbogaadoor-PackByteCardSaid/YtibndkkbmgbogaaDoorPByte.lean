/- The walk of the law PackByte. Conditions: the packages' variables hold what they hold; the slice reads as the list of ranges, and lies within its capacity. -/
import Derived.Test.YtibndkkbmgbogaaDoorPShown
import Derived.Test.YtibndkkbmgbogaaDoorPLoadL
import Derived.Test.YtibndkkbmgbogaaDoorPBound
import Derived.Test.YtibndkkbmgbogaaDoorTwoLeast
import Derived.Test.YtibndkkbmgbogaaDoorMixT
import Derived.Test.YtibndkkbmgbogaaDoorPRef2
import Derived.Laws.BitsAllLaws
import Derived.Deep.CutRange
import Derived.Deep.Cut
import Derived.Outline
namespace Go.Proofs.YtibndkkbmgbogaaDoor
open Go Go.RowKit

theorem xor_ne {a d : Nat} (h : d ≠ 0) : a ^^^ d ≠ a := fun e => by
  have h1 : a ^^^ (a ^^^ d) = a ^^^ a := by rw [e]
  rw [← Nat.xor_assoc, Nat.xor_self, Nat.zero_xor] at h1
  exact h h1
theorem str_one (s : List UInt8) (k : Nat) (b : UInt8) (hk : k < s.length) :
    ((⟨s.toArray⟩ : ByteArray).extract 0 k ++ ⟨#[b]⟩) ++ (⟨s.toArray⟩ : ByteArray).extract (k + 1) s.length = ⟨(s.set k b).toArray⟩ := by
  apply bytes_of
  rw [ByteArray.data_append, ByteArray.data_append, Array.toList_append, Array.toList_append, ext_list, ext_list]
  simp only [List.drop_zero, Nat.sub_zero]
  rw [List.set_eq_take_append_cons_drop, if_pos hk, List.append_assoc, List.take_of_length_le (l := List.drop (k + 1) s) (by rw [List.length_drop]; exact Nat.le_refl _)]
  rfl

set_option maxRecDepth 100000 in
set_option maxHeartbeats 4000000 in
theorem packByte_any {a0 a1 : Addr} (A0 : Option Addr) (n0 c0 : Nat) (l : List Rg) (at_ d : Int) (B : Nat) (z : Value) (w : World) (hE : PEnv w B z) (hB : B ≤ w.heap.size) (hE2 : Errs w w.heap.size a0 a1)
    (hc0 : n0 ≤ c0) (hr0 : Rds w w.heap.size 3 A0 n0 (rgCells l)) :
    Calls Tryd.prog 12 #[.slice A0 n0 c0, .int .i64 at_, .int .i64 d] w (Freed w (.bool true)) := by
  go_enter Tryd.func12, Tryd.ntmps12
  have hh := fun w' (hb : Below w.heap.size w w') => And.intro (hE.below (hb.mono hB)) (And.intro ((hE2.below hb).more hb.size) ((hr0.below hb).more hb.size))
  have HH := hide hh
  have hm0 := hr0.2.1
  have hA0 : 0 < n0 → ∃ b o, A0 = some ⟨b, o, none⟩ := fun h => by obtain ⟨b, o, e, _⟩ := hr0.2.2 h; exact ⟨b, o, e⟩
  have h0 := packShown_any B z w hE hB
  clear hh hE hE2 hr0
  go_wp2_with fail
  refine h0.mono ?_
  rintro e w2 ⟨rfl, hb02⟩
  clear h0
  go_wp2_with fail
  refine (few_any A0 n0 c0 w2 hc0 hm0 hA0).mono ?_
  rintro e _ ⟨rfl, rfl⟩
  go_wp2_with fail
  refine (build_any A0 (min n0 20) c0 (l.take 20) w2 (HH.out w2 hb02).2.1 (by omega) ((HH.out w2 hb02).2.2.take 20)).mono ?_
  rintro e w3 ⟨A1, n1, c1, A2, n2, c2, rfl, ht, hc1, hc2, hb3⟩
  have hb03 := hb02.trans (hb3.mono hb02.size)
  generalize hbt : builtB (l.take 20) = bt at *
  obtain ⟨U, k1⟩ := bt
  simp only at ht ⊢
  have HBT := hide hbt
  have u3 := TrVar.new ht c1 c2
  have hb4 : Below w3.heap.size w3 (w3.alloc (.cells #[.slice A1 n1 c1, .slice A2 n2 c2] 27)) := (Below.refl _ _).alloc (Nat.le_refl _) _
  have HU := hide u3
  obtain ⟨p0, p1⟩ := u3.cells
  have pl := u3.lt
  clear ht hbt u3 hb3 hb02 hc0 hm0 hA0
  go_wp2_with fail
  obtain ⟨w4, hw4⟩ : ∃ w4 : World, w4 = w3.alloc (.cells #[.slice A1 n1 c1, .slice A2 n2 c2] 27) := ⟨_, rfl⟩
  rw [← hw4] at HU hb4 p0 p1 pl ⊢
  clear hw4
  have hb04 := hb03.trans (hb4.mono hb03.size)
  clear hb4 hb03
  refine (packPack_any A1 A2 n1 c1 n2 c2 B U z w4 HU.out.at_ (HH.out w4 hb04).1 (by have := hb04.size; omega)).mono ?_
  rintro e w5 ⟨rfl, hb5⟩
  have hb05 := hb04.trans (hb5.mono hb04.size)
  clear hb5 hb04 HU p0 p1 pl
  cases hrl : rightB (l.take 20) with
  | true =>
    have hbq := HBT.out
    rw [built_of hrl] at hbq
    rw [Prod.mk.injEq] at hbq
    obtain ⟨hU, rfl⟩ := hbq
    have hUR : U.rightB = true := by rw [← hU]; exact trOf_right hrl
    have hU3 : U.bl.length ≤ 300 := by
      rw [← hU]
      have := trOf_few hrl
      have h2 : (l.take 20).length ≤ 20 := by rw [List.length_take]; omega
      omega
    have hpb : packedB U = (packB U, 0) := by
      unfold packedB
      rw [if_pos hUR, if_pos hU3]
    have htn := load_turned U
    have hlen := packB_len U
    have hlen2 := len_all U hUR hU3
    rw [hpb]
    simp only
    have hls : (packB U).length ≤ 1000000 := by omega
    clear hU HBT hrl hUR hU3 hpb hlen hlen2
    generalize packB U = S at *
    have HTN := hide htn
    have hsz := size_list (⟨S.toArray⟩ : ByteArray)
    simp only at hsz
    clear htn
    by_cases h1 : at_ < 0
    · have hd1 : decide (at_ < 0) = true := decide_eq_true h1
      go_wp2
      go_ret
      exact ⟨rfl, hb05⟩
    by_cases h2 : (S.length : Int) ≤ at_
    · have hd1 : decide (at_ < 0) = false := decide_eq_false h1
      have hd2 : decide ((S.length : Int) ≤ at_) = true := decide_eq_true h2
      go_wp2
      go_ret
      exact ⟨rfl, hb05⟩
    by_cases h3 : d < 1
    · have hd1 : decide (at_ < 0) = false := decide_eq_false h1
      have hd2 : decide ((S.length : Int) ≤ at_) = false := decide_eq_false h2
      have hd3 : decide (d < 1) = true := decide_eq_true h3
      go_wp2
      go_ret
      exact ⟨rfl, hb05⟩
    by_cases h4 : 255 < d
    · have hd1 : decide (at_ < 0) = false := decide_eq_false h1
      have hd2 : decide ((S.length : Int) ≤ at_) = false := decide_eq_false h2
      have hd3 : decide (d < 1) = false := decide_eq_false h3
      have hd4 : decide (255 < d) = true := decide_eq_true h4
      go_wp2
      go_ret
      exact ⟨rfl, hb05⟩
    obtain ⟨k, rfl⟩ : ∃ k : Nat, at_ = (k : Int) := ⟨at_.toNat, by omega⟩
    obtain ⟨dn, rfl⟩ : ∃ dn : Nat, d = (dn : Int) := ⟨d.toNat, by omega⟩
    have hkS : k < S.length := by omega
    have hdn : dn < 256 := by omega
    have hd0 : dn ≠ 0 := by omega
    have HD0 := hide hd0
    have hd2 : decide ((S.length : Int) ≤ (k : Int)) = false := decide_eq_false h2
    have hd3 : decide ((dn : Int) < 1) = false := decide_eq_false h3
    have hd4 : decide (255 < (dn : Int)) = false := decide_eq_false h4
    have hks : k < (⟨S.toArray⟩ : ByteArray).size := by omega
    have gx : (⟨S.toArray⟩ : ByteArray)[k]'hks = S[k] := rfl
    obtain ⟨a, ha⟩ : ∃ a, a = (S[k]'hkS).toNat := ⟨_, rfl⟩
    have ha6 : a < 256 := by rw [ha]; exact (S[k]'hkS).toNat_lt
    have hb6 : a ^^^ dn < 256 := Nat.xor_lt_two_pow (n := 8) ha6 hdn
    have HTB := hide (HTN.out k (UInt8.ofNat (a ^^^ dn)) hkS (fun e => by
      have e2 := congrArg UInt8.toNat e
      rw [UInt8.toNat_ofNat_of_lt' (show a ^^^ dn < UInt8.size from hb6), ← ha] at e2
      exact xor_ne HD0.out e2))
    have HST := hide (str_one S k (UInt8.ofNat (a ^^^ dn)) hkS)
    have hsz3 : (⟨(S.set k (UInt8.ofNat (a ^^^ dn))).toArray⟩ : ByteArray).size ≤ 1000000 := by rw [size_list]; simp only [List.length_set]; exact hls
    generalize (⟨(S.set k (UInt8.ofNat (a ^^^ dn))).toArray⟩ : ByteArray) = s3 at *
    have hx8 := u8_xor_nat a dn ha6 hdn
    obtain ⟨j, hj⟩ : ∃ j, j = k + 1 := ⟨_, rfl⟩
    have HJ := hide (show (k : Int) + 1 = (j : Int) by omega)
    have hjs : j ≤ (⟨S.toArray⟩ : ByteArray).size := by omega
    rw [← hj] at HST
    have HA := hide ha
    have HGX := hide gx
    have HX8 := hide hx8
    have hUB : (UInt8.ofNat (a ^^^ dn)).toNat = a ^^^ dn := UInt8.toNat_ofNat_of_lt' (show a ^^^ dn < UInt8.size from hb6)
    generalize UInt8.ofNat (a ^^^ dn) = ub at *
    have HUB := hide hUB
    generalize a ^^^ dn = xo at *
    have hld := fun w hE hB => packLoad_any s3 B z w hE hB hsz3
    obtain ⟨kk, hkk⟩ : ∃ kk : Int, kk = if k < 3 then 60 else 61 := ⟨_, rfl⟩
    rw [HTB.out, ← hkk] at hld
    unfold noTr at hld
    simp only at hld
    have HKK := hide hkk
    have HLD := hide hld
    clear h1 hd0 HTN hj ha gx hx8 hUB HTB hld HD0 hkk
    go_upto_region 6 with fail
    go_cut [12, 13] from 59 to 79 (fun s12 s13 wx => ∃ (g : Nat) (A5 : Option Addr) (c5 : Nat), s12 = .pointer (some ⟨g, 0, none⟩) ∧ wx.cell? ⟨g, 0, none⟩ = some (.slice A5 0 c5) ∧ g < wx.heap.size ∧ s13 = .int .i64 kk ∧ Below w.heap.size w wx)
    case first =>
      refine wp_region_mixT (fun _ => True) (fun _ => true) (MixT.heads [0, 1, 2, 3, 4, 5, 6, 7, 8, 12, 13, 14, 15] (.two 9 (.two 10 (MixT.heads [11, 16] (.two 17 (MixT.heads [18, 19, 20] (.one 21 (.one 22 (.one 23 .nil)))) 21 (.one 17 (MixT.heads [18, 19, 20] (.one 22 (.one 23 .nil)))))) 21 (.one 10 (MixT.heads [11, 16] (.one 17 (MixT.heads [18, 19, 20] (.one 22 (.one 23 .nil))))))) 21 (.one 9 (.one 10 (MixT.heads [11, 16] (.one 17 (MixT.heads [18, 19, 20] (.one 22 (.one 23 .nil))))))))) (by kernel_rfl) (by kernel_rfl) (fun _ _ d _ _ h => by cases d <;> exact h) ?_
      obtain ⟨W, hW⟩ : ∃ W : World, W = w5.drew := ⟨_, rfl⟩
      have bW : Below w.heap.size w W := by rw [hW]; exact below_drewN hb05 1
      rw [← hW]
      clear hW hb05
      refine mixT_head (v := .string ⟨S.toArray⟩) trivial rfl rfl (fun W' hS' => by rfl) ?_
      go_frame
      refine mixT_head (v := .int .i64 k) trivial rfl rfl (fun W' hS' => by rfl) ?_
      go_frame
      refine mixT_head (v := .string ((⟨S.toArray⟩ : ByteArray).extract 0 k)) trivial rfl rfl (fun W' hS' => by go_simp; try omega) ?_
      go_frame
      refine mixT_head (v := .string ⟨S.toArray⟩) trivial rfl rfl (fun W' hS' => by rfl) ?_
      go_frame
      refine mixT_head (v := .int .i64 k) trivial rfl rfl (fun W' hS' => by rfl) ?_
      go_frame
      refine mixT_head (v := .int .u8 a) trivial rfl rfl (fun W' hS' => by go_simp; rw [HA.out]; rfl) ?_
      go_frame
      refine mixT_head (v := .int .i64 dn) trivial rfl rfl (fun W' hS' => by rfl) ?_
      go_frame
      refine mixT_head (v := .int .u8 dn) trivial rfl rfl (fun W' hS' => by go_simp; try (exact IntWalk.u8_in _ (by omega))) ?_
      go_frame
      refine mixT_head (v := .int .u8 xo) trivial rfl rfl (fun W' hS' => by go_simp; rw [HX8.out]) ?_
      go_frame
      refine mixT_head (v := .string ⟨S.toArray⟩) trivial rfl rfl (fun W' hS' => by rfl) ?_
      go_frame
      refine mixT_head (v := .int .i64 k) trivial rfl rfl (fun W' hS' => by rfl) ?_
      go_frame
      refine mixT_head (v := .int .i64 j) trivial rfl rfl (fun W' hS' => by go_simp; rw [HJ.out]; exact IntWalk.i64_in _ (by omega)) ?_
      go_frame
      refine mixT_head (v := .string ((⟨S.toArray⟩ : ByteArray).extract j (⟨S.toArray⟩ : ByteArray).size)) trivial rfl rfl (fun W' hS' => by go_simp; try omega) ?_
      go_frame
      have hconv : ∀ (W' : World) (g : Nat), Blk W' g 5 #[.int .u8 xo] → (convert 45 9 (.slice (some ⟨g, 0, none⟩) 1 1)).run Tryd.prog W' = .ok (.string ⟨#[ub]⟩) W' := fun W' g hk =>
        run_convert_bytes_back (P := Tryd.prog) W' 45 9 5 ⟨g, 0, none⟩ 1 [ub] Tryd.underlying45 Tryd.underlying5 Tryd.underlying9 (fun j hj => by
          obtain rfl : j = 0 := by simpa using hj
          have := hk.cell 0
          simp only [List.getElem?_toArray, List.getElem?_cons_zero] at this
          rw [show ((⟨g, 0, none⟩ : Addr).add 0) = ⟨g, 0, none⟩ from rfl, this]
          simp [HUB.out])
      refine mixT_two (stepT_of rfl rfl (fun K hK => ?_)) (stepT_of rfl rfl (fun K hK => ?_))
      · go_simp
        obtain ⟨W1, hW1⟩ : ∃ W1 : World, W1 = W.alloc (.cells #[.int .u8 xo] 5) := ⟨_, rfl⟩
        have k9n1 : Blk W1 W.heap.size 5 #[.int .u8 xo] := by rw [hW1]; exact Blk.new _ _ _
        have bW1 : Below w.heap.size w W1 := by rw [hW1]; exact bW.alloc bW.size _
        have gB1 := bW.size
        rw [← hW1]
        clear hW1
        generalize W.heap.size = g9 at *
        refine hK _ _ ⟨fun _ => trivial, ?_⟩
        refine mixT_two (stepT_of rfl rfl (fun K hK => ?_)) (stepT_of rfl rfl (fun K hK => ?_))
        · have hc9 := hconv W1 g9 k9n1
          go_simp
          refine hK _ _ ⟨fun _ => trivial, ?_⟩
          refine mixT_head (v := .string ((⟨S.toArray⟩ : ByteArray).extract 0 k ++ ⟨#[ub]⟩)) trivial rfl rfl (fun W' hS' => by go_simp; omega) ?_
          go_frame
          refine mixT_head (v := .string s3) trivial rfl rfl (fun W' hS' => by go_simp; rw [if_neg (by omega), HST.out]) ?_
          go_frame
          refine mixT_two (stepT_of rfl rfl (fun K hK => ?_)) (stepT_of rfl rfl (fun K hK => ?_))
          · go_simp
            refine (HLD.out W1 (HH.out W1 bW1).1 (by have := bW1.size; omega)).mono ?_
            rintro e W2 ⟨A5, n5, c5, A6, n6, c6, rfl, hu, _, _, hb⟩
            have bW2 := bW1.trans (hb.mono bW1.size)
            obtain rfl : n5 = 0 := by have := hu.ix.1; simp [intCells] at this; omega
            clear hb hu
            refine hK _ _ ⟨fun _ => trivial, ?_⟩
            refine mixT_head (v := ?_) trivial rfl rfl (fun W' hS' => ?_) ?_; rotate_left; (focus (go_simp; rfl)); go_frame
            refine mixT_head (v := ?_) trivial rfl rfl (fun W' hS' => ?_) ?_; rotate_left; (focus (go_simp; rfl)); go_frame
            refine mixT_head (v := ?_) trivial rfl rfl (fun W' hS' => ?_) ?_; rotate_left; (focus (go_simp; rfl)); go_frame
            refine mixT_one rfl rfl (fun K hK => ?_)
            go_simp
            obtain ⟨W3, hW3⟩ : ∃ W3 : World, W3 = W2.alloc (.cells #[.slice none 0 0, .slice none 0 0] 27) := ⟨_, rfl⟩
            have k12n3 : Blk W3 W2.heap.size 27 #[.slice none 0 0, .slice none 0 0] := by rw [hW3]; exact Blk.new _ _ _
            have bW3 : Below w.heap.size w W3 := by rw [hW3]; exact bW2.alloc bW2.size _
            have gB3 := bW2.size
            rw [← hW3]
            clear hW3
            generalize W2.heap.size = g12 at *
            refine hK _ _ ⟨fun _ => trivial, ?_⟩
            refine mixT_one rfl rfl (fun K22 hK22 => ?_)
            obtain ⟨q0, q1⟩ := And.intro (k12n3.cell 0) (k12n3.cell 1)
            obtain ⟨f0, f1⟩ := And.intro (k12n3.frozen 0) (k12n3.frozen 1)
            have ql := k12n3.lt
            simp only [List.getElem?_toArray, List.getElem?_cons_zero, List.getElem?_cons_succ] at q0 q1
            go_simp
            refine hK22 _ _ ⟨fun _ => trivial, ?_⟩
            refine mixT_one rfl rfl (fun K23 hK23 => ?_)
            go_simp
            refine hK23 _ _ ⟨fun _ => trivial, ?_⟩
            refine mixT_nil ?_
            go_wp2_with fail
            go_meet
            have kk := (k12n3.set_ 0 (.slice A5 0 c5)).set_ 1 (.slice A6 n6 c6)
            have m1 := grownBy_setCell W3 g12 0 (.slice A5 0 c5)
            have m2 := grownBy_setCell (W3.setCell ⟨g12, 0, none⟩ (.slice A5 0 c5)) g12 1 (.slice A6 n6 c6)
            have hg12 : w.heap.size ≤ g12 := gB3
            exact ⟨g12, A5, c5, rfl, by have := kk.cell 0; simpa using this, kk.lt, rfl, (bW3.grown m1 bW3.size (fun k e => by cases e; exact hg12)).grown m2 (by simp; exact bW3.size) (fun k e => by cases e; exact hg12)⟩
          · go_simp
            obtain ⟨W2, hW2⟩ : ∃ W2 : World, W2 = W1.alloc (.cells #[.slice none 0 0, .slice none 0 0] 27) := ⟨_, rfl⟩
            have k12n2 : Blk W2 W1.heap.size 27 #[.slice none 0 0, .slice none 0 0] := by rw [hW2]; exact Blk.new _ _ _
            have bW2 : Below w.heap.size w W2 := by rw [hW2]; exact bW1.alloc bW1.size _
            have gB2 := bW1.size
            rw [← hW2]
            clear hW2
            generalize W1.heap.size = g12 at *
            refine hK _ _ ⟨fun _ => trivial, ?_⟩
            refine mixT_one rfl rfl (fun K hK => ?_)
            go_simp
            refine (HLD.out W2 (HH.out W2 bW2).1 (by have := bW2.size; omega)).mono ?_
            rintro e W3 ⟨A5, n5, c5, A6, n6, c6, rfl, hu, _, _, hb⟩
            have bW3 := bW2.trans (hb.mono bW2.size)
            obtain rfl : n5 = 0 := by have := hu.ix.1; simp [intCells] at this; omega
            have k12n3 := k12n2.below hb k12n2.lt
            clear hb hu
            refine hK _ _ ⟨fun _ => trivial, ?_⟩
            refine mixT_head (v := ?_) trivial rfl rfl (fun W' hS' => ?_) ?_; rotate_left; (focus (go_simp; rfl)); go_frame
            refine mixT_head (v := ?_) trivial rfl rfl (fun W' hS' => ?_) ?_; rotate_left; (focus (go_simp; rfl)); go_frame
            refine mixT_head (v := ?_) trivial rfl rfl (fun W' hS' => ?_) ?_; rotate_left; (focus (go_simp; rfl)); go_frame
            refine mixT_one rfl rfl (fun K22 hK22 => ?_)
            obtain ⟨q0, q1⟩ := And.intro (k12n3.cell 0) (k12n3.cell 1)
            obtain ⟨f0, f1⟩ := And.intro (k12n3.frozen 0) (k12n3.frozen 1)
            have ql := k12n3.lt
            simp only [List.getElem?_toArray, List.getElem?_cons_zero, List.getElem?_cons_succ] at q0 q1
            go_simp
            refine hK22 _ _ ⟨fun _ => trivial, ?_⟩
            refine mixT_one rfl rfl (fun K23 hK23 => ?_)
            go_simp
            refine hK23 _ _ ⟨fun _ => trivial, ?_⟩
            refine mixT_nil ?_
            go_wp2_with fail
            go_meet
            have kk := (k12n3.set_ 0 (.slice A5 0 c5)).set_ 1 (.slice A6 n6 c6)
            have m1 := grownBy_setCell W3 g12 0 (.slice A5 0 c5)
            have m2 := grownBy_setCell (W3.setCell ⟨g12, 0, none⟩ (.slice A5 0 c5)) g12 1 (.slice A6 n6 c6)
            have hg12 : w.heap.size ≤ g12 := gB2
            exact ⟨g12, A5, c5, rfl, by have := kk.cell 0; simpa using this, kk.lt, rfl, (bW3.grown m1 bW3.size (fun k e => by cases e; exact hg12)).grown m2 (by simp; exact bW3.size) (fun k e => by cases e; exact hg12)⟩
        · go_simp
          obtain ⟨W2, hW2⟩ : ∃ W2 : World, W2 = W1.alloc (.cells #[.slice none 0 0, .slice none 0 0] 27) := ⟨_, rfl⟩
          have k12n2 : Blk W2 W1.heap.size 27 #[.slice none 0 0, .slice none 0 0] := by rw [hW2]; exact Blk.new _ _ _
          have k9n2 : Blk W2 g9 5 #[.int .u8 xo] := by rw [hW2]; exact k9n1.alloc _
          have bW2 : Below w.heap.size w W2 := by rw [hW2]; exact bW1.alloc bW1.size _
          have gB2 := bW1.size
          rw [← hW2]
          clear hW2
          generalize W1.heap.size = g12 at *
          refine hK _ _ ⟨fun _ => trivial, ?_⟩
          refine mixT_one rfl rfl (fun K hK => ?_)
          have hc9 := hconv W2 g9 k9n2
          go_simp
          refine hK _ _ ⟨fun _ => trivial, ?_⟩
          refine mixT_head (v := .string ((⟨S.toArray⟩ : ByteArray).extract 0 k ++ ⟨#[ub]⟩)) trivial rfl rfl (fun W' hS' => by go_simp; omega) ?_
          go_frame
          refine mixT_head (v := .string s3) trivial rfl rfl (fun W' hS' => by go_simp; rw [if_neg (by omega), HST.out]) ?_
          go_frame
          refine mixT_one rfl rfl (fun K hK => ?_)
          go_simp
          refine (HLD.out W2 (HH.out W2 bW2).1 (by have := bW2.size; omega)).mono ?_
          rintro e W3 ⟨A5, n5, c5, A6, n6, c6, rfl, hu, _, _, hb⟩
          have bW3 := bW2.trans (hb.mono bW2.size)
          obtain rfl : n5 = 0 := by have := hu.ix.1; simp [intCells] at this; omega
          have k12n3 := k12n2.below hb k12n2.lt
          clear hb hu
          refine hK _ _ ⟨fun _ => trivial, ?_⟩
          refine mixT_head (v := ?_) trivial rfl rfl (fun W' hS' => ?_) ?_; rotate_left; (focus (go_simp; rfl)); go_frame
          refine mixT_head (v := ?_) trivial rfl rfl (fun W' hS' => ?_) ?_; rotate_left; (focus (go_simp; rfl)); go_frame
          refine mixT_head (v := ?_) trivial rfl rfl (fun W' hS' => ?_) ?_; rotate_left; (focus (go_simp; rfl)); go_frame
          refine mixT_one rfl rfl (fun K22 hK22 => ?_)
          obtain ⟨q0, q1⟩ := And.intro (k12n3.cell 0) (k12n3.cell 1)
          obtain ⟨f0, f1⟩ := And.intro (k12n3.frozen 0) (k12n3.frozen 1)
          have ql := k12n3.lt
          simp only [List.getElem?_toArray, List.getElem?_cons_zero, List.getElem?_cons_succ] at q0 q1
          go_simp
          refine hK22 _ _ ⟨fun _ => trivial, ?_⟩
          refine mixT_one rfl rfl (fun K23 hK23 => ?_)
          go_simp
          refine hK23 _ _ ⟨fun _ => trivial, ?_⟩
          refine mixT_nil ?_
          go_wp2_with fail
          go_meet
          have kk := (k12n3.set_ 0 (.slice A5 0 c5)).set_ 1 (.slice A6 n6 c6)
          have m1 := grownBy_setCell W3 g12 0 (.slice A5 0 c5)
          have m2 := grownBy_setCell (W3.setCell ⟨g12, 0, none⟩ (.slice A5 0 c5)) g12 1 (.slice A6 n6 c6)
          have hg12 : w.heap.size ≤ g12 := gB2
          exact ⟨g12, A5, c5, rfl, by have := kk.cell 0; simpa using this, kk.lt, rfl, (bW3.grown m1 bW3.size (fun k e => by cases e; exact hg12)).grown m2 (by simp; exact bW3.size) (fun k e => by cases e; exact hg12)⟩
      · go_simp
        obtain ⟨W1, hW1⟩ : ∃ W1 : World, W1 = W.alloc (.cells #[.slice none 0 0, .slice none 0 0] 27) := ⟨_, rfl⟩
        have k12n1 : Blk W1 W.heap.size 27 #[.slice none 0 0, .slice none 0 0] := by rw [hW1]; exact Blk.new _ _ _
        have bW1 : Below w.heap.size w W1 := by rw [hW1]; exact bW.alloc bW.size _
        have gB1 := bW.size
        rw [← hW1]
        clear hW1
        generalize W.heap.size = g12 at *
        refine hK _ _ ⟨fun _ => trivial, ?_⟩
        refine mixT_one rfl rfl (fun K hK => ?_)
        go_simp
        obtain ⟨W2, hW2⟩ : ∃ W2 : World, W2 = W1.alloc (.cells #[.int .u8 xo] 5) := ⟨_, rfl⟩
        have k9n2 : Blk W2 W1.heap.size 5 #[.int .u8 xo] := by rw [hW2]; exact Blk.new _ _ _
        have k12n2 : Blk W2 g12 27 #[.slice none 0 0, .slice none 0 0] := by rw [hW2]; exact k12n1.alloc _
        have bW2 : Below w.heap.size w W2 := by rw [hW2]; exact bW1.alloc bW1.size _
        have gB2 := bW1.size
        rw [← hW2]
        clear hW2
        generalize W1.heap.size = g9 at *
        refine hK _ _ ⟨fun _ => trivial, ?_⟩
        refine mixT_one rfl rfl (fun K hK => ?_)
        have hc9 := hconv W2 g9 k9n2
        go_simp
        refine hK _ _ ⟨fun _ => trivial, ?_⟩
        refine mixT_head (v := .string ((⟨S.toArray⟩ : ByteArray).extract 0 k ++ ⟨#[ub]⟩)) trivial rfl rfl (fun W' hS' => by go_simp; omega) ?_
        go_frame
        refine mixT_head (v := .string s3) trivial rfl rfl (fun W' hS' => by go_simp; rw [if_neg (by omega), HST.out]) ?_
        go_frame
        refine mixT_one rfl rfl (fun K hK => ?_)
        go_simp
        refine (HLD.out W2 (HH.out W2 bW2).1 (by have := bW2.size; omega)).mono ?_
        rintro e W3 ⟨A5, n5, c5, A6, n6, c6, rfl, hu, _, _, hb⟩
        have bW3 := bW2.trans (hb.mono bW2.size)
        obtain rfl : n5 = 0 := by have := hu.ix.1; simp [intCells] at this; omega
        have k12n3 := k12n2.below hb k12n2.lt
        clear hb hu
        refine hK _ _ ⟨fun _ => trivial, ?_⟩
        refine mixT_head (v := ?_) trivial rfl rfl (fun W' hS' => ?_) ?_; rotate_left; (focus (go_simp; rfl)); go_frame
        refine mixT_head (v := ?_) trivial rfl rfl (fun W' hS' => ?_) ?_; rotate_left; (focus (go_simp; rfl)); go_frame
        refine mixT_head (v := ?_) trivial rfl rfl (fun W' hS' => ?_) ?_; rotate_left; (focus (go_simp; rfl)); go_frame
        refine mixT_one rfl rfl (fun K22 hK22 => ?_)
        obtain ⟨q0, q1⟩ := And.intro (k12n3.cell 0) (k12n3.cell 1)
        obtain ⟨f0, f1⟩ := And.intro (k12n3.frozen 0) (k12n3.frozen 1)
        have ql := k12n3.lt
        simp only [List.getElem?_toArray, List.getElem?_cons_zero, List.getElem?_cons_succ] at q0 q1
        go_simp
        refine hK22 _ _ ⟨fun _ => trivial, ?_⟩
        refine mixT_one rfl rfl (fun K23 hK23 => ?_)
        go_simp
        refine hK23 _ _ ⟨fun _ => trivial, ?_⟩
        refine mixT_nil ?_
        go_wp2_with fail
        go_meet
        have kk := (k12n3.set_ 0 (.slice A5 0 c5)).set_ 1 (.slice A6 n6 c6)
        have m1 := grownBy_setCell W3 g12 0 (.slice A5 0 c5)
        have m2 := grownBy_setCell (W3.setCell ⟨g12, 0, none⟩ (.slice A5 0 c5)) g12 1 (.slice A6 n6 c6)
        have hg12 : w.heap.size ≤ g12 := gB1
        exact ⟨g12, A5, c5, rfl, by have := kk.cell 0; simpa using this, kk.lt, rfl, (bW3.grown m1 bW3.size (fun k e => by cases e; exact hg12)).grown m2 (by simp; exact bW3.size) (fun k e => by cases e; exact hg12)⟩
    case rest =>
      obtain ⟨g, A5, c5, rfl, h5, hl5, rfl, hbw⟩ := hcut
      by_cases hk3 : k < 3
      · obtain rfl : kk = 60 := by rw [HKK.out, if_pos hk3]
        have hk4 : (k : Int) < 3 := by omega
        go_wp2
        go_ret
        exact ⟨rfl, hbw⟩
      · obtain rfl : kk = 61 := by rw [HKK.out, if_neg hk3]
        go_wp2
        go_ret
        exact ⟨rfl, hbw⟩
  | false =>
    have hbq := HBT.out
    rw [built_neg hrl] at hbq
    rw [Prod.mk.injEq] at hbq
    obtain ⟨_, rfl⟩ := hbq
    clear HBT hrl
    generalize packedB U = p
    obtain ⟨q, f⟩ := p
    simp only
    go_wp2
    go_ret
    exact ⟨rfl, hb05⟩
end Go.Proofs.YtibndkkbmgbogaaDoor
