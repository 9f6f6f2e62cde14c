/- The reference's Parse: it answers as the program's. Conditions: the slice reads as the texts, of moderate sizes. -/
import Derived.Test.YtigkphjgidbppaaDoorRefPL
import Derived.Test.YtigkphjgidbppaaDoorRefN
import Derived.Test.YtigkphjgidbppaaDoorRefC
import Derived.Test.YtigkphjgidbppaaDoorRefSp
import Derived.Test.YtigkphjgidbppaaDoorParseP
namespace Go.Proofs.YtigkphjgidbppaaDoor
open Go Go.RowKit

set_option maxRecDepth 100000 in
set_option maxHeartbeats 8000000 in
theorem refParse_any (s : ByteArray) (A : Option Addr) (n c : Nat) (l : List ByteArray) (w : World) (hc : n ≤ c) (hr : Rds w w.heap.size 1 A n (strCells l)) (hz : ∀ x ∈ l, x.size ≤ 1000) (hs : s.size ≤ 100000) :
    Calls Tryd.prog 27 #[.string s, .slice A n c] w (Freed w (.tuple #[.int .i64 (ParseB s l).1, .int .i64 (ParseB s l).2])) := by
  obtain rfl := hr.str_len
  have hmx := hr.2.1
  have hna := refNames_any A l.length c l w hc hr hz
  by_cases hn : namesB l = true
  case neg =>
    rw [show ParseB s l = (0, 2) by simp [ParseB, hn]]
    rw [Bool.not_eq_true] at hn
    rw [hn] at hna
    go_enter Tryd.func27, Tryd.ntmps27
    go_wp2_with fail
    refine hna.mono ?_
    rintro e w1 ⟨rfl, q, rfl⟩
    go_wp2
    go_ret2
    exact ⟨rfl, drewN_below _ _ _⟩
  rw [hn] at hna
  rw [show ParseB s l = parseB s l by simp [ParseB, hn]]
  have hl32 := ((names_iff l).1 hn).2.1
  have HR := hide (fun W (hb : Below w.heap.size w W) => (hr.below hb).more hb.size)
  have HVS := hide (fun W h => value_any A l.length c l s W h)
  have HNA := hide hna
  clear hna hr hz
  have HP1 := hide (fun h => parse_dot s l h)
  have HP2 := hide (fun c h hn => parse_name s l c h hn)
  have HP3 := hide (fun h hn hi => parse_out s l h hn hi)
  have HP4 := hide (fun h hn hi hs => parse_none s l h hn hi hs)
  have HP5 := hide (fun k h hn hi hs => parse_set s l k h hn hi hs)
  obtain ⟨pb, hpb⟩ : ∃ pb, pb = parseB s l := ⟨_, rfl⟩
  rw [← hpb] at HP1 HP2 HP3 HP4 HP5
  rw [← hpb]
  clear hpb hn
  by_cases hdot : s = ⟨#[46]⟩
  · have HPV := hide (HP1.out hdot)
    have e1 : (s.toList == [46]) = true := list_eq_true hdot
    have HW := hide (fun W => worth_any l.length (by omega) W)
    have hp := pow_le32 hl32
    have hp2 : 2 ^ l.length ≤ 4294967296 := hp
    have hp3 := Nat.two_pow_pos l.length
    have HSB := hide (show ((2 ^ l.length - 1 : Nat) : Int) = ((2 ^ l.length : Nat) : Int) - 1 by omega)
    rw [HSB.out] at HPV
    clear HP1 HP2 HP3 HP4 HP5 hdot hp HSB
    generalize 2 ^ l.length = p at *
    go_enter Tryd.func27, Tryd.ntmps27
    go_wp2_with fail
    refine HNA.out.mono ?_
    rintro e w1 ⟨rfl, q, rfl⟩
    go_wp2_with fail
    refine (HW.out _).mono ?_
    rintro e _ ⟨rfl, rfl⟩
    go_wp2
    go_ret2
    exact ⟨by rw [HPV.out]; rfl, drewN_below _ _ _⟩
  have e1 : (s.toList == [46]) = false := list_eq_false hdot
  cases hnum : numB l s with
  | some d =>
    have HPV := hide (HP2.out d hdot hnum)
    obtain ⟨hd, -⟩ := num_some hnum
    have HW := hide (fun W => worth_any d (by omega) W)
    rw [hnum] at HVS
    clear HP1 HP2 HP3 HP4 HP5 hdot hnum
    dsimp only [Option.getD_some, Option.isSome_some] at HVS
    generalize 2 ^ d = p at *
    go_enter Tryd.func27, Tryd.ntmps27
    go_wp2_with fail
    refine HNA.out.mono ?_
    rintro e w1 ⟨rfl, q, rfl⟩
    have b1 := drewN_below w.heap.size w q
    go_wp2_with fail
    refine (HVS.out _ (HR.out _ b1)).mono ?_
    rintro e _ ⟨rfl, rfl⟩
    go_wp2_with fail
    refine (HW.out _).mono ?_
    rintro e _ ⟨rfl, rfl⟩
    go_wp2
    go_ret2
    exact ⟨by rw [HPV.out]; rfl, b1⟩
  | none =>
    rw [hnum] at HVS
    dsimp only [Option.getD_none, Option.isSome_none] at HVS
    go_enter Tryd.func27, Tryd.ntmps27
    go_wp2_with fail
    refine HNA.out.mono ?_
    rintro e w1 ⟨rfl, q, rfl⟩
    have b1 := drewN_below w.heap.size w q
    generalize w.drewN q = w1 at *
    go_wp2_with fail
    refine (HVS.out _ (HR.out _ b1)).mono ?_
    rintro e _ ⟨rfl, rfl⟩
    rcases in_cases s with ⟨t, hst⟩ | ⟨hin, hne⟩
    · have hin : (insideB s).2 = true := by rw [hst, inside_br]
      have hi1 : (insideB s).1 = t := by rw [hst, inside_br]
      have hsz : s.size = t.size + 2 := by rw [hst, br_size]
      have i0 : 0 < s.size := by omega
      have i1 : s.size - 1 < s.size := by omega
      have q0 : ((((s[0]'i0).toNat : Nat) : Int) != 91) = false := by rw [br_first hst i0]; rfl
      have q1 : ((((s[s.size - 1]'i1).toNat : Nat) : Int) != 93) = false := by rw [br_last hst i1]; rfl
      have h2' : ¬ (s.size : Int) < 2 := by omega
      have p1 : (1 : Int) ≤ (s.size : Int) - 1 := by omega
      have p2 : (s.size : Int) - 1 ≤ (s.size : Int) := by omega
      have p3 : (0 : Int) ≤ (s.size : Int) - 1 := by omega
      have HMID := hide (br_mid hst)
      have H4 := hide (HP4.out hdot hnum hin)
      have H5 := hide (fun k => HP5.out k hdot hnum hin)
      have HSS : Hid (setS l s = if restB s = ⟨#[]⟩ then some 0 else foldS l (splitT (restB s)) 0) := rfl
      have hts : t.size ≤ 100000 := by omega
      have HIT := hide hi1
      clear HP1 HP2 HP3 HP4 HP5 hdot hnum hin hsz hst hi1
      go_upto_region 11 with fail
      rw [HMID.out]
      clear q0 q1 p1 p2 p3 h2' HMID
      obtain ⟨nt, hnt⟩ : ∃ nt, nt = notS s := ⟨_, rfl⟩
      obtain ⟨rs, hrs⟩ : ∃ rs, rs = restB s := ⟨_, rfl⟩
      have HN := hide hnt
      rw [← hnt] at H5
      rw [← hrs] at HSS
      go_cut [8] from 32 to 59 (fun s8 wx => s8 = .bool nt ∧ wx = w1)
      case first =>
        rcases hat_cases t with ⟨r, hr⟩ | ⟨hr1, hr2⟩
        · have hh := (rest_hat s r (by rw [HIT.out, hr])).2
          have ht0 : 0 < t.size := by
            rw [hr, ByteArray.size_append]
            have e1 : (⟨#[94]⟩ : ByteArray).size = 1 := rfl
            omega
          have q2 : (t.toList == []) = false := list_eq_false (fun e => by rw [e] at ht0; exact absurd ht0 (by decide))
          have q3 : ((((t[0]'ht0).toNat : Nat) : Int) == 94) = true := by rw [hat_first hr ht0]; rfl
          have HNT := hide (hnt.trans hh)
          clear hr hh hnt hrs
          go_wp2_with fail
          go_meet
          exact ⟨by rw [HNT.out], rfl⟩
        · have hh := (rest_of s t HIT.out hr1).2
          have HNT := hide (hnt.trans hh)
          clear hr1 hh hnt hrs
          by_cases ht : t = ⟨#[]⟩
          · have q2 : (t.toList == []) = true := list_eq_true ht
            clear ht hr2
            go_wp2_with fail
            go_meet
            exact ⟨by rw [HNT.out], rfl⟩
          · have q2 : (t.toList == []) = false := list_eq_false ht
            have ht0 : 0 < t.size := by
              rcases Nat.eq_zero_or_pos t.size with h | h
              · exact absurd (Go.WideShapes.bytes_inj (List.length_eq_zero_iff.1 h)) ht
              · exact h
            have h94 := hr2 ht0
            have q3 : ((((t[0]'ht0).toNat : Nat) : Int) == 94) = false := by
              rw [beq_eq_false_iff_ne]
              intro e
              exact h94 (UInt8.toNat_inj.1 (by have : (t[0]'ht0).toNat = 94 := by omega
                                               rw [this]; rfl))
            clear ht hr2 h94
            go_wp2_with fail
            go_meet
            exact ⟨by rw [HNT.out], rfl⟩
      case rest =>
        obtain ⟨rfl, rfl⟩ := hcut
        have hrz := rest_size s
        rw [← hrs] at hrz
        go_upto_if 60 with fail
        go_cut [0] from 60 to 62 (fun s0 wx => s0 = .string rs ∧ wx = wc)
        case first =>
          rcases hat_cases t with ⟨r, hr⟩ | ⟨hr1, hr2⟩
          · obtain ⟨hh1, hh2⟩ := rest_hat s r (by rw [HIT.out, hr])
            have HRS := hide (hrs.trans hh1)
            have ht0 : 1 ≤ t.size := by
              rw [hr, ByteArray.size_append]
              have e1 : (⟨#[94]⟩ : ByteArray).size = 1 := rfl
              omega
            have p1 : (1 : Int) ≤ (t.size : Int) := by omega
            have HEX := hide (hat_rest hr)
            have hntt := hnt.trans hh2
            clear hr hh1 hh2 hrs hnt
            subst hntt
            go_wp2_with fail
            go_meet
            exact ⟨by rw [HEX.out, HRS.out], rfl⟩
          · obtain ⟨hh1, hh2⟩ := rest_of s t HIT.out hr1
            have HRS := hide (hrs.trans hh1)
            have hntt := hnt.trans hh2
            clear hr1 hr2 hh1 hh2 hrs hnt
            subst hntt
            go_wp2_with fail
            go_meet
            exact ⟨by rw [HRS.out], rfl⟩
        case rest =>
          obtain ⟨rfl, rfl⟩ := hcut
          clear hrs hnt HIT hts t
          have HSP := hide (fun W => refSplit_any rs W (by omega))
          have HSE := hide (HSS.out)
          go_upto_if 64 with fail
          go_cut [10] from 63 to 66 (fun s10 wx => ∃ (A3 : Option Addr) (c3 : Nat) (ts : List ByteArray), s10 = .slice A3 ts.length c3 ∧ Rds wx wx.heap.size 1 A3 ts.length (strCells ts) ∧ Below w.heap.size w wx ∧ setS l s = foldS l ts 0)
          case first =>
            by_cases hre : rs = ⟨#[]⟩
            · have q2 : (rs.toList == []) = true := list_eq_true hre
              have q3 : rs.toList.isEmpty = true := by rw [hre, ByteArray.toList_eq]; rfl
              have HF := hide (HSE.out.trans (if_pos hre))
              clear hre HSE HSS HSP
              rw [show (!rs.toList.isEmpty) = false by rw [q3]; rfl]
              go_wp2_with fail
              go_meet
              exact ⟨none, 0, [], rfl, ⟨rfl, Nat.zero_le _, fun h => absurd h (by simp)⟩, b1, HF.out⟩
            · have q2 : (rs.toList == []) = false := list_eq_false hre
              have q3 : rs.toList.isEmpty = false := by
                rw [ByteArray.toList_eq]
                cases hd : rs.data.toList with
                | nil => exact absurd (Go.WideShapes.bytes_inj hd) hre
                | cons _ _ => rfl
              have HF := hide (HSE.out.trans (if_neg hre))
              clear hre HSE HSS
              generalize splitT rs = ts at *
              rw [show (!rs.toList.isEmpty) = true by rw [q3]; rfl]
              go_wp2_with fail
              refine (HSP.out _).mono ?_
              rintro e w3 ⟨A3, c3, rfl, -, h3, b3⟩
              have b3' := b1.trans (b3.mono b1.size)
              go_wp2_with fail
              go_meet
              exact ⟨A3, c3, ts, rfl, h3, b3', HF.out⟩
          case rest =>
            obtain ⟨A3, c3, ts, rfl, h3, b3, hset⟩ := hcut
            clear HSP HSS HSE hrz
            have HR3 := hide h3
            have hm3 := h3.2.1
            have HSET := hide hset
            have HRN := hide (HR.out _ b3)
            clear h3 hset HR HVS HNA
            go_wp2_with fail
            obtain ⟨F, hF⟩ : ∃ F : Option Nat, F = foldS l ts 0 := ⟨_, rfl⟩
            have HF := hide hF
            rw [← hF] at HSET
            clear hF
            go_loopw [9, 11] (fun st i wr => ∃ (j k : Nat), j ≤ ts.length ∧ i = .int .i64 (j : Int) ∧ st = .int .i64 (k : Int) ∧ k < 2 ^ 32 ∧ foldS l (ts.drop j) k = F ∧ wr = wc) (fun _ i _ => ts.length - (intOf i).toNat)
            case atStart => exact ⟨0, 0, Nat.zero_le _, rfl, rfl, by decide, HF.out.symm, rfl⟩
            case round =>
              obtain ⟨j, k, hj, rfl, rfl, hk, hf, rfl⟩ := hrel
              by_cases hlt : j < ts.length
              · obtain ⟨bb, oo, rfl, -, ck⟩ := HR3.out.str hlt
                have HB := hide (fun hn => (fold_bad (l := l) (k := k) hlt hn).symm.trans hf)
                have HH := hide (fun c hn hb => (fold_hit (l := l) (k := k) (c := c) hlt hn hb).symm.trans hf)
                have HGO := hide (fun c hn hb => (fold_go (l := l) (k := k) (c := c) hlt hn hb).symm.trans hf)
                generalize ts[j] = t at *
                have hvt := value_any A l.length c l t wr HRN.out
                clear hf
                cases hnt2 : numB l t with
                | none =>
                  rw [hnt2] at hvt
                  dsimp only [Option.getD_none, Option.isSome_none] at hvt
                  have HVT := hide hvt
                  have HFN := hide (HB.out hnt2)
                  clear hnt2 HB HH HGO hvt
                  go_wp2_with fail
                  refine HVT.out.mono ?_
                  rintro e _ ⟨rfl, rfl⟩
                  go_wp2_with fail
                  go_ret2
                  exact ⟨by rw [H4.out (HSET.out.trans HFN.out.symm)]; rfl, b3⟩
                | some d =>
                  rw [hnt2] at hvt
                  dsimp only [Option.getD_some, Option.isSome_some] at hvt
                  have HVT := hide hvt
                  obtain ⟨hd, -⟩ := num_some hnt2
                  have hhas := refHas_any (k : Int) (d : Int) wr
                  rw [has_of hk (by omega)] at hhas
                  cases hb : k.testBit d with
                  | true =>
                    rw [hb] at hhas
                    have HFN := hide (HH.out d hnt2 hb)
                    have HHAS := hide hhas
                    clear hnt2 HB HH HGO hb hhas hvt
                    go_wp2_with fail
                    refine HVT.out.mono ?_
                    rintro e _ ⟨rfl, rfl⟩
                    go_wp2_with fail
                    refine HHAS.out.mono ?_
                    rintro e _ ⟨rfl, rfl⟩
                    go_wp2_with fail
                    go_ret2
                    exact ⟨by rw [H4.out (HSET.out.trans HFN.out.symm)]; rfl, b3⟩
                  | false =>
                    rw [hb] at hhas
                    have HFN := hide (HGO.out d hnt2 hb)
                    have HHAS := hide hhas
                    have HX := hide (add_or hk (by omega) hb)
                    have HW := hide (fun W => worth_any d (by omega) W)
                    have HK2 := hide (show k ||| 2 ^ d < 2 ^ 32 from Nat.or_lt_two_pow hk (Nat.pow_lt_pow_right (by omega) (by omega)))
                    have hp := pow_le32 (k := d) (by omega)
                    have hp2 : 2 ^ d ≤ 4294967296 := hp
                    have hk2 : k < 4294967296 := hk
                    clear hnt2 HB HH HGO hb hhas hvt hp hk
                    generalize 2 ^ d = p at *
                    go_wp2_with fail
                    refine HVT.out.mono ?_
                    rintro e _ ⟨rfl, rfl⟩
                    go_wp2_with fail
                    refine HHAS.out.mono ?_
                    rintro e _ ⟨rfl, rfl⟩
                    go_wp2_with fail
                    refine (HW.out _).mono ?_
                    rintro e _ ⟨rfl, rfl⟩
                    go_wp2_with fail
                    go_roundw
                    case rel => exact ⟨j + 1, k ||| p, by omega, by simp, congrArg (Value.int .i64) (by rw [← HX.out]; simp), HK2.out, HFN.out, trivial⟩
                    case measure => simp [intOf]; omega
              · obtain rfl : j = ts.length := by omega
                have hff : F = some k := by
                  rw [← hf, List.drop_length]
                  rfl
                have HP := hide (H5.out k (HSET.out.trans hff))
                have HNT := hide (refNot_any (k : Int) (l.length : Int) wr)
                clear hf hff HN
                cases nt with
                | true =>
                  go_wp2_with fail
                  refine HNT.out.mono ?_
                  rintro e _ ⟨rfl, rfl⟩
                  go_wp2_with fail
                  go_ret2
                  exact ⟨by rw [HP.out]; rfl, b3⟩
                | false =>
                  go_wp2_with fail
                  go_ret2
                  exact ⟨by rw [HP.out]; rfl, b3⟩
    · have HPV := hide (HP3.out hdot hnum hin)
      clear HP1 HP2 HP3 HP4 HP5 hdot hnum hin
      by_cases h2 : 2 ≤ s.size
      · have h2' : ¬ (s.size : Int) < 2 := by omega
        have i0 : 0 < s.size := by omega
        have i1 : s.size - 1 < s.size := by omega
        have hne' := hne h2
        clear hne
        by_cases h0 : (s[0]'i0) = 91
        · have h93 : ¬ (s[s.size - 1]'i1) = 93 := by
            rcases hne' with h | h
            · exact absurd h0 h
            · exact h
          have q0 : ((((s[0]'i0).toNat : Nat) : Int) != 91) = false := by rw [h0]; rfl
          have q1 : ((((s[s.size - 1]'i1).toNat : Nat) : Int) != 93) = true := by
            rw [bne_iff_ne]
            intro e
            exact h93 (UInt8.toNat_inj.1 (by have : (s[s.size - 1]'i1).toNat = 93 := by omega
                                             rw [this]; rfl))
          clear h93 h0 hne'
          go_wp2_with fail
          go_ret2
          exact ⟨by rw [HPV.out]; rfl, b1⟩
        · have q0 : ((((s[0]'i0).toNat : Nat) : Int) != 91) = true := by
            rw [bne_iff_ne]
            intro e
            exact h0 (UInt8.toNat_inj.1 (by have : (s[0]'i0).toNat = 91 := by omega
                                            rw [this]; rfl))
          clear h0 hne'
          go_wp2_with fail
          go_ret2
          exact ⟨by rw [HPV.out]; rfl, b1⟩
      · have h2' : (s.size : Int) < 2 := by omega
        clear hne
        go_wp2_with fail
        go_ret2
        exact ⟨by rw [HPV.out]; rfl, b1⟩
end Go.Proofs.YtigkphjgidbppaaDoor
