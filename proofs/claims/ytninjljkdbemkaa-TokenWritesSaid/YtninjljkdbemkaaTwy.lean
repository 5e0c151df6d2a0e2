/- The law TokenWrites: the walk. -/
import Derived.Test.YtninjljkdbemkaaTwx
namespace Go.Proofs.Ytninjljkdbemkaa
open Go.RowKit

set_option maxHeartbeats 8000000 in
set_option maxRecDepth 100000 in
/-- strainerlaw05.TokenWrites -/
theorem TokenWrites_calls {w : World} {A0 : Option Addr} {n0 c0 : Nat} {l0 : List Nd} (hN : Nodes w w.heap.size A0 n0 l0) (hc0 : n0 ≤ c0) (hM : M0 w) :
    Calls Try.prog 3 #[.slice A0 n0 c0] w fun e w' => e = .returned (.bool true) ∧ Below w.heap.size w w' := by
  obtain rfl : l0.length = n0 := hN.len
  have HM := Lib.hid hM
  clear hM
  go_enter Try.func3, Try.ntmps3
  go_wp2_with fail
  refine (Good_any hN hc0).mono ?_
  rintro e W1 ⟨A1, c1, rfl, hc1, hN1, b1⟩
  have hgd := goodOf_gd l0
  have hgl := goodOf_length l0
  have hM1 := HM.out.below b1
  generalize goodOf l0 = g at *
  have hlen := twText_len hgd
  have HTK := Lib.hid (tw_toks g hgd)
  have HAT := Lib.hid (twToks_ats hgd)
  have HGD := Lib.hid hgd
  have HM1 := Lib.hid hM1
  clear hN hgd hM1
  go_wp2
  go_loopw [4, 5, 6] (fun sv' lv iv wr => ∃ (k : Nat) (A : Option Addr) (c : Nat) (xs : List Value), sv' = .string ⟨(twText (g.take k)).toArray⟩ ∧ lv = .slice A (twToks (g.take k)).length c ∧ iv = .int .i64 k ∧ k ≤ g.length ∧ TwSt W1 wr A c (twToks (g.take k)) xs) (fun _ _ iv _ => g.length - (intOf iv).toNat)
  case atStart => exact ⟨0, none, 0, [], rfl, rfl, rfl, Nat.zero_le _, ⟨World.ownsRow_nil _ _ _ _, TsIs.nil _ _, Below.refl _ _, Nat.le_refl _⟩⟩
  case round =>
    obtain ⟨k, A, c, xs, rfl, rfl, rfl, hk, st⟩ := hrel
    by_cases hlt : k < g.length
    · obtain ⟨a, rfl, hna⟩ := hN1.node hlt hlt
      have hna := hna.keep st.bel
      have gk := hna.k
      have gn := hna.nm
      have gt := hna.tx
      obtain ⟨A2, c2, ga, hac, hat⟩ := hna.ats
      obtain ⟨A3, c3, gd, hdc, hkd⟩ := hna.kd
      have hm := HGD.out _ (List.getElem_mem hlt)
      have hlk : (twText (g.take k)).length ≤ 20000 * k := by
        have := twText_len (l := g.take k) (fun x hx => HGD.out x (List.mem_of_mem_take hx))
        rw [List.length_take] at this
        omega
      have hDk := twToks_len (g.take k)
      rw [List.length_take] at hDk
      have HT1 := Lib.hid (twToks_next hlt)
      have HT2 := Lib.hid (twText_next hlt)
      have hel := fun h1 => el_len hm h1
      have hat' : Atrs wr W1.heap.size A2 g[k].attrs.length g[k].attrs := hat
      generalize g[k] = nd at *
      generalize twText (g.take k) = acc at *
      generalize twToks (g.take k) = D at *
      have hK : a.block < W1.heap.size := by have := hna.1; rw [block_add] at this; exact this
      have HN1 := Lib.hid hN1
      have HKD := Lib.hid hkd
      have HNA := Lib.hid hna
      clear hN1 hkd hna hat
      go_wp2_with fail
      refine (rRaw_any nd.name _).mono ?_
      rintro e W2 ⟨rfl, hW2⟩
      rw [← hW2]
      clear hW2 W2
      go_wp2_with fail
      refine (rVoid_any nd.name _).mono ?_
      rintro e W2 ⟨rfl, hW2⟩
      rw [← hW2]
      clear hW2 W2
      have hall : tagEl nd = (nd.kind == 1 && (!rawL nd.name && !voidL nd.name)) := rfl
      have HALL := Lib.hid hall
      have HRW := Lib.hid (rfl : rawL nd.name = rawL nd.name)
      by_cases hok : nd.kind = 1 ∧ rawL nd.name = false ∧ voidL nd.name = false
      · obtain ⟨h1, hr, hv⟩ := hok
        have HTE := Lib.hid (show tagEl nd = true by unfold tagEl; rw [h1, hr, hv]; rfl)
        obtain ⟨hn1, hn2, hn3⟩ := hm h1
        have hel := hel h1
        have hf := AtFew.of hn3
        have hf1 := hn3.1
        rw [hr, hv]
        rw [h1] at gk
        have hcat : (⟨acc.toArray⟩ : ByteArray) ++ ⟨(elL nd.name nd.attrs).toArray⟩ = ⟨(acc ++ elL nd.name nd.attrs).toArray⟩ := cat_str _ _
        have HCAT := Lib.hid hcat
        obtain ⟨X, hX⟩ : ∃ X : Obj, X = .cells #[.int .i64 1, .string ⟨nd.name.toArray⟩, .slice A2 nd.attrs.length c2, .string ⟨nd.text.toArray⟩, .slice none 0 0] 28 := ⟨_, rfl⟩
        have bX : Below wr.heap.size wr ((wr.alloc X).alloc X) := ((Below.refl wr.heap.size wr).alloc (Nat.le_refl _) X).alloc (by simp) X
        have hx0 : ((wr.alloc X).alloc X).heap[wr.heap.size]? = some X := by rw [Below.heap_alloc _ _ _ (by simp)]; exact heap_alloc_new wr X
        have hx1 : ((wr.alloc X).alloc X).heap[wr.heap.size + 1]? = some X := by have := heap_alloc_new (wr.alloc X) X; simpa using this
        have hatW : Atrs ((wr.alloc X).alloc X) ((wr.alloc X).alloc X).heap.size A2 nd.attrs.length nd.attrs := (Rd.below (B := W1.heap.size) hat' (bX.mono st.bel.size)).more (Nat.le_trans st.bel.size bX.size)
        have hsX : ((wr.alloc X).alloc X).heap.size = wr.heap.size + 2 := by simp
        subst hX
        have HAT' := Lib.hid hat'
        have HXS := Lib.hid hsX
        clear hcat hat' hsX
        go_wp2_with fail
        refine (RefText_elem (A := ⟨wr.heap.size + 1, 0, none⟩) (nm := nd.name) (ats := nd.attrs) (tx := nd.text) (by rw [HXS.out]; simp) hx1 rfl hatW hac (by omega) hf hv).mono ?_
        rintro e W3 ⟨rfl, b3⟩
        have hx3 := (b3.block wr.heap.size (by rw [HXS.out]; omega)).trans hx0
        have st3 := st.step (bt bX b3)
        have hAt3 : Atrs W3 W1.heap.size A2 nd.attrs.length nd.attrs := Rd.below (B := W1.heap.size) HAT'.out ((bt bX b3).mono st.bel.size)
        have HT3 := Lib.hid hAt3
        generalize hell : elL nd.name nd.attrs = el at *
        have z1 : ¬ 9223372036854775807 < acc.length + el.length := by omega
        have cH := fun i => Lib.cell_of_heap hx3 i
        have d1 := cH 1
        have d2 := cH 2
        simp only [List.getElem?_toArray, List.getElem?_cons_zero, List.getElem?_cons_succ] at d1 d2
        clear hx3 hx0 hx1 bX b3 cH hatW hAt3 gk gn gt ga gd st
        go_wp2_with (at_builtin; go_must (refine wpList_pushm_at rfl _ _ _ rfl W1.heap.size rowTk A D.length c xs rfl st3.own 2 [.int .i64 1, .string ⟨nd.name.toArray⟩, .slice A2 nd.attrs.length c2, .string ⟨#[]⟩, .int .i64 2, .string ⟨nd.name.toArray⟩, .slice none 0 0, .string ⟨#[]⟩] 2 rfl rfl (by simp [Value.oneCell']) (by unfold maxLen; omega) (by omega) st3.bel.size ?_))
        intro A6 c6 w6 hc6 ho6 hg6 hat6
        have st6 := st3.push2 (t := ⟨1, nd.name, nd.attrs, []⟩) (u := ⟨2, nd.name, [], []⟩) (cs := [.int .i64 1, .string ⟨nd.name.toArray⟩, .slice A2 nd.attrs.length c2, .string ⟨#[]⟩]) (ds := [.int .i64 2, .string ⟨nd.name.toArray⟩, .slice none 0 0, .string ⟨#[]⟩])
          ⟨A2, c2, rfl, hac, RdP.more (S := fun b => b < W1.heap.size) HT3.out (fun _ hb => st3.old hb)⟩ ⟨none, 0, rfl, Nat.le_refl 0, RdP.nil _ _ _ _⟩ hg6 ho6 hc6 hat6
        clear hg6 ho6 hat6 st3 d1 d2
        rw [HCAT.out]
        go_wp2
        go_roundw
        case rel => exact ⟨k + 1, A6, c6, _, by rw [HT2.out, HTE.out, if_pos rfl], by rw [HT1.out, HTE.out, if_pos rfl]; simp, by go_num, by omega, by rw [HT1.out, HTE.out, if_pos rfl]; exact st6⟩
        case measure => simp [intOf]; omega
      · have HTE := Lib.hid (show tagEl nd = false by
          rw [← Bool.not_eq_true]
          intro h
          simp only [tagEl, Bool.and_eq_true, beq_iff_eq, Bool.not_eq_true'] at h
          exact hok ⟨h.1, h.2.1, h.2.2⟩)
        clear hel hm
        by_cases h1 : nd.kind = 1
        · have hrv : rawL nd.name = true ∨ (rawL nd.name = false ∧ voidL nd.name = true) := by
            cases hr : rawL nd.name with
            | true => exact .inl rfl
            | false =>
              refine .inr ⟨rfl, ?_⟩
              cases hv : voidL nd.name with
              | true => rfl
              | false => exact absurd ⟨h1, hr, hv⟩ hok
          rw [h1] at gk
          clear hok
          rcases hrv with hr | ⟨hr, hv⟩
          · rw [hr]
            go_wp2
            go_roundw
            case rel => exact ⟨k + 1, A, c, xs, by rw [HT2.out, HTE.out]; simp, by rw [HT1.out, HTE.out]; simp, by go_num, by omega, by rw [HT1.out, HTE.out]; simpa using st⟩
            case measure => simp [intOf]; omega
          · rw [hr, hv]
            go_wp2
            go_roundw
            case rel => exact ⟨k + 1, A, c, xs, by rw [HT2.out, HTE.out]; simp, by rw [HT1.out, HTE.out]; simp, by go_num, by omega, by rw [HT1.out, HTE.out]; simpa using st⟩
            case measure => simp [intOf]; omega
        · have q1 : (nd.kind != 1) = true := by simp [h1]
          clear hok
          go_wp2
          go_roundw
          case rel => exact ⟨k + 1, A, c, xs, by rw [HT2.out, HTE.out]; simp, by rw [HT1.out, HTE.out]; simp, by go_num, by omega, by rw [HT1.out, HTE.out]; simpa using st⟩
          case measure => simp [intOf]; omega
    · obtain rfl : k = g.length := by omega
      rw [List.take_length] at st ⊢
      generalize htx : twText g = t at *
      generalize htk : twToks g = D at *
      have HD := Lib.hid (show D.length ≤ 2 * g.length by rw [← htk]; exact twToks_len g)
      clear htx htk hN1
      go_wp2_with fail
      refine (Tokens_any (l := t) (IsStr.mk t) (by omega) (HM1.out.below st.bel)).mono ?_
      rintro e W3 ⟨A3, c3, rfl, hc3, hP, b3⟩
      rw [HTK.out] at hP hc3 ⊢
      have hP1 : Toks W3 W3.heap.size A3 _ _ := ToksP.lt hP (fun b hb => hb.2)
      have st3 := st.step b3
      have hP2 := st3.got
      have B3 := bt b1 st3.bel
      clear hP b3 st
      go_wp2_with fail
      refine (TSame_yes hP1 hP2 (by have := HD.out; omega) HAT.out).mono ?_
      rintro e W4 ⟨rfl, b4⟩
      go_wp2_with fail
      refine (lives05 ((HM.out.below B3).below b4)).mono ?_
      rintro e W5 ⟨rfl, b5⟩
      go_wp2
      go_ret
      exact ⟨rfl, bt (bt B3 b4) b5⟩
end Go.Proofs.Ytninjljkdbemkaa
