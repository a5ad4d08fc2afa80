/- Part of the proof: FS20, Inv, FE1, FE2, Nod, Exp, FE3, FE4, FC1, FE5, Exp2, FE8, Rec, FV5, FV6, Crt, FV7, FV8, Cval, FV9, FV10, FV11, Prd, FV12, Vfy, Sec. -/
import Derived.Test.YtdaaddkipdmajaaGreatDoorM5
import Derived.Test.YtdaaddkipdmajaaGreatDoorM2
import Derived.Test.YtdaaddkipdmajaaGreatDoorProg
import Derived.Test.YtdaaddkipdmajaaGreatDoorM3
import Derived.Test.YtdaaddkipdmajaaGreatDoorM4
namespace Go.Proofs.YtdaaddkipdmajaaGreatDoor
open Go Go.Am Go.Sp
set_option maxRecDepth 100000

theorem node_c (d l i : Int) : Pure Tryz.prog gl0 68 [.int .i64 d, .agg [.int .i64 l, .int .i64 i]] (.bool (nodeB d l i)) := by
  refine pure_sk (own := ow0) Tryz.func68 (by kernel_rfl) mixed (by kernel_rfl)
    (.req (((decide (d ≥ 0) && decide (d ≤ 5) && decide (l ≥ 0) && decide (l ≤ d) && decide (i ≥ 0)) == true) = true → (0 : Int) ≤ l) (.out (AV.bool (decide (d ≥ 0) && decide (d ≤ 5) && decide (l ≥ 0) && decide (l ≤ d) && decide (i ≥ 0) && decide (i < IntKind.wrap IntKind.i64 ((1 : Int) * 2 ^ min (Int.toNat l) 64)))) [] (AV.bool (nodeB d l i)) []))
    (by kernel_rfl) ?_
  refine k_req (fun hr => by have hr := (cnd_eqt_t (cnd_and_t (cnd_and_t (cnd_and_t (cnd_and_t cnd_dec_t cnd_dec_t) cnd_dec_t) cnd_dec_t) cnd_dec_t)) hr; omega) ?_
  exact k_out (Ent.of_eq (congrArg _ (node_m d l i)))

theorem span_c (d l i : Int) : Pure Tryz.prog gl0 25 [.int .i64 d, .agg [.int .i64 l, .int .i64 i]] (.tup [.int .i64 (spanA d l i), .int .i64 (spanZ d l i), .int .i64 (spanE d l i)]) := by
  refine pure_sk (own := ow0) Tryz.func25 (by kernel_rfl) mixed (by kernel_rfl)
    (let y0 : AV := (AV.tup [Zi (spanA d l i), Zi (spanZ d l i), Zi (spanE d l i)]); let y1 : Nat := (Int.toNat (IntKind.wrap IntKind.i64 (d - l))); (.br (decide (d < 0) || decide (d > 5)) (.out (AV.tup [Zi 0, Zi 0, Zi 1]) [] y0 []) (.sc (true) 68 ([Zi d, AV.agg [Zi l, Zi i]]) (AV.bool (nodeB d l i)) (.br (!nodeB d l i) (.out (AV.tup [Zi 0, Zi 0, Zi 2]) [] y0 []) (.req ((0 : Int) ≤ IntKind.wrap IntKind.i64 (d - l)) (.out (AV.tup [Zi (IntKind.wrap IntKind.i64 (i * IntKind.wrap IntKind.i64 ((1 : Int) * 2 ^ min y1 64))), Zi (IntKind.wrap IntKind.i64 (IntKind.wrap IntKind.i64 (i + 1) * IntKind.wrap IntKind.i64 ((1 : Int) * 2 ^ min y1 64))), Zi 0]) [] y0 []))))))
    (by kernel_rfl) ?_
  refine k_br (fun h0 => ?_) (fun h0 => ?_)
  · have g0 := (cnd_or_t cnd_dec_t cnd_dec_t) h0
    exact k_out (Ent.of_eq (by obtain ⟨a, b, c⟩ := span_1 (l := l) (i := i) h0; rw [a, b, c]))
  · have g0 := (cnd_or_f cnd_dec_f cnd_dec_f) h0
    refine k_sc (node_c (d) (l) (i)) ?_
    refine k_br (fun h3 => ?_) (fun h3 => ?_)
    · have g3 := (cnd_not_t cnd_id_f) h3
      exact k_out (Ent.of_eq (by obtain ⟨a, b, c⟩ := span_2 h0 h3; rw [a, b, c]))
    · have g3 := (cnd_not_f cnd_id_t) h3
      refine k_req ((span_3 h3).2.2.2) ?_
      exact k_out (Ent.of_eq (by obtain ⟨a, b, c, _⟩ := span_3 h3; rw [a, b, c]))

theorem rplace_c (d l i : Int) : Pure Tryz.prog gl0 86 [.int .i64 d, .int .i64 l, .int .i64 i] (.bool (placeB d l i)) := by
  refine pure_sk (own := ow0) Tryz.func86 (by kernel_rfl) mixed (by kernel_rfl)
    (.req (((decide (l ≥ 0) && decide (l ≤ d) && decide (i ≥ 0)) == true) = true → (0 : Int) ≤ l) (.out (AV.bool (decide (l ≥ 0) && decide (l ≤ d) && decide (i ≥ 0) && decide (i < IntKind.wrap IntKind.i64 ((1 : Int) * 2 ^ min (Int.toNat l) 64)))) [] (AV.bool (placeB d l i)) []))
    (by kernel_rfl) ?_
  refine k_req (fun hr => by have hr := (cnd_eqt_t (cnd_and_t (cnd_and_t cnd_dec_t cnd_dec_t) cnd_dec_t)) hr; omega) ?_
  exact k_out (Ent.refl _)

theorem rnode_c (d l i : Int) : Pure Tryz.prog gl0 22 [.int .i64 d, .agg [.int .i64 l, .int .i64 i]] (.bool (nodeB d l i)) := by
  refine pure_sk (own := ow0) Tryz.func22 (by kernel_rfl) mixed (by kernel_rfl)
    (.sc ((decide (d ≥ 0) && decide (d ≤ 5)) == true) 86 ([Zi d, Zi l, Zi i]) (AV.bool (placeB d l i)) (.out (AV.bool (decide (d ≥ 0) && decide (d ≤ 5) && placeB d l i)) [] (AV.bool (nodeB d l i)) []))
    (by kernel_rfl) ?_
  refine k_scg (fun h0 => rplace_c (d) (l) (i)) ?_
  exact k_out (Ent.of_eq (congrArg _ (place_node d l i)))

theorem context_c (x : Cxt) : Pure Tryz.prog gl0 69 [x.av] (.bool (ctxB x.time x.number)) := by
  refine pure_sk (own := ow0) Tryz.func69 (by kernel_rfl) mixed (by kernel_rfl)
    (.out (AV.bool (decide (x.2 ≥ 0) && decide (x.2 ≤ 1099511627776) && decide (x.3 ≥ 0) && decide (x.3 ≤ 1073741824))) [] (AV.bool (ctxB (Cxt.time x) (Cxt.number x))) [])
    (by kernel_rfl) ?_
  exact k_out (Ent.refl _)

theorem rctx_c (x : Cxt) : Pure Tryz.prog gl0 23 [x.av] (.bool (ctxB x.time x.number)) := by
  refine pure_sk (own := ow0) Tryz.func23 (by kernel_rfl) mixed (by kernel_rfl)
    (.out (AV.bool (decide (x.2 ≥ 0) && decide (x.2 ≤ 1099511627776) && decide (x.3 ≥ 0) && decide (x.3 ≤ 1073741824))) [] (AV.bool (ctxB (Cxt.time x) (Cxt.number x))) [])
    (by kernel_rfl) ?_
  exact k_out (Ent.refl _)

theorem rspan_c (d l i : Int) (h : nodeB d l i = true) : Pure Tryz.prog gl0 63 [.int .i64 d, .agg [.int .i64 l, .int .i64 i]] (.tup [.int .i64 (spanA d l i), .int .i64 (spanZ d l i)]) := by
  refine pure_sk (own := ow0) Tryz.func63 (by kernel_rfl) mixed (by kernel_rfl)
    (let y0 : Nat := (Int.toNat (IntKind.wrap IntKind.u64 (IntKind.wrap IntKind.i64 (d - l)))); (.req ((0 : Int) ≤ IntKind.wrap IntKind.u64 (IntKind.wrap IntKind.i64 (d - l))) (.out (AV.tup [Zi (IntKind.wrap IntKind.i64 (i * IntKind.wrap IntKind.i64 ((1 : Int) * 2 ^ min y0 64))), Zi (IntKind.wrap IntKind.i64 (IntKind.wrap IntKind.i64 (i + 1) * IntKind.wrap IntKind.i64 ((1 : Int) * 2 ^ min y0 64)))]) [] (AV.tup [Zi (spanA d l i), Zi (spanZ d l i)]) [])))
    (by kernel_rfl) ?_
  refine k_req (wU_nonneg _) ?_
  exact k_out (Ent.of_eq (by obtain ⟨a, b⟩ := rspan_m h; rw [a, b]))

theorem cdig_c (c : Coin) (hr : byB c.root 32) : Pure Tryz.prog gl0 147 [c.av] (.agg (u8c c.dig)) := by
  have hi := citem_w c
  have he := encode_c c.it c.it_ok (by rw [c.it_len]; decide)
  have ht := tagged_c "specie/coin-item".toUTF8 (by decide) (by decide) (fun i => c.it.enc.getD i 0) c.it.enc.length (by rw [c.it_len]; decide) (It.enc_by (Coin.it_okB hr))
  refine pure_sk (own := ow0) Tryz.func147 (by kernel_rfl) mixed (by kernel_rfl)
    (.dc (true) 213 ([AV.agg (Coin.cells c)]) (It.av (Coin.it c)) (.dc (true) 136 ([AV.agg [Zi (It.kind (Coin.it c)), Zi (It.num (Coin.it c)), AV.isl 1 0 fun (i x : Nat) => Zb (It.fb (Coin.it c) i), AV.isl 4 3 (It.row (Coin.it c))]]) (AV.tup [il IntKind.u8 (It.enc (Coin.it c)), Zi 0]) (.sc (true) 149 ([AV.str { data := #[(115 : UInt8), (112 : UInt8), (101 : UInt8), (99 : UInt8), (105 : UInt8), (101 : UInt8), (47 : UInt8), (99 : UInt8), (111 : UInt8), (105 : UInt8), (110 : UInt8), (45 : UInt8), (105 : UInt8), (116 : UInt8), (101 : UInt8), (109 : UInt8)] }, AV.isl 1 133 fun (i x : Nat) => Zb (List.getD (It.enc (Coin.it c)) i (0 : Int))]) (AV.tup [AV.agg (u8c (tagF (String.toUTF8 "specie/coin-item") (List.length (It.enc (Coin.it c))) fun (i : Nat) => List.getD (It.enc (Coin.it c)) i (0 : Int))), Zi 0]) (.out (AV.agg (u8c (tagF (String.toUTF8 "specie/coin-item") 133 fun (i : Nat) => List.getD (It.enc (Coin.it c)) i (0 : Int)))) [] (AV.agg (u8c (Coin.dig c))) []))))
    (by kernel_rfl) ?_
  refine k_dc (hi) ?_
  refine k_dc (he) ?_
  refine k_sc (ht) ?_
  exact k_out (Ent.refl _)

theorem rcdig_c (c : Coin) (hr : byB c.root 32) : Pure Tryz.prog gl0 120 [c.av] (.agg (u8c c.dig)) := by
  have hi := ritem_w c
  have he := renc_c c.it (by rw [c.it_len]; decide)
  have ht := rtagged_c "specie/coin-item".toUTF8 (by decide) (fun i => c.it.enc.getD i 0) c.it.enc.length (by rw [c.it_len]; decide) (It.enc_by (Coin.it_okB hr))
  refine pure_sk (own := ow0) Tryz.func120 (by kernel_rfl) mixed (by kernel_rfl)
    (.dc (true) 190 ([AV.agg (Coin.cells c)]) (It.av (Coin.it c)) (.dc (true) 124 ([AV.agg [Zi (It.kind (Coin.it c)), Zi (It.num (Coin.it c)), AV.isl 1 0 fun (i x : Nat) => Zb (It.fb (Coin.it c) i), AV.isl 4 3 (It.row (Coin.it c))]]) (il IntKind.u8 (It.enc (Coin.it c))) (.sc (true) 123 ([AV.str { data := #[(115 : UInt8), (112 : UInt8), (101 : UInt8), (99 : UInt8), (105 : UInt8), (101 : UInt8), (47 : UInt8), (99 : UInt8), (111 : UInt8), (105 : UInt8), (110 : UInt8), (45 : UInt8), (105 : UInt8), (116 : UInt8), (101 : UInt8), (109 : UInt8)] }, AV.isl 1 133 fun (i x : Nat) => Zb (List.getD (It.enc (Coin.it c)) i (0 : Int))]) (AV.agg (u8c (tagF (String.toUTF8 "specie/coin-item") (List.length (It.enc (Coin.it c))) fun (i : Nat) => List.getD (It.enc (Coin.it c)) i (0 : Int)))) (.out (AV.agg (u8c (tagF (String.toUTF8 "specie/coin-item") 133 fun (i : Nat) => List.getD (It.enc (Coin.it c)) i (0 : Int)))) [] (AV.agg (u8c (Coin.dig c))) []))))
    (by kernel_rfl) ?_
  refine k_dc (hi) ?_
  refine k_dc (he) ?_
  refine k_sc (ht) ?_
  exact k_out (Ent.refl _)

theorem list4 (a b c d : It) : Pure Tryz.prog gl0 145 [.isl 4 4 fun r k => atL (List.getD [a.cells, b.cells, c.cells, d.cells] r []) k] (lsI [a, b, c, d]).av :=
  (list_c 4 _).ent (li4_out (EntL.refl _) (EntL.refl _) (EntL.refl _) (EntL.refl _))

theorem rlist_c (n : Nat) (f : Nat → Nat → AV) : Pure Tryz.prog gl0 125 [.isl 4 n f] (.agg [.int .i64 3, .int .i64 0, .nsl, .isl 4 n f]) := by
  refine pure_sk (own := ow0) Tryz.func125 (by kernel_rfl) mixed (by kernel_rfl)
    (let y0 : AV := (AV.agg [Zi 3, Zi 0, AV.nsl, AV.isl 4 n f]); (.out y0 [] y0 []))
    (by kernel_rfl) ?_
  exact k_out (Ent.refl _)

theorem rlist4 (a b c d : It) : Pure Tryz.prog gl0 125 [.isl 4 4 fun r k => atL (List.getD [a.cells, b.cells, c.cells, d.cells] r []) k] (lsI [a, b, c, d]).av :=
  (rlist_c 4 _).ent (li4_out (EntL.refl _) (EntL.refl _) (EntL.refl _) (EntL.refl _))

theorem chal_c (b : Bas) (c : Coin) (l i : Int) (x : Cxt) (hr : byB c.root 32) (hp : byB x.payee 32) (hq : 0 < b.gr.q) (hq' : b.gr.q < 2305843009213693952) : Pure Tryz.prog gl0 70 [b.av, c.av, .agg [.int .i64 l, .int .i64 i], x.av] (.int .i64 (chalN b.gr.q c l i x)) := by
  have hd := cdig_c c hr
  have hb := bytes_c c.dig
  have hb2 := bytes_c x.payee
  have hi := ints_2 l i
  have hi2 := ints_2 x.time x.number
  have hl := list4 (.byt 32 c.dig) (intsI [l, i]) (.byt 32 x.payee) (intsI [x.time, x.number])
  have he := encode_c (chalI c l i x) (chal_ok c l i x) (by rw [chal_len]; decide)
  have ht := tagged_c "specie/spend".toUTF8 (by decide) (by decide) (fun k => (chalI c l i x).enc.getD k 0) (chalI c l i x).enc.length (by rw [chal_len]; decide) (It.enc_by (chal_okB hp))
  have hn := number_c (tagI "specie/spend".toUTF8 (chalI c l i x)) b.gr.q hq hq' (tagI_by _ _ _)
  refine pure_sk (own := ow0) Tryz.func70 (by kernel_rfl) mixed (by kernel_rfl)
    (.sc (true) 147 ([AV.agg (Coin.cells c)]) (AV.agg (u8c (Coin.dig c))) (.dc (true) 146 ([AV.agg (u8c (Coin.dig c))]) (It.av (It.byt 32 (Coin.dig c))) (.dc (true) 148 ([AV.isl 1 2 fun (r k : Nat) => atL (List.getD [[Zi l], [Zi i]] (r + 0) []) k]) (It.av (intsI [l, i])) (.dc (true) 146 ([AV.agg (u8c x.1)]) (It.av (It.byt 32 (Cxt.payee x))) (.dc (true) 148 ([AV.isl 1 2 fun (r k : Nat) => atL (List.getD [[Zi x.2], [Zi x.3]] (r + 0) []) k]) (It.av (intsI [Cxt.time x, Cxt.number x])) (.dc (true) 145 ([AV.isl 4 4 fun (r k : Nat) => atL (List.getD [[Zi (It.kind (It.byt 32 (Coin.dig c))), Zi (It.num (It.byt 32 (Coin.dig c))), AV.isl 1 32 fun (i x : Nat) => Zb (It.fb (It.byt 32 (Coin.dig c)) i), AV.isl 4 0 (It.row (It.byt 32 (Coin.dig c)))], [Zi (It.kind (intsI [l, i])), Zi (It.num (intsI [l, i])), AV.isl 1 0 fun (i_1 x : Nat) => Zb (It.fb (intsI [l, i]) i_1), AV.isl 4 2 (It.row (intsI [l, i]))], [Zi (It.kind (It.byt 32 x.1)), Zi (It.num (It.byt 32 x.1)), AV.isl 1 32 fun (i x_1 : Nat) => Zb (It.fb (It.byt 32 x.1) i), AV.isl 4 0 (It.row (It.byt 32 x.1))], [Zi (It.kind (intsI [x.2, x.3])), Zi (It.num (intsI [x.2, x.3])), AV.isl 1 0 fun (i x_1 : Nat) => Zb (It.fb (intsI [x.2, x.3]) i), AV.isl 4 2 (It.row (intsI [x.2, x.3]))]] (r + 0) []) k]) (It.av (lsI [It.byt 32 (Coin.dig c), intsI [l, i], It.byt 32 (Cxt.payee x), intsI [Cxt.time x, Cxt.number x]])) (.dc (true) 136 ([AV.agg [Zi (It.kind (lsI [It.byt 32 (Coin.dig c), intsI [l, i], It.byt 32 x.1, intsI [x.2, x.3]])), Zi (It.num (lsI [It.byt 32 (Coin.dig c), intsI [l, i], It.byt 32 x.1, intsI [x.2, x.3]])), AV.isl 1 0 fun (i_1 x_1 : Nat) => Zb (It.fb (lsI [It.byt 32 (Coin.dig c), intsI [l, i], It.byt 32 x.1, intsI [x.2, x.3]]) i_1), AV.isl 4 4 (It.row (lsI [It.byt 32 (Coin.dig c), intsI [l, i], It.byt 32 x.1, intsI [x.2, x.3]]))]]) (AV.tup [il IntKind.u8 (It.enc (chalI c l i x)), Zi 0]) (.sc (true) 149 ([AV.str { data := #[(115 : UInt8), (112 : UInt8), (101 : UInt8), (99 : UInt8), (105 : UInt8), (101 : UInt8), (47 : UInt8), (115 : UInt8), (112 : UInt8), (101 : UInt8), (110 : UInt8), (100 : UInt8)] }, AV.isl 1 125 fun (i_1 x_1 : Nat) => Zb (List.getD (It.enc (chalI c l i x)) i_1 (0 : Int))]) (AV.tup [AV.agg (u8c (tagF (String.toUTF8 "specie/spend") (List.length (It.enc (chalI c l i x))) fun (k : Nat) => List.getD (It.enc (chalI c l i x)) k (0 : Int))), Zi 0]) (.sc (true) 150 ([AV.agg (u8c (tagF (String.toUTF8 "specie/spend") 125 fun (k : Nat) => List.getD (It.enc (chalI c l i x)) k (0 : Int))), Zi (Bas.gr b).2]) (AV.tup [Zi (numF (tagI (String.toUTF8 "specie/spend") (chalI c l i x)) (Grp.q (Bas.gr b)) 16), Zi 0]) (.out (Zi (numF (tagI (String.toUTF8 "specie/spend") (chalI c l i x)) (Bas.gr b).2 16)) [] (Zi (chalN (Grp.q (Bas.gr b)) c l i x)) []))))))))))
    (by kernel_rfl) ?_
  refine k_sc (hd) ?_
  refine k_dc (hb) ?_
  refine k_dc (hi) ?_
  refine k_dc (hb2) ?_
  refine k_dc (hi2) ?_
  refine k_dc (hl) ?_
  refine k_dc (he) ?_
  refine k_sc (ht) ?_
  refine k_sc (hn) ?_
  exact k_out (Ent.refl _)

theorem rchal_c (b : Bas) (c : Coin) (l i : Int) (x : Cxt) (hr : byB c.root 32) (hp : byB x.payee 32) (hq : 0 < b.gr.q) (hq' : b.gr.q < 2305843009213693952) : Pure Tryz.prog gl0 47 [b.av, c.av, .agg [.int .i64 l, .int .i64 i], x.av] (.int .i64 (chalN b.gr.q c l i x)) := by
  have hd := rcdig_c c hr
  have hb := rbytes31_c c.dig
  have hb2 := rbytes31_c x.payee
  have hi := rints_2 l i
  have hi2 := rints_2 x.time x.number
  have hl := rlist4 (.byt 32 c.dig) (intsI [l, i]) (.byt 32 x.payee) (intsI [x.time, x.number])
  have he := renc_c (chalI c l i x) (by rw [chal_len]; decide)
  have ht := rtagged_c "specie/spend".toUTF8 (by decide) (fun k => (chalI c l i x).enc.getD k 0) (chalI c l i x).enc.length (by rw [chal_len]; decide) (It.enc_by (chal_okB hp))
  have hn := rnumber_c (tagI "specie/spend".toUTF8 (chalI c l i x)) b.gr.q hq hq' (tagI_by _ _ _)
  refine pure_sk (own := ow0) Tryz.func47 (by kernel_rfl) mixed (by kernel_rfl)
    (.sc (true) 120 ([AV.agg (Coin.cells c)]) (AV.agg (u8c (Coin.dig c))) (.dc (true) 119 ([AV.agg (u8c (Coin.dig c))]) (It.av (It.byt 32 (Coin.dig c))) (.dc (true) 121 ([AV.isl 1 2 fun (r k : Nat) => atL (List.getD [[Zi l], [Zi i]] (r + 0) []) k]) (It.av (intsI [l, i])) (.dc (true) 119 ([AV.agg (u8c x.1)]) (It.av (It.byt 32 (Cxt.payee x))) (.dc (true) 121 ([AV.isl 1 2 fun (r k : Nat) => atL (List.getD [[Zi x.2], [Zi x.3]] (r + 0) []) k]) (It.av (intsI [Cxt.time x, Cxt.number x])) (.dc (true) 125 ([AV.isl 4 4 fun (r k : Nat) => atL (List.getD [[Zi (It.kind (It.byt 32 (Coin.dig c))), Zi (It.num (It.byt 32 (Coin.dig c))), AV.isl 1 32 fun (i x : Nat) => Zb (It.fb (It.byt 32 (Coin.dig c)) i), AV.isl 4 0 (It.row (It.byt 32 (Coin.dig c)))], [Zi (It.kind (intsI [l, i])), Zi (It.num (intsI [l, i])), AV.isl 1 0 fun (i_1 x : Nat) => Zb (It.fb (intsI [l, i]) i_1), AV.isl 4 2 (It.row (intsI [l, i]))], [Zi (It.kind (It.byt 32 x.1)), Zi (It.num (It.byt 32 x.1)), AV.isl 1 32 fun (i x_1 : Nat) => Zb (It.fb (It.byt 32 x.1) i), AV.isl 4 0 (It.row (It.byt 32 x.1))], [Zi (It.kind (intsI [x.2, x.3])), Zi (It.num (intsI [x.2, x.3])), AV.isl 1 0 fun (i x_1 : Nat) => Zb (It.fb (intsI [x.2, x.3]) i), AV.isl 4 2 (It.row (intsI [x.2, x.3]))]] (r + 0) []) k]) (It.av (lsI [It.byt 32 (Coin.dig c), intsI [l, i], It.byt 32 (Cxt.payee x), intsI [Cxt.time x, Cxt.number x]])) (.dc (true) 124 ([AV.agg [Zi (It.kind (lsI [It.byt 32 (Coin.dig c), intsI [l, i], It.byt 32 x.1, intsI [x.2, x.3]])), Zi (It.num (lsI [It.byt 32 (Coin.dig c), intsI [l, i], It.byt 32 x.1, intsI [x.2, x.3]])), AV.isl 1 0 fun (i_1 x_1 : Nat) => Zb (It.fb (lsI [It.byt 32 (Coin.dig c), intsI [l, i], It.byt 32 x.1, intsI [x.2, x.3]]) i_1), AV.isl 4 4 (It.row (lsI [It.byt 32 (Coin.dig c), intsI [l, i], It.byt 32 x.1, intsI [x.2, x.3]]))]]) (il IntKind.u8 (It.enc (chalI c l i x))) (.sc (true) 123 ([AV.str { data := #[(115 : UInt8), (112 : UInt8), (101 : UInt8), (99 : UInt8), (105 : UInt8), (101 : UInt8), (47 : UInt8), (115 : UInt8), (112 : UInt8), (101 : UInt8), (110 : UInt8), (100 : UInt8)] }, AV.isl 1 125 fun (i_1 x_1 : Nat) => Zb (List.getD (It.enc (chalI c l i x)) i_1 (0 : Int))]) (AV.agg (u8c (tagF (String.toUTF8 "specie/spend") (List.length (It.enc (chalI c l i x))) fun (k : Nat) => List.getD (It.enc (chalI c l i x)) k (0 : Int)))) (.sc (true) 122 ([AV.agg (u8c (tagF (String.toUTF8 "specie/spend") 125 fun (k : Nat) => List.getD (It.enc (chalI c l i x)) k (0 : Int))), Zi (Bas.gr b).2]) (Zi (numF (tagI (String.toUTF8 "specie/spend") (chalI c l i x)) (Grp.q (Bas.gr b)) 16)) (.out (Zi (numF (tagI (String.toUTF8 "specie/spend") (chalI c l i x)) (Bas.gr b).2 16)) [] (Zi (chalN (Grp.q (Bas.gr b)) c l i x)) []))))))))))
    (by kernel_rfl) ?_
  refine k_sc (hd) ?_
  refine k_dc (hb) ?_
  refine k_dc (hi) ?_
  refine k_dc (hb2) ?_
  refine k_dc (hi2) ?_
  refine k_dc (hl) ?_
  refine k_dc (he) ?_
  refine k_sc (ht) ?_
  refine k_sc (hn) ?_
  exact k_out (Ent.refl _)

end Go.Proofs.YtdaaddkipdmajaaGreatDoor

namespace Go.Sp
open Go Go.Am
theorem inv_uniq {a m x y:Int} (hx:0≤x∧x<m) (hy:0≤y∧y<m) (h1:m ∣ a*x - 1) (h2:m ∣ a*y - 1):x=y:=by
 have h:m ∣ x - y:=by
  obtain ⟨k,hk⟩:=h1
  obtain ⟨j,hj⟩:=h2
  refine ⟨x*j*(-1)+y*k,?_⟩
  have e1:a*x*y=(1+m*k)*y:=by rw [← hk];grind
  have e2:a*y*x=(1+m*j)*x:=by rw [← hj];grind
  grind
 have e:=Int.emod_eq_emod_iff_emod_sub_eq_zero.2 (Int.emod_eq_zero_of_dvd h)
 rwa [Int.emod_eq_of_lt hx.1 hx.2,Int.emod_eq_of_lt hy.1 hy.2] at e
open Classical in
noncomputable def invF (a m:Int):Int:=if h:∃ x,(0≤x∧x<m)∧m ∣ a*x - 1 then Classical.choose h else 0
theorem invF_eq {a m x:Int} (hx:0≤x∧x<m) (h:m ∣ a*x - 1):invF a m=x:=by
 have hh:∃ x,(0≤x∧x<m)∧m ∣ a*x - 1:=⟨x,hx,h⟩
 unfold invF
 rw [dif_pos hh]
 exact inv_uniq (Classical.choose_spec hh).1 hx (Classical.choose_spec hh).2 h
structure EgI (a0 m d a x n:Int):Prop where
 an:0≤a
 ad:a<d
 d1:d≤m
 sg:∃ u v:Int,0≤u∧u≤m∧0≤v∧v≤m∧(x = -u∧n=v∨x=u∧n = -v)∧v*d+u*a=m
 c1:m ∣ a0*x - d
 c2:m ∣ a0*n - a
 g:Int.gcd d a=Int.gcd a0 m
theorem EgI.start {a m:Int} (h0:0≤a) (h1:a<m):EgI a m m a 0 1 where
 an:=h0
 ad:=h1
 d1:=Int.le_refl _
 sg:=⟨0,1,by omega,by omega,by omega,by omega,Or.inl ⟨rfl,rfl⟩,by omega⟩
 c1:=⟨-1,by omega⟩
 c2:=⟨0,by omega⟩
 g:=Int.gcd_comm _ _
theorem EgI.nxt {a0 m d a x n:Int} (h:EgI a0 m d a x n) (ha:a≠0):EgI a0 m a (d%a) n (x - d / a*n)∧0≤d / a∧d / a*a≤d ∧ -m≤d / a*n∧d / a*n≤m ∧ -m≤n∧n≤m∧d - d / a*a=d%a:=by
 have p:0<a:=by have:=h.an;omega
 have q0:0≤d / a:=Int.ediv_nonneg (by have:=h.ad;omega) (by omega)
 have e:=Int.mul_ediv_add_emod d a
 have r0:=Int.emod_nonneg d ha
 have r1:=Int.emod_lt_of_pos d p
 have hd:=h.ad
 have hm:=h.d1
 obtain ⟨u,v,u0,u1,v0,v1,hs,hv⟩:=h.sg
 generalize d / a=q at *
 generalize hr:d%a=r at *
 have qv:0≤q*v:=Int.mul_nonneg q0 v0
 have hv':(u+q*v)*a+v*r=m:=by rw [← hv,← e];grind
 have vr:0≤v*r:=Int.mul_nonneg v0 r0
 have t0:0≤u+q*v:=by omega
 have t1:u+q*v≤m:=by
  have:(u+q*v)*1≤(u+q*v)*a:=Int.mul_le_mul_of_nonneg_left (by omega) t0
  omega
 refine ⟨⟨r0,r1,by omega,⟨v,u+q*v,v0,v1,t0,t1,?_,hv'⟩,h.c2,?_,?_⟩,q0,by rw [Int.mul_comm];omega,?_,?_,?_,?_,by rw [Int.mul_comm];omega⟩
 ·rcases hs with ⟨rfl,rfl⟩|⟨rfl,rfl⟩
  ·exact Or.inr ⟨rfl,by omega⟩
  ·refine Or.inl ⟨rfl,?_⟩
   rw [Int.mul_neg];omega
 ·obtain ⟨k,hk⟩:=h.c1
  obtain ⟨j,hj⟩:=h.c2
  refine ⟨k - q*j,?_⟩
  have:a0*(x - q*n) - r=(a0*x - d) - q*(a0*n - a)+(d - a*q - r):=by grind
  rw [this,hk,hj,show d - a*q - r=0 by omega]
  grind
 ·rw [← h.g,Int.gcd_comm d a,show r=d - a*q by omega]
  exact Int.gcd_sub_mul_left_right _ _ _
 ·rcases hs with ⟨_,rfl⟩|⟨_,rfl⟩
  ·omega
  ·rw [Int.mul_neg];omega
 ·rcases hs with ⟨_,rfl⟩|⟨_,rfl⟩
  ·omega
  ·rw [Int.mul_neg];omega
 ·omega
 ·omega
def eg (d a x n:Int):Int×Int:=if 0<a then eg a (d%a) n (x - d / a*n) else (d,x)
termination_by a.toNat
decreasing_by have:=Int.emod_lt_of_pos d (by assumption:0<a);have:=Int.emod_nonneg d (by omega:a≠0);omega
theorem eg_step {d a x n:Int} (h:0<a):eg d a x n=eg a (d%a) n (x - d / a*n):=by
 rw [eg,if_pos h]
theorem eg_end {d a x n:Int} (h:¬0<a):eg d a x n=(d,x):=by
 rw [eg,if_neg h]
def EgW (a m:Int) (s:Int×Int×Int×Int):Prop:=EgI a m s.1 s.2.1 s.2.2.1 s.2.2.2∧eg s.1 s.2.1 s.2.2.1 s.2.2.2=eg m a 0 1
theorem EgW.start {a m:Int} (h0:0≤a) (h1:a<m):EgW a m (m,a,0,1):=⟨.start h0 h1,rfl⟩
theorem EgW.step {a0 m d a x n:Int} (h:EgW a0 m (d,a,x,n)) (ha:a≠0):EgW a0 m (a,d%a,n,x - d / a*n) :=
 ⟨(h.1.nxt ha).1,(eg_step (by have:=h.1.an;dsimp only at this;omega)).symm.trans h.2⟩
def egX (a m:Int):Int:=let x:=(eg m a 0 1).2;(if x<0 then x+m else x)%m
theorem EgW.fin {a0 m d a x n:Int} (h:EgW a0 m (d,a,x,n)) (ha:a=0):d=Int.gcd a0 m∧eg m a0 0 1=(d,x) ∧ -m≤x∧x≤m:=by
 subst ha
 obtain ⟨h1,h2⟩:=h
 dsimp only at h1 h2
 refine ⟨?_,by rw [← h2];exact eg_end (by omega),?_⟩
 ·rw [← h1.g,Int.gcd_zero_right]
  have:=h1.ad
  omega
 ·obtain ⟨u,v,u0,u1,v0,v1,hs,hv⟩:=h1.sg
  omega
theorem EgW.all {a0 m:Int}:∀ (k:Nat) (s:Int×Int×Int×Int),s.2.1.toNat≤k→EgW a0 m s→∃ d x n,EgW a0 m (d,0,x,n)
 | k,(d,a,x,n),hk,h=>by
  by_cases ha:a=0
  ·subst ha;exact ⟨d,x,n,h⟩
  ·have h0:=h.1.an
   dsimp only at h0 hk
   cases k with
   | zero=>omega
   | succ k =>
    have:=Int.emod_lt_of_pos d (show 0<a by omega)
    have:=Int.emod_nonneg d ha
    exact EgW.all k _ (by dsimp only;omega) (h.step ha)
structure RgI (a0 m u v x y:Int):Prop where
 u0:0≤u
 u1:u≤m
 v0:0≤v
 v1:v≤m
 x0:0≤x
 x1:x<m
 y0:0≤y
 y1:y<m
 c1:m ∣ a0*x - u
 c2:m ∣ a0*y - v
 g:Int.gcd u v=Int.gcd a0 m
theorem RgI.start {a m:Int} (h0:0≤a) (h1:a<m):RgI a m a m (1%m) 0 where
 u0:=h0
 u1:=by omega
 v0:=by omega
 v1:=by omega
 x0:=Int.emod_nonneg _ (by omega)
 x1:=Int.emod_lt_of_pos _ (by omega)
 y0:=by omega
 y1:=by omega
 c1:=by
  have e:=Int.mul_ediv_add_emod 1 m
  refine ⟨-(a*(1 / m)),?_⟩
  generalize 1 / m=q at *
  generalize 1%m=r at *
  have:a*(m*q+r)=a:=by rw [e,Int.mul_one]
  grind
 c2:=⟨-1,by omega⟩
 g:=rfl
theorem RgI.nxt {a0 m u v x y:Int} (h:RgI a0 m u v x y) (hv:v≠0):RgI a0 m v (u%v) y ((x - u / v%m*y%m)%m)∧0≤u / v∧u / v≤m∧u / v*v≤u∧0≤u / v*v∧u - u / v*v=u%v:=by
 have p:0<v:=by have:=h.v0;omega
 have hm:0<m:=by have:=h.v1;omega
 have q0:0≤u / v:=Int.ediv_nonneg h.u0 (by omega)
 have e:=Int.mul_ediv_add_emod u v
 have r0:=Int.emod_nonneg u hv
 have r1:=Int.emod_lt_of_pos u p
 have hu:=h.u0
 have hu1:=h.u1
 have hv1:=h.v1
 have qv:u / v*v≤u:=by rw [Int.mul_comm];omega
 have q1:u / v≤m:=by
  have:u / v*1≤u / v*v:=Int.mul_le_mul_of_nonneg_left (by omega) q0
  omega
 refine ⟨⟨by omega,by omega,r0,by omega,h.y0,h.y1,Int.emod_nonneg _ (by omega),Int.emod_lt_of_pos _ hm,h.c2,?_,?_⟩,q0,q1,qv,Int.mul_nonneg q0 (by omega),by rw [Int.mul_comm];omega⟩
 ·obtain ⟨k,hk⟩:=h.c1
  obtain ⟨j,hj⟩:=h.c2
  have e1:=Int.mul_ediv_add_emod (u / v) m
  have e2:=Int.mul_ediv_add_emod (u / v%m*y) m
  have e3:=Int.mul_ediv_add_emod (x - u / v%m*y%m) m
  generalize (x - u / v%m*y%m)%m=z at *
  generalize (x - u / v%m*y%m) / m=z' at *
  generalize u / v%m*y%m=w at *
  generalize u / v%m*y / m=w' at *
  generalize u / v%m=qm at *
  generalize u / v / m=qm' at *
  generalize u / v=q at *
  generalize u%v=r at *
  refine ⟨k - q*j+a0*(qm'*y+w' - z'),?_⟩
  have f1:z=x - w - m*z':=by omega
  have f2:w=qm*y - m*w':=by omega
  have f3:qm=q - m*qm':=by omega
  have f4:r=u - v*q:=by omega
  subst f1;subst f2;subst f3;subst f4
  have g1:a0*x=u+m*k:=by omega
  have g2:a0*y=v+m*j:=by omega
  grind
 ·rw [← h.g,Int.gcd_comm u v,show u%v=u - v*(u / v) by omega]
  exact Int.gcd_sub_mul_left_right _ _ _
theorem RgI.fin {a0 m u x y:Int} (h:RgI a0 m u 0 x y) (hg:Int.gcd a0 m=1):x=invF a0 m:=by
 have hu:u=1:=by
  have:=h.g
  have h0:=h.u0
  rw [Int.gcd_zero_right,hg] at this
  omega
 exact (invF_eq ⟨h.x0,h.x1⟩ (hu▸h.c1)).symm
theorem EgI.w {a0 m d a x n:Int} (h:EgI a0 m d a x n) (ha:a≠0) (hm:m<2305843009213693952) :
  IntKind.wrap .i64 (d - IntKind.wrap .i64 (IntKind.wrap .i64 (Int.tdiv d a)*a))=d%a∧IntKind.wrap .i64 (x - IntKind.wrap .i64 (IntKind.wrap .i64 (Int.tdiv d a)*n))=x - d / a*n∧d%a<a∧0≤d%a:=by
 obtain ⟨h1,q0,q1,n0,n1,n2,n3,e⟩:=h.nxt ha
 have hd:=h.ad;have hm1:=h.d1;have h0:=h.an
 have r0:=h1.an;have r1:=h1.ad
 have qd:d / a≤d:=by
  have:d / a*1≤d / a*a:=Int.mul_le_mul_of_nonneg_left (by omega) q0
  omega
 have e1:IntKind.wrap .i64 (Int.tdiv d a)=d / a:=by
  rw [Int.tdiv_eq_ediv_of_nonneg (by omega),wI (by omega) (by omega)]
 have e2:IntKind.wrap .i64 (d / a*a)=d / a*a:=wI (by have:=Int.mul_nonneg q0 h0;omega) (by omega)
 obtain ⟨u,v,u0,u1,v0,v1,hs,hv⟩:=h1.sg
 rw [e1,e2,wI (n:=d - d / a*a) (by omega) (by omega),wI (n:=d / a*n) (by omega) (by omega),wI (n:=x - d / a*n) (by omega) (by omega)]
 exact ⟨e,rfl,r1,r0⟩
theorem EgW.out {a0 m:Int} {s:Int×Int×Int×Int} (h:EgW a0 m s) (ha:s.2.1=0) (hm:m<2305843009213693952) :
  s.1=Int.gcd a0 m∧(s.2.2.1<0→Int.tmod (IntKind.wrap .i64 (s.2.2.1+m)) m=egX a0 m)∧(¬s.2.2.1<0→Int.tmod s.2.2.1 m=egX a0 m)∧0<m:=by
 obtain ⟨d,a,x,n⟩:=s
 obtain ⟨h1,h2,h3,h4⟩:=EgW.fin h ha
 have h5:=h.1.d1;have h6:=h.1.ad;have h7:=h.1.an
 dsimp only at *
 refine ⟨h1,fun hx => ?_,fun hx => ?_,by omega⟩
 ·rw [wI (by omega) (by omega),tmod_nn (by omega)]
  unfold egX
  rw [h2]
  dsimp only
  rw [if_pos hx]
 ·rw [tmod_nn (by omega)]
  unfold egX
  rw [h2]
  dsimp only
  rw [if_neg hx]
theorem RgI.w {a0 m u v x y:Int} (h:RgI a0 m u v x y) (hv:v≠0) (hm:m<2305843009213693952) :
  IntKind.wrap .i64 (Int.tdiv u v)=u / v∧IntKind.wrap .i64 (u - IntKind.wrap .i64 (IntKind.wrap .i64 (Int.tdiv u v)*v))=u%v∧u%v<v∧0≤u%v∧0<m∧0≤u / v%m∧u / v%m<m∧IntKind.wrap .i64 (x - u / v%m*y%m)=x - u / v%m*y%m:=by
 obtain ⟨h1,q0,q1,n0,n1,e⟩:=h.nxt hv
 have b1:=h.u0;have b2:=h.u1;have b3:=h.v0;have b4:=h.v1;have b5:=h.x0;have b6:=h.x1
 have r0:=Int.emod_nonneg u hv
 have r1:=Int.emod_lt_of_pos u (show 0<v by omega)
 have m0:0<m:=by omega
 have e1:IntKind.wrap .i64 (Int.tdiv u v)=u / v:=by
  rw [Int.tdiv_eq_ediv_of_nonneg (by omega),wI (by omega) (by omega)]
 have c0:=Int.emod_nonneg (u / v%m*y) (show m≠0 by omega)
 have c1:=Int.emod_lt_of_pos (u / v%m*y) m0
 refine ⟨e1,?_,r1,r0,m0,Int.emod_nonneg _ (by omega),Int.emod_lt_of_pos _ m0,wI (by omega) (by omega)⟩
 rw [e1,wI (n:=u / v*v) (by omega) (by omega),wI (by omega) (by omega)]
 exact e
end Go.Sp

namespace Go.Proofs.YtdaaddkipdmajaaGreatDoor
open Go Go.Am Go.Sp
set_option maxRecDepth 100000


theorem xspan_c (s : Spend) : Pure Tryz.prog gl0 109 [s.av] (.tup [.int .i64 (bif okS s then spanA s.depth s.level s.index else 0), .int .i64 (bif okS s then spanZ s.depth s.level s.index else 0), .bool (okS s)]) := by
  refine pure_sk (own := ow0) Tryz.func109 (by kernel_rfl) mixed (by kernel_rfl)
    (let y0 : AV := (AV.tup [Zi (bif okS s then spanA (Spend.depth s) (Spend.level s) (Spend.index s) else (0 : Int)), Zi (bif okS s then spanZ (Spend.depth s) (Spend.level s) (Spend.index s) else (0 : Int)), AV.bool (okS s)]); (.sc (true) 25 ([Zi s.4, AV.agg [Zi s.11, Zi s.12]]) (AV.tup [Zi (spanA s.4 s.11 s.12), Zi (spanZ s.4 s.11 s.12), Zi (spanE s.4 s.11 s.12)]) (.br (spanE s.4 s.11 s.12 != 0 || (↑s.16 : Int) != IntKind.wrap IntKind.i64 (spanZ s.4 s.11 s.12 - spanA s.4 s.11 s.12) || decide (s.14 < 0) || decide (s.14 > 1099511627776) || decide (s.15 < 0) || decide (s.15 > 1073741824)) (.out (AV.tup [Zi 0, Zi 0, AV.bool false]) [] y0 []) (.out (AV.tup [Zi (spanA s.4 s.11 s.12), Zi (spanZ s.4 s.11 s.12), AV.bool true]) [] y0 []))))
    (by kernel_rfl) ?_
  refine k_sc (span_c (s.4) (s.11) (s.12)) ?_
  refine k_br (fun h1 => ?_) (fun h1 => ?_)
  · have g1 := (cnd_or_t (cnd_or_t (cnd_or_t (cnd_or_t (cnd_or_t cnd_bne_t cnd_bne_t) cnd_dec_t) cnd_dec_t) cnd_dec_t) cnd_dec_t) h1
    exact k_out (Ent.of_eq (by have e : okS s = false := congrArg not h1; rw [e]; rfl))
  · have g1 := (cnd_or_f (cnd_or_f (cnd_or_f (cnd_or_f (cnd_or_f cnd_bne_f cnd_bne_f) cnd_dec_f) cnd_dec_f) cnd_dec_f) cnd_dec_f) h1
    exact k_out (Ent.of_eq (by have e : okS s = true := congrArg not h1; rw [e]; rfl))

theorem formed1_c (s : Spend) : Pure Tryz.prog gl0 175 [s.av] (.bool (!okS s)) := by
  refine pure_sk (own := ow0) Tryz.func175 (by kernel_rfl) mixed (by kernel_rfl)
    (.sc (true) 109 ([AV.agg (Spend.cells s)]) (AV.tup [Zi (bif okS s then spanA (Spend.depth s) (Spend.level s) (Spend.index s) else (0 : Int)), Zi (bif okS s then spanZ (Spend.depth s) (Spend.level s) (Spend.index s) else (0 : Int)), AV.bool (okS s)]) (.out (AV.bool !okS s) [] (AV.bool !okS s) []))
    (by kernel_rfl) ?_
  refine k_sc ((xspan_c s)) ?_
  exact k_out (Ent.refl _)

theorem indexS_c (S : Nat → Spend) (n : Nat) (hn : n < 9223372036854775808) : Pure Tryz.prog gl0 174 [.isl 80 n (fun i j => atL (S i).cells j), .fn (.func 175) [] []] (.int .i64 (firstI (fun i => !okS (S i)) n 0)) := by
  refine pure_sk (own := ow0) Tryz.func174 (by kernel_rfl) mixed (by kernel_rfl)
    (let y0 : AV := (Zi (firstI (fun (i : Nat) => !okS (S i)) n 0)); (.loop (Sp.Sub fun (i : Nat) => firstI (fun (i : Nat) => !okS (S i)) n 0 = firstI (fun (i : Nat) => !okS (S i)) (n - i) i) (fun (x : Sp.Sub fun (i : Nat) => firstI (fun (i : Nat) => !okS (S i)) n 0 = firstI (fun (i : Nat) => !okS (S i)) (n - i) i) => mkSt [0, 1, 6, 7, 8] [AV.isl 80 n fun (i j : Nat) => atL (Spend.cells (S i)) j, AV.fn (Fn.func (175 : FuncId)) [] [], AV.isl 80 n fun (i j : Nat) => atL (Spend.cells (S i)) j, Zi (↑n : Int), Zi (↑(x.1) : Int)] []) (fun (i : Sp.Sub fun (i : Nat) => firstI (fun (i : Nat) => !okS (S i)) n 0 = firstI (fun (i : Nat) => !okS (S i)) (n - i) i) => n - i.1) (⟨0, rfl⟩) ([0, 1, 6, 7, 8]) ([]) ([AV.isl 80 n fun (i j : Nat) => atL (Spend.cells (S i)) j, AV.fn (Fn.func (175 : FuncId)) [] [], AV.isl 80 n fun (i j : Nat) => atL (Spend.cells (S i)) j, Zi (↑n : Int), Zi 0]) ([]) (fun x0 => (.br (decide ((↑x0.1 : Int) < (↑n : Int))) (.req ((0 : Int) ≤ (↑x0.1 : Int) ∧ (↑x0.1 : Int) < (↑n : Int)) (.sc (true) 175 ([AV.agg (Spend.cells (S (Int.toNat (↑(x0.1) : Int))))]) (AV.bool !okS (S (Int.toNat (↑(x0.1) : Int)))) (.br (!okS (S (Int.toNat (↑x0.1 : Int)))) (.out (Zi (↑x0.1 : Int)) [] y0 []) (.again (Again 0 (fun (x : Sp.Sub fun (i : Nat) => firstI (fun (i : Nat) => !okS (S i)) n 0 = firstI (fun (i : Nat) => !okS (S i)) (n - i) i) => mkSt [0, 1, 6, 7, 8] [AV.isl 80 n fun (i j : Nat) => atL (Spend.cells (S i)) j, AV.fn (Fn.func (175 : FuncId)) [] [], AV.isl 80 n fun (i j : Nat) => atL (Spend.cells (S i)) j, Zi (↑n : Int), Zi (↑(x.1) : Int)] []) (fun (i : Sp.Sub fun (i : Nat) => firstI (fun (i : Nat) => !okS (S i)) n 0 = firstI (fun (i : Nat) => !okS (S i)) (n - i) i) => n - i.1) x0) ([0, 1, 6, 7, 8]) ([]) ([AV.isl 80 n fun (i j : Nat) => atL (Spend.cells (S i)) j, AV.fn (Fn.func (175 : FuncId)) [] [], AV.isl 80 n fun (i j : Nat) => atL (Spend.cells (S i)) j, Zi (↑n : Int), Zi (IntKind.wrap IntKind.i64 ((↑x0.1 : Int) + 1))]) ([]))))) (.out (Zi (-1)) [] y0 [])))))
    (by kernel_rfl) ?_
  refine k_loop (fun _ hs => hs.le (by repeat' (first | exact trivial | (first | exact Ent.refl _ | exact inc_ent (by omega) | exact Ent.nil rfl | exact Ent.of_eq (congrArg (AV.osl _ _ _) (by first | omega | (dsimp only; omega))) | exact Ent.of_eq (congrArg (AV.int _) (by first | omega | (dsimp only; omega)))) | refine And.intro ?_ ?_)) (trivial)) (fun x0 => ?_)
  try (have q0 := x0.2; dsimp only at q0)
  refine k_br (fun h1 => ?_) (fun h1 => ?_)
  · have g1 := cnd_dec_t h1
    refine k_req (by have := of_decide_eq_true h1; omega) ?_
    refine k_sc ((formed1_c (S (Int.toNat (↑(x0.1) : Int))))) ?_
    refine k_br (fun h4 => ?_) (fun h4 => ?_)
    · have g4 := (cnd_not_t cnd_id_f) h4
      try simp only [Int.toNat_natCast] at g4
      exact k_out (Ent.of_eq (congrArg _ (first_hit x0.2 (show x0.1 < n by have := of_decide_eq_true h1; omega) (by simpa using h4))))
    · have g4 := (cnd_not_f cnd_id_t) h4
      try simp only [Int.toNat_natCast] at g4
      exact k_again (⟨x0.1 + 1, first_next x0.2 (show x0.1 < n by have := of_decide_eq_true h1; omega) (by simpa using h4)⟩) (fun _ hs => hs.le (⟨Ent.refl _, Ent.refl _, Ent.refl _, Ent.refl _, inc_ent (by have := of_decide_eq_true h1; omega), trivial⟩) (trivial)) (by have := of_decide_eq_true h1; show n - (x0.1 + 1) < n - x0.1; omega)
  · have g1 := cnd_dec_f h1
    exact k_out (Ent.of_eq (congrArg _ (first_miss x0.2 (by have := of_decide_eq_false h1; omega))))

theorem find1_c (l0 l1 l2 b : Int) : Pure Tryz.prog gl0 184 [.agg [.int .i64 l0, .int .i64 l1, .int .i64 l2], .ipt 1 (atL [.int .i64 b])] (.bool (l0 == b)) := by
  refine pure_sk (own := ow0) Tryz.func184 (by kernel_rfl) mixed (by kernel_rfl)
    (.out (AV.bool (l0 == b)) [] (AV.bool (l0 == b)) [])
    (by kernel_rfl) ?_
  exact k_out (Ent.refl _)

theorem indexL_c (f : Nat → Nat → Int) (n : Nat) (b : Int) (hn : n < 9223372036854775808) : Pure Tryz.prog gl0 183 [lvs n f, .fn (.func 184) [] [.ipt 1 (atL [.int .i64 b])]] (.int .i64 (firstI (fun i => f i 0 == b) n 0)) := by
  refine pure_sk (own := ow0) Tryz.func183 (by kernel_rfl) mixed (by kernel_rfl)
    (let y0 : List AV := [AV.ipt 1 (atL [Zi b])]; let y1 : AV := (Zi (firstI (fun (i : Nat) => f i 0 == b) n 0)); (.loop (Sp.Sub fun (i : Nat) => firstI (fun (i : Nat) => f i 0 == b) n 0 = firstI (fun (i : Nat) => f i 0 == b) (n - i) i) (fun (x : Sp.Sub fun (i : Nat) => firstI (fun (i : Nat) => f i 0 == b) n 0 = firstI (fun (i : Nat) => f i 0 == b) (n - i) i) => mkSt [0, 1, 6, 7, 8] [lvs n f, AV.fn (Fn.func (184 : FuncId)) [] y0, lvs n f, Zi (↑n : Int), Zi (↑(x.1) : Int)] []) (fun (i : Sp.Sub fun (i : Nat) => firstI (fun (i : Nat) => f i 0 == b) n 0 = firstI (fun (i : Nat) => f i 0 == b) (n - i) i) => n - i.1) (⟨0, rfl⟩) ([0, 1, 6, 7, 8]) ([]) ([AV.isl 3 n fun (i j : Nat) => Zi (f i j), AV.fn (Fn.func (184 : FuncId)) [] y0, AV.isl 3 n fun (i j : Nat) => Zi (f i j), Zi (↑n : Int), Zi 0]) ([]) (fun x0 => (.br (decide ((↑x0.1 : Int) < (↑n : Int))) (.req ((0 : Int) ≤ (↑x0.1 : Int) ∧ (↑x0.1 : Int) < (↑n : Int)) (.sc (true) 184 ([AV.agg [Zi (f (Int.toNat (↑x0.1 : Int)) 0), Zi (f (Int.toNat (↑x0.1 : Int)) 1), Zi (f (Int.toNat (↑x0.1 : Int)) 2)], AV.ipt 1 (atL [Zi b])]) (AV.bool (f (Int.toNat (↑x0.1 : Int)) 0 == b)) (.br (f (Int.toNat (↑x0.1 : Int)) 0 == b) (.out (Zi (↑x0.1 : Int)) [] y1 []) (.again (Again 0 (fun (x : Sp.Sub fun (i : Nat) => firstI (fun (i : Nat) => f i 0 == b) n 0 = firstI (fun (i : Nat) => f i 0 == b) (n - i) i) => mkSt [0, 1, 6, 7, 8] [lvs n f, AV.fn (Fn.func (184 : FuncId)) [] y0, lvs n f, Zi (↑n : Int), Zi (↑(x.1) : Int)] []) (fun (i : Sp.Sub fun (i : Nat) => firstI (fun (i : Nat) => f i 0 == b) n 0 = firstI (fun (i : Nat) => f i 0 == b) (n - i) i) => n - i.1) x0) ([0, 1, 6, 7, 8]) ([]) ([AV.isl 3 n fun (i j : Nat) => Zi (f i j), AV.fn (Fn.func (184 : FuncId)) [] y0, AV.isl 3 n fun (i j : Nat) => Zi (f i j), Zi (↑n : Int), Zi (IntKind.wrap IntKind.i64 ((↑x0.1 : Int) + 1))]) ([]))))) (.out (Zi (-1)) [] y1 [])))))
    (by kernel_rfl) ?_
  refine k_loop (fun _ hs => hs.le (by repeat' (first | exact trivial | (first | exact Ent.refl _ | exact inc_ent (by omega) | exact Ent.nil rfl | exact Ent.of_eq (congrArg (AV.osl _ _ _) (by first | omega | (dsimp only; omega))) | exact Ent.of_eq (congrArg (AV.int _) (by first | omega | (dsimp only; omega)))) | refine And.intro ?_ ?_)) (trivial)) (fun x0 => ?_)
  try (have q0 := x0.2; dsimp only at q0)
  refine k_br (fun h1 => ?_) (fun h1 => ?_)
  · have g1 := cnd_dec_t h1
    refine k_req (by have := of_decide_eq_true h1; omega) ?_
    refine k_sc (find1_c (f (Int.toNat (↑x0.1 : Int)) (0)) (f (Int.toNat (↑x0.1 : Int)) (1)) (f (Int.toNat (↑x0.1 : Int)) (2)) (b)) ?_
    refine k_br (fun h4 => ?_) (fun h4 => ?_)
    · have g4 := cnd_beq_t h4
      try simp only [Int.toNat_natCast] at g4
      exact k_out (Ent.of_eq (congrArg _ (first_hit x0.2 (show x0.1 < n by have := of_decide_eq_true h1; omega) (by simpa using h4))))
    · have g4 := cnd_beq_f h4
      try simp only [Int.toNat_natCast] at g4
      exact k_again (⟨x0.1 + 1, first_next x0.2 (show x0.1 < n by have := of_decide_eq_true h1; omega) (by simpa using h4)⟩) (fun _ hs => hs.le (⟨Ent.refl _, Ent.refl _, Ent.refl _, Ent.refl _, inc_ent (by have := of_decide_eq_true h1; omega), trivial⟩) (trivial)) (by have := of_decide_eq_true h1; show n - (x0.1 + 1) < n - x0.1; omega)
  · have g1 := cnd_dec_f h1
    exact k_out (Ent.of_eq (congrArg _ (first_miss x0.2 (by have := of_decide_eq_false h1; omega))))

theorem find_c (s : Spend) (b : Int) (hn : s.nl < 9223372036854775808) : Pure Tryz.prog gl0 110 [s.av, .int .i64 b] (.int .i64 (firstI (fun i => s.lf i 0 == b) s.nl 0)) := by
  refine pure_sk (own := ow0) Tryz.func110 (by kernel_rfl) mixed (by kernel_rfl)
    (let y0 : AV := (Zi (firstI (fun (i : Nat) => s.17 i 0 == b) s.16 0)); (.sc (true) 183 ([AV.isl 3 s.16 fun (i j : Nat) => Zi (s.17 i j), AV.fn (Fn.func 184) [] [AV.ipt 1 fun (k : Nat) => atL [Zi b] k]]) y0 (.out y0 [] (Zi (firstI (fun (i : Nat) => Spend.lf s i 0 == b) (Spend.nl s) 0)) [])))
    (by kernel_rfl) ?_
  refine k_sc (indexL_c (s.17) (s.16) (b) (by assumption)) ?_
  exact k_out (Ent.refl _)

theorem containsS_c (S : Nat → Spend) (n : Nat) (hn : n < 9223372036854775808) : Pure Tryz.prog gl0 96 [.isl 80 n (fun i j => atL (S i).cells j), .fn (.func 175) [] []] (.bool (decide (firstI (fun i => !okS (S i)) n 0 ≥ 0))) := by
  refine pure_sk (own := ow0) Tryz.func96 (by kernel_rfl) mixed (by kernel_rfl)
    (let y0 : AV := (AV.bool (decide (firstI (fun (i : Nat) => !okS (S i)) n 0 ≥ 0))); (.sc (true) 174 ([AV.isl 80 n fun (i j : Nat) => atL (Spend.cells (S i)) j, AV.fn (Fn.func (175 : FuncId)) [] []]) (Zi (firstI (fun (i : Nat) => !okS (S i)) n 0)) (.out y0 [] y0 [])))
    (by kernel_rfl) ?_
  refine k_sc ((indexS_c S n hn)) ?_
  exact k_out (Ent.refl _)

theorem formed_c (S : Nat → Spend) (n : Nat) (hn : n < 9223372036854775808) : Pure Tryz.prog gl0 98 [.isl 80 n (fun i j => atL (S i).cells j)] (.bool (!decide (firstI (fun i => !okS (S i)) n 0 ≥ 0))) := by
  refine pure_sk (own := ow0) Tryz.func98 (by kernel_rfl) mixed (by kernel_rfl)
    (let y0 : AV := (AV.bool !decide (firstI (fun (i : Nat) => !okS (S i)) n 0 ≥ 0)); (.sc (true) 96 ([AV.isl 80 n fun (i j : Nat) => atL (Spend.cells (S i)) j, AV.fn (Fn.func 175) [] []]) (AV.bool (decide (firstI (fun (i : Nat) => !okS (S i)) n 0 ≥ 0))) (.out y0 [] y0 [])))
    (by kernel_rfl) ?_
  refine k_sc ((containsS_c S n hn)) ?_
  exact k_out (Ent.refl _)

theorem shared_c (a b : Spend) (hn : a.nl ≤ 1000) (hb : b.nl ≤ 1000) : Pure Tryz.prog gl0 106 [a.av, b.av] (il .i64 (sharedL a b)) := by
  refine pure_sk (own := ow0) Tryz.func106 (by kernel_rfl) mixed (by kernel_rfl)
    (.br (a.5 != b.5) (.out (AV.nsl) [] (il IntKind.i64 (sharedL a b)) []) (.sc (true) 109 ([AV.agg (Spend.cells a)]) (AV.tup [Zi (bif okS a then spanA (Spend.depth a) (Spend.level a) (Spend.index a) else (0 : Int)), Zi (bif okS a then spanZ (Spend.depth a) (Spend.level a) (Spend.index a) else (0 : Int)), AV.bool (okS a)]) (.loop (Sp.Sub fun (x : Nat) => x ≤ Spend.nl a) (fun (x : Sp.Sub fun (x : Nat) => x ≤ Spend.nl a) => mkSt [3, 5, 8, 25, 26, 27] [AV.own 0 80 0 0 80, Zi (fromS a), AV.osl 1 1 0 (List.length (sharedN a b (x.1))), lvs (Spend.nl a) (Spend.lf a), Zi (↑(Spend.nl a) : Int), Zi (↑(x.1) : Int)] [some ⟨80, 1, true, Rep.lst [Spend.cells b]⟩, ilO IntKind.i64 (sharedN a b (x.1))]) (fun (x : Sp.Sub fun (x : Nat) => x ≤ Spend.nl a) => Spend.nl a - x.1) (⟨0, Nat.zero_le (Spend.nl a)⟩) ([3, 5, 8, 25, 26, 27]) ([8, 449]) ([AV.own 0 80 0 0 80, Zi (bif okS a then spanA a.4 a.11 a.12 else (0 : Int)), AV.nsl, AV.isl 3 a.16 fun (i j : Nat) => Zi (a.17 i j), Zi (↑a.16 : Int), Zi 0]) ([some ⟨80, 1, true, Rep.lst [Spend.cells b]⟩, some ⟨1, 0, true, Rep.lst []⟩]) (fun x3 => (.br (decide ((↑x3.1 : Int) < (↑a.16 : Int))) (.req ((0 : Int) ≤ (↑x3.1 : Int) ∧ (↑x3.1 : Int) < (↑a.16 : Int)) (.sc (true) 110 ([AV.agg (Spend.cells b), Zi (a.17 (Int.toNat (↑x3.1 : Int)) 0)]) (Zi (firstI (fun (i : Nat) => Spend.lf b i 0 == a.17 (Int.toNat (↑x3.1 : Int)) 0) (Spend.nl b) 0)) (.br (decide (firstI (fun (i : Nat) => b.17 i 0 == a.17 (Int.toNat (↑x3.1 : Int)) 0) b.16 0 ≥ 0)) (.req ((List.length (sharedN a b (x3.1)) + 1) * 8 ≤ 140737488355328) (.again (Again 0 (fun (x : Sp.Sub fun (x : Nat) => x ≤ Spend.nl a) => mkSt [3, 5, 8, 25, 26, 27] [AV.own 0 80 0 0 80, Zi (fromS a), AV.osl 1 1 0 (List.length (sharedN a b (x.1))), lvs (Spend.nl a) (Spend.lf a), Zi (↑(Spend.nl a) : Int), Zi (↑(x.1) : Int)] [some ⟨80, 1, true, Rep.lst [Spend.cells b]⟩, ilO IntKind.i64 (sharedN a b (x.1))]) (fun (x : Sp.Sub fun (x : Nat) => x ≤ Spend.nl a) => Spend.nl a - x.1) x3) ([3, 5, 8, 25, 26, 27]) ([0, 138]) ([AV.own 0 80 0 0 80, Zi (fromS a), AV.osl 1 1 0 (List.length (sharedN a b (x3.1)) + 1), AV.isl 3 a.16 fun (i j : Nat) => Zi (a.17 i j), Zi (↑a.16 : Int), Zi (IntKind.wrap IntKind.i64 ((↑x3.1 : Int) + 1))]) ([some ⟨80, 1, true, Rep.lst [Spend.cells b]⟩, some ⟨1, List.length (sharedN a b (x3.1)) + 1, true, Rep.fn fun (i j : Nat) => Zi (bif Nat.blt i (List.length (sharedN a b (x3.1))) then List.getD (sharedN a b (x3.1)) i (0 : Int) else intOfAV (atL [Zi (IntKind.wrap IntKind.i64 (fromS a + (↑(x3.1) : Int)))] j))⟩]))) (.again (Again 0 (fun (x : Sp.Sub fun (x : Nat) => x ≤ Spend.nl a) => mkSt [3, 5, 8, 25, 26, 27] [AV.own 0 80 0 0 80, Zi (fromS a), AV.osl 1 1 0 (List.length (sharedN a b (x.1))), lvs (Spend.nl a) (Spend.lf a), Zi (↑(Spend.nl a) : Int), Zi (↑(x.1) : Int)] [some ⟨80, 1, true, Rep.lst [Spend.cells b]⟩, ilO IntKind.i64 (sharedN a b (x.1))]) (fun (x : Sp.Sub fun (x : Nat) => x ≤ Spend.nl a) => Spend.nl a - x.1) x3) ([3, 5, 8, 25, 26, 27]) ([0, 1]) ([AV.own 0 80 0 0 80, Zi (fromS a), AV.osl 1 1 0 (List.length (sharedN a b (x3.1))), AV.isl 3 a.16 fun (i j : Nat) => Zi (a.17 i j), Zi (↑a.16 : Int), Zi (IntKind.wrap IntKind.i64 ((↑x3.1 : Int) + 1))]) ([some ⟨80, 1, true, Rep.lst [Spend.cells b]⟩, some ⟨1, List.length (sharedN a b (x3.1)), true, Rep.fn fun (i j : Nat) => Zi (List.getD (sharedN a b (x3.1)) i (0 : Int))⟩]))))) (.out (AV.isl 1 (List.length (sharedN a b (x3.1))) fun (r k : Nat) => Zi (List.getD (sharedN a b (x3.1)) (r + 0) (0 : Int))) [] (il IntKind.i64 (sharedL a b)) []))))))
    (by kernel_rfl) ?_
  refine k_br (fun h0 => ?_) (fun h0 => ?_)
  · have g0 := cnd_bne_t h0
    exact k_out (Ent.nilL (shared_none h0))
  · have g0 := cnd_bne_f h0
    refine k_sc ((xspan_c a)) ?_
    refine k_loop (fun _ hs => hs.le (by repeat' (first | exact trivial | (first | exact Ent.refl _ | exact inc_ent (by omega) | exact Ent.nil rfl | exact Ent.of_eq (congrArg (AV.osl _ _ _) (by first | omega | (dsimp only; omega))) | exact Ent.of_eq (congrArg (AV.int _) (by omega))) | refine And.intro ?_ ?_)) (by repeat' (first | exact trivial | (first | exact ObEnt.refl _ | exact ObEnt.junk | exact ObEnt.zero | exact ObEnt.push rfl rfl | exact ObEnt.pushRow rfl | exact ObEnt.len (by omega) | exact ObEnt.row (by repeat' (first | exact trivial | (first | exact Ent.refl _ | exact inc_ent (by omega) | exact Ent.nil rfl | exact Ent.of_eq (congrArg (AV.osl _ _ _) (by first | omega | (dsimp only; omega))) | exact Ent.of_eq (congrArg (AV.int _) (by omega))) | refine And.intro ?_ ?_))) | refine And.intro ?_ ?_))) (fun x3 => ?_)
    try (have q3 := x3.2; dsimp only at q3)
    refine k_br (fun h4 => ?_) (fun h4 => ?_)
    · have g4 := cnd_dec_t h4
      refine k_req (by omega) ?_
      refine k_sc ((find_c b) (a.17 (Int.toNat (↑x3.1 : Int)) (0)) (by omega)) ?_
      refine k_br (fun h7 => ?_) (fun h7 => ?_)
      · have g7 := cnd_dec_t h7
        try simp only [Int.toNat_natCast] at g7
        refine k_req (by have := sharedN_len a b x3.1; omega) ?_
        exact k_again (⟨x3.1 + 1, by have := of_decide_eq_true h4; omega⟩) (fun _ hs => hs.le (⟨Ent.refl _, Ent.refl _, Ent.of_eq (congrArg (AV.osl 1 1 0) (sharedN_lt (x := x3.1) h7)), Ent.refl _, Ent.refl _, inc_ent (by omega), trivial⟩) (⟨.refl _, .pushL (sharedN_w (x := x3.1) (by omega) h7), trivial⟩)) (by (dsimp only; omega))
      · have g7 := cnd_dec_f h7
        try simp only [Int.toNat_natCast] at g7
        exact k_again (⟨x3.1 + 1, by have := of_decide_eq_true h4; omega⟩) (fun _ hs => hs.le (⟨Ent.refl _, Ent.refl _, Ent.of_eq (congrArg (AV.osl 1 1 0) (sharedN_lf (x := x3.1) h7)), Ent.refl _, Ent.refl _, inc_ent (by omega), trivial⟩) (⟨.refl _, shared_same (x := x3.1) h7, trivial⟩)) (by (dsimp only; omega))
    · have g4 := cnd_dec_f h4
      exact k_out (Ent.ilL (shared_end h0 (by have := of_decide_eq_false h4; omega)))

theorem formed2_c (a b : Spend) : Pure Tryz.prog gl0 98 [.isl 80 2 fun r k => atL (List.getD [a.cells, b.cells] r []) k] (.bool (okS a && okS b)) := by
  refine Pure.ent (Pure.via (formed_c (fun i => bif Nat.beq i 0 then a else b) 2 (by omega)) ?_) (Ent.of_eq (congrArg _ (formed2_m a b)))
  exact ⟨Ent.two (g := fun i => Spend.cells (bif Nat.beq i 0 then a else b)) rfl rfl, trivial⟩

theorem xshared_c (a b : Spend) (hn : a.nl ≤ 1000) (hb : b.nl ≤ 1000) : Pure Tryz.prog gl0 43 [a.av, b.av] (.tup [il .i64 (bif okS a && okS b then sharedL a b else []), .int .i64 (bif okS a && okS b then 0 else 1)]) := by
  refine pure_sk (own := ow0) Tryz.func43 (by kernel_rfl) mixed (by kernel_rfl)
    (let y0 : AV := (AV.tup [il IntKind.i64 (bif okS a && okS b then sharedL a b else []), Zi (bif okS a && okS b then (0 : Int) else (1 : Int))]); (.sc (true) 98 ([AV.isl 80 2 fun (r k : Nat) => atL (List.getD [Spend.cells a, Spend.cells b] (r + 0) []) k]) (AV.bool (okS a && okS b)) (.br (!(okS a && okS b)) (.out (AV.tup [AV.nsl, Zi 1]) [] y0 []) (.dc (true) 106 ([AV.agg (Spend.cells a), AV.agg (Spend.cells b)]) (il IntKind.i64 (sharedL a b)) (.out (AV.tup [AV.isl 1 (List.length (sharedL a b)) fun (i x : Nat) => Zi (List.getD (sharedL a b) i (0 : Int)), Zi 0]) [] y0 [])))))
    (by kernel_rfl) ?_
  refine k_sc ((formed2_c a b)) ?_
  refine k_br (fun h1 => ?_) (fun h1 => ?_)
  · have g1 := (cnd_not_t (cnd_and_f cnd_id_f cnd_id_f)) h1
    exact k_out (Ent.tup ⟨Ent.nilL (bif_f (not_both h1)), Ent.of_eq (congrArg _ (bif_f (not_both h1)).symm), trivial⟩)
  · have g1 := (cnd_not_f (cnd_and_t cnd_id_t cnd_id_t)) h1
    refine k_dc (shared_c (a) (b) (by assumption) (by assumption)) ?_
    exact k_out (Ent.tup ⟨Ent.ilL (bif_t (both h1)).symm, Ent.of_eq (congrArg _ (bif_t (both h1)).symm), trivial⟩)

theorem rogueformed_c (s : Spend) (hn : s.nl ≤ 1000) : Pure Tryz.prog gl0 114 [s.av] (.bool (okS s)) := by
  refine pure_sk (own := ow0) Tryz.func114 (by kernel_rfl) mixed (by kernel_rfl)
    (.dc (true) 43 ([AV.agg (Spend.cells s), AV.agg (Spend.cells s)]) (AV.tup [il IntKind.i64 (bif okS s && okS s then sharedL s s else []), Zi (bif okS s && okS s then (0 : Int) else (1 : Int))]) (.out (AV.bool ((bif okS s && okS s then (0 : Int) else (1 : Int)) == 0)) [] (AV.bool (okS s)) []))
    (by kernel_rfl) ?_
  refine k_dc (xshared_c (s) (s) (by assumption) (by assumption)) ?_
  exact k_out (Ent.of_eq (congrArg _ (by cases okS s <;> rfl)))

end Go.Proofs.YtdaaddkipdmajaaGreatDoor

namespace Go.Sp
open Go Go.Am
def chalE (b:Bas) (c:Coin) (l i:Int) (x:Cxt):Int:=bif validB b then (bif nodeB c.depth l i&&ctxB x.time x.number then 0 else 2) else 1
def chalK (b:Bas) (c:Coin) (l i:Int) (x:Cxt):Int:=bif validB b&&(nodeB c.depth l i&&ctxB x.time x.number) then chalN b.gr.q c l i x else 0
theorem validB_ok {b:Bas} (h:validB b=true):b.gr.Ok:=by
 unfold validB at h
 simp only [Bool.and_eq_true] at h
 exact validG_iff.1 h.1.1.1.1.1.1
theorem validB_q {b:Bas} (h:validB b=true):0<b.gr.q∧b.gr.q<2305843009213693952:=by
 have h:=validB_ok h
 have:=h.qp;have:=h.q3;have:=h.p1
 omega
def amV (v d l i:Int):Int:=if amE v d l i=0 then v.fdiv (2^min l.toNat 64) else 0
theorem am_1 {v d l i:Int} (h:v<0∨1099511627776<v∨d<0∨5<d):amE v d l i=1∧amV v d l i=0:=by
 have e:amE v d l i=1:=if_pos h
 exact ⟨e,by unfold amV;rw [e];rfl⟩
theorem am_2 {v d l i:Int} (h:¬(v<0∨1099511627776<v∨d<0∨5<d)) (hn:nodeB d l i=false):amE v d l i=2∧amV v d l i=0:=by
 have e:amE v d l i=2:=by unfold amE;rw [if_neg h,hn];rfl
 exact ⟨e,by unfold amV;rw [e];rfl⟩
theorem am_3 {v d l i:Int} (h:¬(v<0∨1099511627776<v∨d<0∨5<d)) (hn:nodeB d l i=true):amE v d l i=0∧amV v d l i=v.fdiv (2^min l.toNat 64):=by
 have e:amE v d l i=0:=by unfold amE;rw [if_neg h,hn];rfl
 exact ⟨e,by unfold amV;rw [e];rfl⟩
theorem chal_1 {b:Bas} {c:Coin} {l i:Int} {x:Cxt} (h:validB b=false):chalE b c l i x=1∧chalK b c l i x=0:=by
 unfold chalE chalK;rw [h];exact ⟨rfl,rfl⟩
theorem chal_2 {b:Bas} {c:Coin} {l i:Int} {x:Cxt} (h:validB b=true) (h':nodeB c.depth l i=false∨ctxB x.time x.number=false):chalE b c l i x=2∧chalK b c l i x=0:=by
 have e:(nodeB c.depth l i&&ctxB x.time x.number)=false:=by rcases h' with e|e<;>simp [e]
 unfold chalE chalK;rw [h,e];exact ⟨rfl,rfl⟩
theorem chal_3 {b:Bas} {c:Coin} {l i:Int} {x:Cxt} (h:validB b=true) (h':nodeB c.depth l i=true∧ctxB x.time x.number=true):chalE b c l i x=0∧chalK b c l i x=chalN b.gr.q c l i x:=by
 have e:(nodeB c.depth l i&&ctxB x.time x.number)=true:=by simp [h']
 unfold chalE chalK;rw [h,e];exact ⟨rfl,rfl⟩
theorem span_d {d l i:Int} (hn:nodeB d l i=true):spanE d l i=0∧0≤l∧l≤d∧0≤d∧d≤5:=by
 have h:=node_t hn
 refine ⟨?_,by omega,by omega,by omega,by omega⟩
 unfold spanE
 rw [if_neg (by omega),if_pos hn]
def Spend.coin (s:Spend):Coin:=⟨s.bank,s.epoch,s.denom,s.depth,s.a,s.root,s.z,s.sa,s.sb,s.r⟩
def Spend.cxt (s:Spend):Cxt:=⟨s.payee,s.time,s.number⟩
structure Spend.By (s:Spend):Prop where
 root:byB s.root 32
 payee:byB s.payee 32
def chS (b:Bas) (s:Spend):Int:=chalN b.gr.q s.coin s.level s.index s.cxt
def scB (b:Bas) (x:Int):Bool:=decide (x≥0)&&decide (x<b.gr.q)
theorem first_mem {l:List Int} {v:Int}:(decide (firstI (fun i=>l.getD i 0==v) l.length 0≥0))=decide (v∈l):=by
 rw [firstI_neg]
 rw [Bool.eq_iff_iff]
 simp only [Nat.zero_add,List.any_eq_true,List.mem_range,beq_iff_eq,decide_eq_true_eq]
 constructor
 ·rintro ⟨i,hi,rfl⟩
  rw [List.getD_eq_getElem?_getD,List.getElem?_eq_getElem hi]
  exact List.getElem_mem hi
 ·intro h
  obtain ⟨i,hi,rfl⟩:=List.mem_iff_getElem.1 h
  exact ⟨i,hi,by rw [List.getD_eq_getElem?_getD,List.getElem?_eq_getElem hi];rfl⟩
end Go.Sp

namespace Go.Proofs.YtdaaddkipdmajaaGreatDoor
open Go Go.Am Go.Sp
set_option maxRecDepth 100000

theorem chall_c (b : Bas) (c : Coin) (l i : Int) (x : Cxt) (hw : b.gr.W) (hr : byB c.root 32) (hp : byB x.payee 32) : Pure Tryz.prog gl0 54 [b.av, c.av, .agg [.int .i64 l, .int .i64 i], x.av] (.tup [.int .i64 (chalK b c l i x), .int .i64 (chalE b c l i x)]) := by
  have hc := fun h h' => chal_c b c l i x hr hp h h'
  have hx := context_c x
  have hv := bvalid_c b hw
  refine pure_sk (own := ow0) Tryz.func54 (by kernel_rfl) mixed (by kernel_rfl)
    (let y0 : AV := (AV.tup [Zi (chalK b c l i x), Zi (chalE b c l i x)]); (.sc (true) 52 ([AV.agg (Bas.cells b)]) (AV.bool (validB b)) (.br (!validB b) (.out (AV.tup [Zi 0, Zi 1]) [] y0 []) (.sc (true) 68 ([Zi c.4, AV.agg [Zi l, Zi i]]) (AV.bool (nodeB c.4 l i)) (.sc ((!nodeB c.4 l i) == false) 69 ([AV.agg (u8c x.1 ++ [Zi x.2, Zi x.3])]) (AV.bool (ctxB (Cxt.time x) (Cxt.number x))) (.br (!nodeB c.4 l i || !ctxB x.2 x.3) (.out (AV.tup [Zi 0, Zi 2]) [] y0 []) (.sc (true) 70 ([AV.agg (Bas.cells b), AV.agg (Coin.cells c), AV.agg [Zi l, Zi i], AV.agg (u8c x.1 ++ [Zi x.2, Zi x.3])]) (Zi (chalN (Grp.q (Bas.gr b)) c l i x)) (.out (AV.tup [Zi (chalN (Bas.gr b).2 c l i x), Zi 0]) [] y0 []))))))))
    (by kernel_rfl) ?_
  refine k_sc (hv) ?_
  refine k_br (fun h1 => ?_) (fun h1 => ?_)
  · have g1 := (cnd_not_t cnd_id_f) h1
    exact k_out (Ent.of_eq (by rw [(chal_1 g1).1, (chal_1 g1).2]))
  · have g1 := (cnd_not_f cnd_id_t) h1
    refine k_sc (node_c (c.4) (l) (i)) ?_
    refine k_scg (fun h4 => hx) ?_
    refine k_br (fun h5 => ?_) (fun h5 => ?_)
    · have g5 := (cnd_or_t (cnd_not_t cnd_id_f) (cnd_not_t cnd_id_f)) h5
      exact k_out (Ent.of_eq (by rw [(chal_2 g1 g5).1, (chal_2 g1 g5).2]))
    · have g5 := (cnd_or_f (cnd_not_f cnd_id_t) (cnd_not_f cnd_id_t)) h5
      refine k_sc (hc ((validB_q g1).1) ((validB_q g1).2)) ?_
      exact k_out (Ent.of_eq (by rw [(chal_3 g1 g5).1, (chal_3 g1 g5).2]))

theorem indexN_c (l : List Int) (v : Int) (hn : l.length < 9223372036854775808) : Pure Tryz.prog gl0 152 [il .i64 l, .int .i64 v] (.int .i64 (firstI (fun i => l.getD i 0 == v) l.length 0)) := by
  refine pure_sk (own := ow0) Tryz.func152 (by kernel_rfl) mixed (by kernel_rfl)
    (let y0 : AV := (Zi (firstI (fun (i : Nat) => List.getD l i (0 : Int) == v) (List.length l) 0)); (.loop ({ x : Nat // x ≤ List.length l ∧ (fun (i : Nat) => firstI (fun (i : Nat) => List.getD l i (0 : Int) == v) (List.length l) 0 = firstI (fun (i : Nat) => List.getD l i (0 : Int) == v) (List.length l - i) i) x }) (fun (x : { x : Nat // x ≤ List.length l ∧ (fun (i : Nat) => firstI (fun (i : Nat) => List.getD l i (0 : Int) == v) (List.length l) 0 = firstI (fun (i : Nat) => List.getD l i (0 : Int) == v) (List.length l - i) i) x }) => mkSt [0, 1, 7, 8] [AV.isl 1 (List.length l) fun (i x : Nat) => Zi (List.getD l i (0 : Int)), Zi v, Zi (↑(List.length l) : Int), Zi (↑(x.1) : Int)] []) (fun (x : { x : Nat // x ≤ List.length l ∧ (fun (i : Nat) => firstI (fun (i : Nat) => List.getD l i (0 : Int) == v) (List.length l) 0 = firstI (fun (i : Nat) => List.getD l i (0 : Int) == v) (List.length l - i) i) x }) => List.length l - x.1) (⟨0, ⟨Nat.zero_le (List.length l), rfl⟩⟩) ([0, 1, 7, 8]) ([]) ([AV.isl 1 (List.length l) fun (i x : Nat) => Zi (List.getD l i (0 : Int)), Zi v, Zi (↑(List.length l) : Int), Zi 0]) ([]) (fun x0 => (.br (decide ((↑x0.1 : Int) < (↑(List.length l) : Int))) (.req ((0 : Int) ≤ (↑x0.1 : Int) ∧ (↑x0.1 : Int) < (↑(List.length l) : Int)) (.br (v == List.getD l (Int.toNat (↑x0.1 : Int)) (0 : Int)) (.out (Zi (↑x0.1 : Int)) [] y0 []) (.again (Again 0 (fun (x : { x : Nat // x ≤ List.length l ∧ (fun (i : Nat) => firstI (fun (i : Nat) => List.getD l i (0 : Int) == v) (List.length l) 0 = firstI (fun (i : Nat) => List.getD l i (0 : Int) == v) (List.length l - i) i) x }) => mkSt [0, 1, 7, 8] [AV.isl 1 (List.length l) fun (i x : Nat) => Zi (List.getD l i (0 : Int)), Zi v, Zi (↑(List.length l) : Int), Zi (↑(x.1) : Int)] []) (fun (x : { x : Nat // x ≤ List.length l ∧ (fun (i : Nat) => firstI (fun (i : Nat) => List.getD l i (0 : Int) == v) (List.length l) 0 = firstI (fun (i : Nat) => List.getD l i (0 : Int) == v) (List.length l - i) i) x }) => List.length l - x.1) x0) ([0, 1, 7, 8]) ([]) ([AV.isl 1 (List.length l) fun (i x : Nat) => Zi (List.getD l i (0 : Int)), Zi v, Zi (↑(List.length l) : Int), Zi (IntKind.wrap IntKind.i64 ((↑x0.1 : Int) + 1))]) ([])))) (.out (Zi (-1)) [] y0 [])))))
    (by kernel_rfl) ?_
  refine k_loop (fun _ hs => hs.le (⟨.refl _, .refl _, .refl _, .refl _, trivial⟩) (trivial)) (fun x0 => ?_)
  try (have q0 := x0.2; dsimp only at q0)
  refine k_br (fun h1 => ?_) (fun h1 => ?_)
  · have g1 := cnd_dec_t h1
    refine k_req (by omega) ?_
    refine k_br (fun h3 => ?_) (fun h3 => ?_)
    · have g3 := cnd_beq_t h3
      try simp only [Int.toNat_natCast] at g3
      exact k_out (Ent.of_eq (congrArg _ (first_hit x0.2.2 (by omega) (by simp only [beq_iff_eq]; exact g3.symm))))
    · have g3 := cnd_beq_f h3
      try simp only [Int.toNat_natCast] at g3
      exact k_again (⟨x0.1 + 1, by omega, first_next x0.2.2 (by omega) (by simp only [beq_eq_false_iff_ne]; exact fun e => g3 e.symm)⟩) (fun _ hs => hs.le (⟨.refl _, .refl _, .refl _, inc_ent (by omega), trivial⟩) (trivial)) (by dsimp only; omega)
  · have g1 := cnd_dec_f h1
    exact k_out (Ent.of_eq (congrArg _ (first_miss x0.2.2 (by omega))))

theorem containsN_c (l : List Int) (v : Int) (hn : l.length < 9223372036854775808) : Pure Tryz.prog gl0 72 [il .i64 l, .int .i64 v] (.bool (decide (v ∈ l))) := by
  refine pure_sk (own := ow0) Tryz.func72 (by kernel_rfl) mixed (by kernel_rfl)
    (.sc (true) 152 ([AV.isl 1 (List.length l) fun (i x : Nat) => Zi (List.getD l i (0 : Int)), Zi v]) (Zi (firstI (fun (i : Nat) => List.getD l i (0 : Int) == v) (List.length l) 0)) (.out (AV.bool (decide (firstI (fun (i : Nat) => List.getD l i (0 : Int) == v) (List.length l) 0 ≥ 0))) [] (AV.bool (decide (v ∈ l))) []))
    (by kernel_rfl) ?_
  refine k_sc (indexN_c (l) (v) (by assumption)) ?_
  exact k_out (Ent.of_eq (congrArg _ first_mem))




end Go.Proofs.YtdaaddkipdmajaaGreatDoor

namespace Go.Sp
open Go Go.Am
theorem elem_iff {G:Grp} (h:G.Ok) {x:Int}:elemB G x=true↔1≤x∧x<G.p∧x^G.q.toNat%G.p=1:=by
 rw [← mem_eq h]
 simp [and_assoc]
theorem pow_ne {a p:Int} {q:Nat} (hq:0<q) (h:a^q%p=1):a%p≠0:=fun e=>by
 have h2:(a%p)^q%p=1:=by rw [pow_mod];exact h
 rw [e,Int.zero_pow (by omega)] at h2
 simp at h2
theorem elem_of {G:Grp} (h:G.Ok) {x:Int} (hx:x^G.q.toNat%G.p=1):elemB G (x%G.p)=true:=by
 have h3:=h.p3;have h4:=h.q3
 have h1:=Int.emod_nonneg x (show G.p≠0 by omega)
 have h2:=Int.emod_lt_of_pos x (show 0<G.p by omega)
 have h5:=pow_ne (by omega) hx
 refine (elem_iff h).2 ⟨by omega,h2,?_⟩
 rw [pow_mod]
 exact hx
theorem elem_pow {G:Grp} (h:G.Ok) {a:Int} (ha:elemB G a=true) (k:Nat):elemB G (a^k%G.p)=true:=by
 refine elem_of h ?_
 have h3:=h.p3
 rw [← Int.pow_mul,Nat.mul_comm,Int.pow_mul,← pow_mod,((elem_iff h).1 ha).2.2,Int.one_pow,Int.emod_eq_of_lt (by decide) (by omega)]
theorem elem_mul {G:Grp} (h:G.Ok) {a b:Int} (ha:elemB G a=true) (hb:elemB G b=true):elemB G (a*b%G.p)=true:=by
 refine elem_of h ?_
 have h3:=h.p3
 rw [Int.mul_pow,Int.mul_emod,((elem_iff h).1 ha).2.2,((elem_iff h).1 hb).2.2]
 exact Int.emod_eq_of_lt (by decide) (by omega)
theorem elem_bnd {G:Grp} (h:G.Ok) {a:Int} (ha:elemB G a=true):1≤a∧a<G.p:=⟨((elem_iff h).1 ha).1,((elem_iff h).1 ha).2.1⟩
theorem red_q {q x:Int} (h:0≤x∧x<q):x%q=x:=Int.emod_eq_of_lt h.1 h.2
theorem chS_q {b:Bas} {s:Spend} (h:0<b.gr.q):0≤chS b s∧chS b s<b.gr.q:=num_by h 16
end Go.Sp

namespace Go.Proofs.YtdaaddkipdmajaaGreatDoor
open Go Go.Am Go.Sp
set_option maxRecDepth 100000

theorem gcheck_c (G : Grp) (l : List Int) (h : G.Ok) (hw : G.W) (hl : ∀ i, i < l.length → elemB G (l.getD i 0) = true) (hn : l.length < 1000) : Pure Tryz.prog gl0 126 [G.av, il .i64 l] (.int .i64 0) := by
  have c1 := gvalid_c G hw
  rw [validG_iff.2 h] at c1
  have c2 := fun x => element_c G x hw
  refine pure_sk (own := ow0) Tryz.func126 (by kernel_rfl) mixed (by kernel_rfl)
    (let y0 : List (Option Ob) := [some ⟨3, 1, true, Rep.lst [[Zi (Grp.p G), Zi (Grp.q G), Zi (Grp.g G)]]⟩]; (.sc (true) 129 ([AV.agg [Zi G.1, Zi G.2, Zi G.3]]) (AV.bool true) (.ff (.loop ({ x : Nat // x ≤ List.length l }) (fun (x : { x : Nat // x ≤ List.length l }) => mkSt [2, 10, 11, 12] [AV.own 0 3 0 0 3, AV.isl 1 (List.length l) fun (i x : Nat) => Zi (List.getD l i (0 : Int)), Zi (↑(List.length l) : Int), Zi (↑(x.1) : Int)] y0) (fun (x : { x : Nat // x ≤ List.length l }) => List.length l - x.1) (⟨0, Nat.zero_le (List.length l)⟩) ([2, 10, 11, 12]) ([0]) ([AV.own 0 3 0 0 3, AV.isl 1 (List.length l) fun (i x : Nat) => Zi (List.getD l i (0 : Int)), Zi (↑(List.length l) : Int), Zi 0]) (y0) (fun x2 => (.br (decide ((↑x2.1 : Int) < (↑(List.length l) : Int))) (.req ((0 : Int) ≤ (↑x2.1 : Int) ∧ (↑x2.1 : Int) < (↑(List.length l) : Int)) (.sc (true) 194 ([AV.agg [Zi G.1, Zi G.2, Zi G.3], Zi (List.getD l (Int.toNat (↑x2.1 : Int)) (0 : Int))]) (AV.bool (elemB G (List.getD l (Int.toNat (↑x2.1 : Int)) (0 : Int)))) (.br (!elemB G (List.getD l (Int.toNat (↑x2.1 : Int)) (0 : Int))) (.out (Zi 2) [] (Zi 0) []) (.again (Again 0 (fun (x : { x : Nat // x ≤ List.length l }) => mkSt [2, 10, 11, 12] [AV.own 0 3 0 0 3, AV.isl 1 (List.length l) fun (i x : Nat) => Zi (List.getD l i (0 : Int)), Zi (↑(List.length l) : Int), Zi (↑(x.1) : Int)] y0) (fun (x : { x : Nat // x ≤ List.length l }) => List.length l - x.1) x2) ([2, 10, 11, 12]) ([0]) ([AV.own 0 3 0 0 3, AV.isl 1 (List.length l) fun (i x : Nat) => Zi (List.getD l i (0 : Int)), Zi (↑(List.length l) : Int), Zi (IntKind.wrap IntKind.i64 ((↑x2.1 : Int) + 1))]) (y0))))) (.out (Zi 0) [] (Zi 0) [])))))))
    (by kernel_rfl) ?_
  refine k_sc (c1) ?_
  refine k_ff ?_
  refine k_loop (fun _ hs => hs.le (⟨.refl _, .refl _, .refl _, .refl _, trivial⟩) (⟨.refl _, trivial⟩)) (fun x2 => ?_)
  try (have q2 := x2.2; dsimp only at q2)
  refine k_br (fun h3 => ?_) (fun h3 => ?_)
  · have g3 := cnd_dec_t h3
    refine k_req (by omega) ?_
    refine k_sc (c2 (List.getD l (Int.toNat (↑x2.1 : Int)) (0 : Int))) ?_
    refine k_br (fun h6 => ?_) (fun h6 => ?_)
    · have g6 := (cnd_not_t cnd_id_f) h6
      try simp only [Int.toNat_natCast] at g6
      exact k_out ((by exfalso; rw [hl x2.1 (by omega)] at g6; cases g6))
    · have g6 := (cnd_not_f cnd_id_t) h6
      try simp only [Int.toNat_natCast] at g6
      exact k_again (⟨x2.1 + 1, by omega⟩) (fun _ hs => hs.le (⟨.refl _, .refl _, .refl _, inc_ent (by omega), trivial⟩) (⟨.refl _, trivial⟩)) (by dsimp only; omega)
  · have g3 := cnd_dec_f h3
    exact k_out (Ent.of_eq rfl)

theorem gcheck1 (G : Grp) (a : Int) (h : G.Ok) (hw : G.W) (ha : elemB G a = true) : Pure Tryz.prog gl0 126 [G.av, .isl 1 1 fun r k => atL (List.getD [[.int .i64 a]] r []) k] (.int .i64 0) :=
  (gcheck_c G [a] h hw (fun i hi => by obtain rfl : i = 0 := Nat.lt_one_iff.1 hi
                                       exact ha) (by simp)).via ⟨Ent.refl _, il_rows rfl rfl, trivial⟩

theorem gcheck2 (G : Grp) (a c : Int) (h : G.Ok) (hw : G.W) (ha : elemB G a = true) (hc : elemB G c = true) : Pure Tryz.prog gl0 126 [G.av, .isl 1 2 fun r k => atL (List.getD [[.int .i64 a], [.int .i64 c]] r []) k] (.int .i64 0) :=
  (gcheck_c G [a, c] h hw (fun i hi => match i, hi with
    | 0, _ => ha
    | 1, _ => hc) (by simp)).via ⟨Ent.refl _, il_rows rfl rfl, trivial⟩

theorem gmul_c (G : Grp) (a c : Int) (h : G.Ok) (hw : G.W) (ha : elemB G a = true) (hc : elemB G c = true) : Pure Tryz.prog gl0 49 [G.av, .int .i64 a, .int .i64 c] (.tup [.int .i64 (a * c % G.p), .int .i64 0]) := by
  have c1 := gcheck2 G a c h hw ha hc
  have x := elem_bnd h ha
  have y := elem_bnd h hc
  have k1 := h.p1
  have k2 := chk_ok (a := a) (b := c) (m := G.p) (by omega) (by omega) (by omega) (by omega) (by omega) (by omega)
  refine pure_sk (own := ow0) Tryz.func49 (by kernel_rfl) mixed (by kernel_rfl)
    (let y0 : AV := (AV.tup [Zi (okv (chkI a c G.1) (a * c % G.1)), Zi (chkI a c G.1)]); (.sc (true) 126 ([AV.agg [Zi G.1, Zi G.2, Zi G.3], AV.isl 1 2 fun (r k : Nat) => atL (List.getD [[Zi a], [Zi c]] (r + 0) []) k]) (Zi 0) (.ff (.sc (true) 113 ([Zi a, Zi c, Zi G.1]) y0 (.out y0 [] (AV.tup [Zi (a * c % Grp.p G), Zi 0]) [])))))
    (by kernel_rfl) ?_
  refine k_sc (c1) ?_
  refine k_ff ?_
  refine k_sc (wmul_c (a) (c) (G.1)) ?_
  exact k_out (Ent.of_eq (by rw [k2]; rfl))

theorem gpow_c (G : Grp) (a e : Int) (h : G.Ok) (hw : G.W) (ha : elemB G a = true) (he : 0 ≤ e ∧ e < G.q) : Pure Tryz.prog gl0 48 [G.av, .int .i64 a, .int .i64 e] (.tup [.int .i64 (a ^ e.toNat % G.p), .int .i64 0]) := by
  have c1 := gcheck1 G a h hw ha
  have x := elem_bnd h ha
  have k1 := h.p1; have k2 := h.qp; have k3 := h.q3
  have k4 : okv (chkI 0 0 G.q) (e % G.q) = e := by
    rw [chk_ok (by omega) (by omega) (by omega) (by omega) (by omega) (by omega)]
    exact red_q he
  have k5 := powE_0 (chk_ok (a := a) (b := a) (m := G.p) (by omega) (by omega) (by omega) (by omega) (by omega) (by omega)) (by omega : ¬ e < 0)
  refine pure_sk (own := ow0) Tryz.func48 (by kernel_rfl) mixed (by kernel_rfl)
    (let y0 : AV := (AV.tup [Zi (okv (powE a (okv (chkI (0 : Int) (0 : Int) G.2) (e % G.2)) G.1) (a ^ Int.toNat (okv (chkI (0 : Int) (0 : Int) G.2) (e % G.2)) % G.1)), Zi (powE a (okv (chkI (0 : Int) (0 : Int) G.2) (e % G.2)) G.1)]); (.sc (true) 126 ([AV.agg [Zi G.1, Zi G.2, Zi G.3], AV.isl 1 1 fun (r k : Nat) => atL (List.getD [[Zi a]] (r + 0) []) k]) (Zi 0) (.ff (.sc (true) 127 ([Zi e, Zi G.2]) (AV.tup [Zi (okv (chkI (0 : Int) (0 : Int) G.2) (e % G.2)), Zi (chkI (0 : Int) (0 : Int) G.2)]) (.sc (true) 128 ([Zi a, Zi (okv (chkI (0 : Int) (0 : Int) G.2) (e % G.2)), Zi G.1]) y0 (.out y0 [] (AV.tup [Zi (a ^ Int.toNat e % Grp.p G), Zi 0]) []))))))
    (by kernel_rfl) ?_
  refine k_sc (c1) ?_
  refine k_ff ?_
  refine k_sc (wreduce_c (e) (G.2)) ?_
  refine k_sc (wpow_c (a) (okv (chkI (0 : Int) (0 : Int) G.2) (e % G.2)) (G.1) (by rw [k4]; omega)) ?_
  exact k_out (Ent.of_eq (by rw [k4, k5]; rfl))

end Go.Proofs.YtdaaddkipdmajaaGreatDoor

namespace Go.Sp
open Go Go.Am
structure Rcd where
 bank:Int
 epoch:Int
 denom:Int
 value:Int
 depth:Int
 h:Int
 h1:Int
 h2:Int
 fr:Int
 til:Int
 fin:Int
def Rcd.key (r:Rcd):List AV:=[.int .i64 r.h,.int .i64 r.h1,.int .i64 r.h2]
def Rcd.cells (r:Rcd):List AV:=[.int .i64 r.bank,.int .i64 r.epoch,.int .i64 r.denom,.int .i64 r.value,.int .i64 r.depth]++(r.key++[.int .i64 r.fr,.int .i64 r.til,.int .i64 r.fin])
def Rcd.av (r:Rcd):AV:=.agg r.cells
def msgB (G:Grp) (x:Int):Bool:=x != 1&&elemB G x
def keyB (b:Bas) (h h1 h2:Int):Bool:=validB b&&msgB b.gr h&&msgB b.gr h1&&msgB b.gr h2
def oneB (v d:Int):Bool:=bif v==0 then d==0 else decide (v≥1)&&decide (v≤1099511627776)&&decide (d≥0)&&decide (d≤5)&&(Int.tmod v (IntKind.wrap .i64 (1*2^min d.toNat 64))==0)
def rngB (x l u:Int):Bool:=decide (x≥l)&&decide (x≤u)
def numR (bank epoch fr til fin:Int):Bool:=rngB bank 0 7&&rngB epoch 0 1000000&&decide (fr≥0)&&decide (fr<til)&&decide (til≤fin)&&decide (fin≤1099511627776)
def rcvB (b:Bas) (r:Rcd):Bool:=keyB b r.h r.h1 r.h2&&numR r.bank r.epoch r.fr r.til r.fin&&rngB r.denom 0 16&&oneB r.value r.depth
theorem ok1 {e v:Int}:(e==0&&okv e v==1)=(okv e v==1):=by
 by_cases h:e=0
 ·subst h;rfl
 ·rw [okvn h,show (e==0)=false by simpa using h];rfl
theorem sh_ne {d:Int} (h0:0≤d) (h5:d≤5):IntKind.wrap .i64 (1*2^min d.toNat 64)≠0:=by
 rw [shw (x:=d.toNat) (by omega)]
 have:1≤2^d.toNat:=pow_pos2
 omega
theorem u64_s {d:Int} (h0:0≤d) (h5:d≤5):IntKind.wrap .u64 d=d:=by
 have:d=0∨d=1∨d=2∨d=3∨d=4∨d=5:=by omega
 rcases this with rfl|rfl|rfl|rfl|rfl|rfl<;>decide
theorem one_1 {v d:Int} (h:v=0) (h':d=0):oneB v d=true:=by subst h;subst h';rfl
theorem one_0 {v d:Int} (h:v=0):oneB v d=(d==0):=by subst h;rfl
theorem one_n {v d:Int} (h:¬v=0):oneB v d=(decide (v≥1)&&decide (v≤1099511627776)&&decide (d≥0)&&decide (d≤5)&&(Int.tmod v (IntKind.wrap .i64 (1*2^min d.toNat 64))==0)):=by
 unfold oneB
 rw [show (v==0)=false by simpa using h];rfl
theorem one_2 {v d:Int} (h:¬(v=0∧d=0)):(decide (v≥1)&&decide (v≤1099511627776)&&decide (d≥0)&&decide (d≤5)&&(Int.tmod v (IntKind.wrap .i64 (1*2^min d.toNat 64))==0))=oneB v d:=by
 by_cases hv:v=0
 ·rw [one_0 hv,show decide (v≥1)=false by simp;omega]
  have:¬d=0:=fun e=>h ⟨hv,e⟩
  simp [this]
 ·exact (one_n hv).symm
theorem one_3 {v d:Int} (h:¬v=0):(decide (v≥1)&&decide (v≤1099511627776)&&decide (d≥0)&&decide (d≤5)&&(Int.tmod v (IntKind.wrap .i64 (1*2^min (Int.toNat (IntKind.wrap .u64 d)) 64))==0))=oneB v d:=by
 rw [one_n h]
 by_cases hd:0≤d∧d≤5
 ·rw [u64_s hd.1 hd.2]
 ·have:(decide (d≥0)&&decide (d≤5))=false:=by
   by_cases h0:d≥0
   ·rw [decide_eq_false (show ¬d≤5 by omega),Bool.and_false]
   ·rw [decide_eq_false h0];rfl
  rw [Bool.and_assoc (decide (v≥1)&&decide (v≤1099511627776)),this]
  simp
theorem rec_1 {n g k:Bool} {v d:Int}:(n&&g&&(v==0&&d==0||oneB v d)&&k)=(k&&n&&g&&oneB v d):=by
 by_cases h:v=0∧d=0
 ·obtain ⟨rfl,rfl⟩:=h
  cases n<;>cases g<;>cases k<;>rfl
 ·have:(v==0&&d==0)=false:=by simpa using h
  rw [this]
  cases n<;>cases g<;>cases k<;>simp
def crtL (b:Bas) (a:Int) (i:Nat):Int:=[b.gr.p,b.gr.q,b.gr.g,b.g1,b.g2,b.h,a].getD i 0
def crtI (b:Bas) (a:Int) (root:Nat→Int) (z sa sb:Int):It:=lsI [.int b.gr.p,.int b.gr.q,.int b.gr.g,.int b.g1,.int b.g2,.int b.h,.int a,.byt 32 root,.int z,.int sa,.int sb]
def crtN (b:Bas) (a:Int) (root:Nat→Int) (z sa sb:Int):Int:=numF (tagI "specie/coin".toUTF8 (crtI b a root z sa sb)) b.gr.q 16
theorem crtL_ob {os:List (Option Ob)} {b:Bas} {a:Int} {mu:Bool}:ObEnt os ⟨1,7,mu,.lst [[.int .i64 b.gr.p],[.int .i64 b.gr.q],[.int .i64 b.gr.g],[.int .i64 b.g1],[.int .i64 b.g2],[.int .i64 b.h],[.int .i64 a]]⟩ ⟨1,7,mu,.fn fun i _=>.int .i64 (crtL b a i)⟩:=lst_fn fun i j hi hj=>by
 obtain rfl:j=0:=by omega
 match i,hi with
 | 0,_|1,_|2,_|3,_|4,_|5,_|6,_=>rfl
def elF (x0 x1 x2 x3:Int) (i:Nat):Int:=[x0,x1,x2,x3].getD i 0
theorem allE4 {p:Int→Bool} {x0 x1 x2 x3:Int}:allI (fun i=>p (elF x0 x1 x2 x3 i)) 4=(p x0&&(p x1&&p x2&&p x3)):=by
 unfold allI
 show (p x0&&(p x1&&(p x2&&(p x3&&true))))=_
 rw [Bool.and_true,Bool.and_assoc (p x1)]
def elsB (G:Grp) (z sa sb:Int):Bool:=elemB G z&&elemB G sa&&elemB G sb
def crtE (b:Bas) (a z sa sb:Int):Int:=bif validB b then (bif elemB b.gr a&&elsB b.gr z sa sb then 0 else 2) else 1
end Go.Sp

namespace Go.Proofs.YtdaaddkipdmajaaGreatDoor
open Go Go.Am Go.Sp
set_option maxRecDepth 100000

theorem within_r (x l u : Int) : Pure Tryz.prog gl0 204 [.int .i64 x, .int .i64 l, .int .i64 u] (.bool (rngB x l u)) := by
  refine pure_sk (own := ow0) Tryz.func204 (by kernel_rfl) mixed (by kernel_rfl)
    (.out (AV.bool (decide (x ≥ l) && decide (x ≤ u))) [] (AV.bool (rngB x l u)) [])
    (by kernel_rfl) ?_
  exact k_out (Ent.refl _)

theorem numbers_c (a b c d e : Int) : Pure Tryz.prog gl0 203 [.int .i64 a, .int .i64 b, .int .i64 c, .int .i64 d, .int .i64 e] (.bool (numR a b c d e)) := by
  refine pure_sk (own := ow0) Tryz.func203 (by kernel_rfl) mixed (by kernel_rfl)
    (.sc (true) 204 ([Zi a, Zi 0, Zi 7]) (AV.bool (rngB a (0 : Int) (7 : Int))) (.sc (rngB a (0 : Int) (7 : Int) == true) 204 ([Zi b, Zi 0, Zi 1000000]) (AV.bool (rngB b (0 : Int) (1000000 : Int))) (.out (AV.bool (rngB a (0 : Int) (7 : Int) && rngB b (0 : Int) (1000000 : Int) && decide (c ≥ 0) && decide (c < d) && decide (d ≤ e) && decide (e ≤ 1099511627776))) [] (AV.bool (numR a b c d e)) [])))
    (by kernel_rfl) ?_
  refine k_sc (within_r (a) ((0 : Int)) ((7 : Int))) ?_
  refine k_scg (fun h1 => within_r (b) ((0 : Int)) ((1000000 : Int))) ?_
  exact k_out (Ent.refl _)

theorem rin_c (x l u : Int) : Pure Tryz.prog gl0 160 [.int .i64 x, .int .i64 l, .int .i64 u] (.bool (rngB x l u)) := by
  refine pure_sk (own := ow0) Tryz.func160 (by kernel_rfl) mixed (by kernel_rfl)
    (.out (AV.bool (decide (x ≥ l) && decide (x ≤ u))) [] (AV.bool (rngB x l u)) [])
    (by kernel_rfl) ?_
  exact k_out (Ent.refl _)

theorem frame_c (a b c d e : Int) : Pure Tryz.prog gl0 159 [.int .i64 a, .int .i64 b, .int .i64 c, .int .i64 d, .int .i64 e] (.bool (numR a b c d e)) := by
  refine pure_sk (own := ow0) Tryz.func159 (by kernel_rfl) mixed (by kernel_rfl)
    (.sc (true) 160 ([Zi a, Zi 0, Zi 7]) (AV.bool (rngB a (0 : Int) (7 : Int))) (.sc (rngB a (0 : Int) (7 : Int) == true) 160 ([Zi b, Zi 0, Zi 1000000]) (AV.bool (rngB b (0 : Int) (1000000 : Int))) (.out (AV.bool (rngB a (0 : Int) (7 : Int) && rngB b (0 : Int) (1000000 : Int) && decide (c ≥ 0) && decide (c < d) && decide (d ≤ e) && decide (e ≤ 1099511627776))) [] (AV.bool (numR a b c d e)) [])))
    (by kernel_rfl) ?_
  refine k_sc (rin_c (a) ((0 : Int)) ((7 : Int))) ?_
  refine k_scg (fun h1 => rin_c (b) ((0 : Int)) ((1000000 : Int))) ?_
  exact k_out (Ent.refl _)

theorem single_c (v d : Int) : Pure Tryz.prog gl0 245 [.agg [.int .i64 v, .int .i64 d]] (.bool (oneB v d)) := by
  refine pure_sk (own := ow0) Tryz.func245 (by kernel_rfl) mixed (by kernel_rfl)
    (.br (v == 0 && (d == 0 && true)) (.out (AV.bool true) [] (AV.bool (oneB v d)) []) (.req (((decide (v ≥ 1) && decide (v ≤ 1099511627776) && decide (d ≥ 0) && decide (d ≤ 5)) == true) = true → (0 : Int) ≤ d) (.req (((decide (v ≥ 1) && decide (v ≤ 1099511627776) && decide (d ≥ 0) && decide (d ≤ 5)) == true) = true → IntKind.wrap IntKind.i64 ((1 : Int) * 2 ^ min (Int.toNat d) 64) ≠ (0 : Int)) (.out (AV.bool (decide (v ≥ 1) && decide (v ≤ 1099511627776) && decide (d ≥ 0) && decide (d ≤ 5) && Int.tmod v (IntKind.wrap IntKind.i64 ((1 : Int) * 2 ^ min (Int.toNat d) 64)) == 0)) [] (AV.bool (oneB v d)) []))))
    (by kernel_rfl) ?_
  refine k_br (fun h0 => ?_) (fun h0 => ?_)
  · have g0 := (cnd_and_t cnd_beq_t (cnd_and_t cnd_beq_t cnd_id_t)) h0
    exact k_out (Ent.of_eq (congrArg _ (one_1 g0.1 g0.2.1).symm))
  · have g0 := (cnd_and_f cnd_beq_f (cnd_and_f cnd_beq_f cnd_id_f)) h0
    refine k_req (fun hr => by simp at hr; omega) ?_
    refine k_req (fun hr => by simp at hr; exact sh_ne (by omega) (by omega)) ?_
    exact k_out (Ent.of_eq (congrArg _ (one_2 (fun h => by rcases g0 with g | g | g; (· exact g h.1); (· exact g h.2); cases g))))

theorem one_c (v d : Int) : Pure Tryz.prog gl0 161 [.agg [.int .i64 v, .int .i64 d]] (.bool (oneB v d)) := by
  refine pure_sk (own := ow0) Tryz.func161 (by kernel_rfl) mixed (by kernel_rfl)
    (let y0 : Nat := (Int.toNat (IntKind.wrap IntKind.u64 d)); (.br (v == 0) (.out (AV.bool (d == 0)) [] (AV.bool (oneB v d)) []) (.req (((decide (v ≥ 1) && decide (v ≤ 1099511627776) && decide (d ≥ 0) && decide (d ≤ 5)) == true) = true → (0 : Int) ≤ IntKind.wrap IntKind.u64 d) (.req (((decide (v ≥ 1) && decide (v ≤ 1099511627776) && decide (d ≥ 0) && decide (d ≤ 5)) == true) = true → IntKind.wrap IntKind.i64 ((1 : Int) * 2 ^ min y0 64) ≠ (0 : Int)) (.out (AV.bool (decide (v ≥ 1) && decide (v ≤ 1099511627776) && decide (d ≥ 0) && decide (d ≤ 5) && Int.tmod v (IntKind.wrap IntKind.i64 ((1 : Int) * 2 ^ min y0 64)) == 0)) [] (AV.bool (oneB v d)) [])))))
    (by kernel_rfl) ?_
  refine k_br (fun h0 => ?_) (fun h0 => ?_)
  · have g0 := cnd_beq_t h0
    exact k_out (Ent.of_eq (congrArg _ (one_0 g0).symm))
  · have g0 := cnd_beq_f h0
    refine k_req (fun hr => by simp at hr; rw [u64_s (by omega) (by omega)]; omega) ?_
    refine k_req (fun hr => by simp at hr; rw [u64_s (by omega) (by omega)]; exact sh_ne (by omega) (by omega)) ?_
    exact k_out (Ent.of_eq (congrArg _ (one_3 g0)))

theorem elementR_c (b : Bas) (x : Int) (hw : b.gr.W) : Pure Tryz.prog gl0 246 [b.av, .int .i64 x] (.bool (elemB b.gr x)) := by
  have hq := hw.q
  refine pure_sk (own := ow0) Tryz.func246 (by kernel_rfl) mixed (by kernel_rfl)
    (.br (decide (x < 1) || decide (x ≥ (Bas.gr b).1)) (.out (AV.bool false) [] (AV.bool (elemB (Bas.gr b) x)) []) (.sc (true) 128 ([Zi x, Zi (Bas.gr b).2, Zi (Bas.gr b).1]) (AV.tup [Zi (okv (powE x (Bas.gr b).2 (Bas.gr b).1) (x ^ Int.toNat (Bas.gr b).2 % (Bas.gr b).1)), Zi (powE x (Bas.gr b).2 (Bas.gr b).1)]) (.out (AV.bool (powE x (Bas.gr b).2 (Bas.gr b).1 == 0 && okv (powE x (Bas.gr b).2 (Bas.gr b).1) (x ^ Int.toNat (Bas.gr b).2 % (Bas.gr b).1) == 1)) [] (AV.bool (elemB (Bas.gr b) x)) [])))
    (by kernel_rfl) ?_
  refine k_br (fun h0 => ?_) (fun h0 => ?_)
  · have g0 := (cnd_or_t cnd_dec_t cnd_dec_t) h0
    exact k_out (Ent.of_eq (congrArg _ (elem_f g0).symm))
  · have g0 := (cnd_or_f cnd_dec_f cnd_dec_f) h0
    refine k_sc (wpow_c (x) ((Bas.gr b).2) ((Bas.gr b).1) (by assumption)) ?_
    exact k_out (Ent.of_eq (congrArg _ (ok1.trans (elem_t g0).symm)))

theorem messageR_c (b : Bas) (x : Int) (hw : b.gr.W) : Pure Tryz.prog gl0 207 [b.av, .int .i64 x] (.bool (msgB b.gr x)) := by
  refine pure_sk (own := ow0) Tryz.func207 (by kernel_rfl) mixed (by kernel_rfl)
    (.sc ((x != 1) == true) 246 ([AV.agg (Bas.cells b), Zi x]) (AV.bool (elemB (Bas.gr b) x)) (.out (AV.bool (x != 1 && elemB b.1 x)) [] (AV.bool (msgB (Bas.gr b) x)) []))
    (by kernel_rfl) ?_
  refine k_scg (fun h0 => (elementR_c b) (x) (by assumption)) ?_
  exact k_out (Ent.refl _)

theorem validR_c (b : Bas) (h h1 h2 : Int) (hw : b.gr.W) : Pure Tryz.prog gl0 206 [b.av, .agg [.int .i64 h, .int .i64 h1, .int .i64 h2]] (.bool (keyB b h h1 h2)) := by
  refine pure_sk (own := ow0) Tryz.func206 (by kernel_rfl) mixed (by kernel_rfl)
    (.sc (true) 52 ([AV.agg (Bas.cells b)]) (AV.bool (validB b)) (.sc (validB b == true) 207 ([AV.agg (Bas.cells b), Zi h]) (AV.bool (msgB (Bas.gr b) h)) (.sc ((validB b && msgB b.1 h) == true) 207 ([AV.agg (Bas.cells b), Zi h1]) (AV.bool (msgB (Bas.gr b) h1)) (.sc ((validB b && msgB b.1 h && msgB b.1 h1) == true) 207 ([AV.agg (Bas.cells b), Zi h2]) (AV.bool (msgB (Bas.gr b) h2)) (.out (AV.bool (validB b && msgB b.1 h && msgB b.1 h1 && msgB b.1 h2)) [] (AV.bool (keyB b h h1 h2)) [])))))
    (by kernel_rfl) ?_
  refine k_sc ((bvalid_c b) (by assumption)) ?_
  refine k_scg (fun h1 => (messageR_c b) (h) (by assumption)) ?_
  refine k_scg (fun h2 => (messageR_c b) (h1) (by assumption)) ?_
  refine k_scg (fun h3 => (messageR_c b) (h2) (by assumption)) ?_
  exact k_out (Ent.refl _)

theorem rmsg_c (G : Grp) (x : Int) (hw : G.Ok) : Pure Tryz.prog gl0 162 [G.av, .int .i64 x] (.bool (msgB G x)) := by
  refine pure_sk (own := ow0) Tryz.func162 (by kernel_rfl) mixed (by kernel_rfl)
    (.sc ((x != 1) == true) 78 ([AV.agg [Zi G.1, Zi G.2, Zi G.3], Zi x]) (AV.bool (elemB G x)) (.out (AV.bool (x != 1 && elemB G x)) [] (AV.bool (msgB G x)) []))
    (by kernel_rfl) ?_
  refine k_scg (fun h0 => (member_c G) (x) (by assumption)) ?_
  exact k_out (Ent.refl _)

theorem rkey_c (b : Bas) (h h1 h2 : Int) (hw : b.gr.W) : Pure Tryz.prog gl0 158 [b.av, .agg [.int .i64 h, .int .i64 h1, .int .i64 h2]] (.bool (keyB b h h1 h2)) := by
  refine pure_sk (own := ow0) Tryz.func158 (by kernel_rfl) mixed (by kernel_rfl)
    (let y0 : List AV := [Zi (Bas.gr b).1, Zi (Bas.gr b).2, Zi (Bas.gr b).3]; (.sc (true) 19 ([AV.agg (Bas.cells b)]) (AV.bool (validB b)) (.sc (validB b == true) 162 ([AV.agg y0, Zi h]) (AV.bool (msgB (Bas.gr b) h)) (.sc ((validB b && msgB b.1 h) == true) 162 ([AV.agg y0, Zi h1]) (AV.bool (msgB (Bas.gr b) h1)) (.sc ((validB b && msgB b.1 h && msgB b.1 h1) == true) 162 ([AV.agg y0, Zi h2]) (AV.bool (msgB (Bas.gr b) h2)) (.out (AV.bool (validB b && msgB b.1 h && msgB b.1 h1 && msgB b.1 h2)) [] (AV.bool (keyB b h h1 h2)) []))))))
    (by kernel_rfl) ?_
  refine k_sc ((r11valid_c b) (hw)) ?_
  refine k_scg (fun h1 => (rmsg_c (Bas.gr b)) (h) ((validB_iff.1 (by simp at h1; simp [h1])).G)) ?_
  refine k_scg (fun h2 => (rmsg_c (Bas.gr b)) (h1) ((validB_iff.1 (by simp at h2; simp [h2])).G)) ?_
  refine k_scg (fun h3 => (rmsg_c (Bas.gr b)) (h2) ((validB_iff.1 (by simp at h3; simp [h3])).G)) ?_
  exact k_out (Ent.refl _)


theorem denomV_c0 (v d : Int) : Pure Tryz.prog gl0 205 [.isl 2 1 fun _ k => atL [.int .i64 v, .int .i64 d] k] (.bool (oneB v d)) := by
  have hs := (single_c v d)
  refine pure_sk (own := ow0) Tryz.func205 (by kernel_rfl) mixed (by kernel_rfl)
    (let y0 : AV := (AV.bool (oneB v d)); (.ff (.loop ({ x : Nat // x ≤ 1 ∧ (fun (x : Nat) => 0 < x → oneB v d = true) x }) (fun (x : { x : Nat // x ≤ 1 ∧ (fun (x : Nat) => 0 < x → oneB v d = true) x }) => mkSt [0, 12, 13, 14, 2, 15] [AV.isl 2 1 fun (x k : Nat) => atL [Zi v, Zi d] k, AV.bool false, AV.isl 2 1 fun (x k : Nat) => atL [Zi v, Zi d] k, Zi (↑(1) : Int), AV.bool false, Zi (↑(x.1) : Int)] []) (fun (x : { x : Nat // x ≤ 1 ∧ (fun (x : Nat) => 0 < x → oneB v d = true) x }) => 1 - x.1) (⟨0, ⟨Nat.zero_le 1, fun (h : 0 < 0) => absurd h (Nat.lt_irrefl 0)⟩⟩) ([0, 12, 13, 14, 2, 15]) ([]) ([AV.isl 2 1 fun (x k : Nat) => atL [Zi v, Zi d] k, AV.bool false, AV.isl 2 1 fun (x k : Nat) => atL [Zi v, Zi d] k, Zi (↑(1) : Int), AV.bool false, Zi 0]) ([]) (fun x1 => (.br (decide ((↑x1.1 : Int) < (↑(1) : Int))) (.req ((0 : Int) ≤ (↑x1.1 : Int) ∧ (↑x1.1 : Int) < (↑(1) : Int)) (.sc (true) 245 ([AV.agg [Zi v, Zi d]]) y0 (.br (!oneB v d) (.out (AV.bool false) [] y0 []) (.req ((decide ((↑x1.1 : Int) > 0) == true) = true → (0 : Int) ≤ IntKind.wrap IntKind.i64 ((↑x1.1 : Int) - 1) ∧ IntKind.wrap IntKind.i64 ((↑x1.1 : Int) - 1) < (↑(1) : Int)) (.req ((decide ((↑x1.1 : Int) > 0) == true && decide (v < v) == false) = true → (0 : Int) ≤ IntKind.wrap IntKind.i64 ((↑x1.1 : Int) - 1) ∧ IntKind.wrap IntKind.i64 ((↑x1.1 : Int) - 1) < (↑(1) : Int)) (.req ((decide ((↑x1.1 : Int) > 0) == true && decide (v < v) == false && (v == v) == true) = true → (0 : Int) ≤ IntKind.wrap IntKind.i64 ((↑x1.1 : Int) - 1) ∧ IntKind.wrap IntKind.i64 ((↑x1.1 : Int) - 1) < (↑(1) : Int)) (.br (decide ((↑x1.1 : Int) > 0) && (decide (v < v) || v == v && decide (d ≤ d))) (.out (AV.bool false) [] y0 []) (.again (Again 0 (fun (x : { x : Nat // x ≤ 1 ∧ (fun (x : Nat) => 0 < x → oneB v d = true) x }) => mkSt [0, 12, 13, 14, 2, 15] [AV.isl 2 1 fun (x k : Nat) => atL [Zi v, Zi d] k, AV.bool false, AV.isl 2 1 fun (x k : Nat) => atL [Zi v, Zi d] k, Zi (↑(1) : Int), AV.bool false, Zi (↑(x.1) : Int)] []) (fun (x : { x : Nat // x ≤ 1 ∧ (fun (x : Nat) => 0 < x → oneB v d = true) x }) => 1 - x.1) x1) ([0, 12, 13, 14, 2, 15]) ([]) ([AV.isl 2 1 fun (x k : Nat) => atL [Zi v, Zi d] k, AV.bool false, AV.isl 2 1 fun (x k : Nat) => atL [Zi v, Zi d] k, Zi (↑(1) : Int), AV.bool false, Zi (IntKind.wrap IntKind.i64 ((↑x1.1 : Int) + 1))]) ([]))))))))) (.out (AV.bool true) [] y0 []))))))
    (by kernel_rfl) ?_
  refine k_ff ?_
  refine k_loop (fun _ hs => hs.le (⟨.refl _, .refl _, .refl _, .refl _, .refl _, .refl _, trivial⟩) (trivial)) (fun x1 => ?_)
  try (have q1 := x1.2; dsimp only at q1)
  refine k_br (fun h2 => ?_) (fun h2 => ?_)
  · have g2 := cnd_dec_t h2
    refine k_req (by omega) ?_
    refine k_sc (hs) ?_
    refine k_br (fun h5 => ?_) (fun h5 => ?_)
    · have g5 := (cnd_not_t cnd_id_f) h5
      exact k_out (by exact Ent.of_eq (congrArg _ (by simp_all)))
    · have g5 := (cnd_not_f cnd_id_t) h5
      refine k_req (fun hr => by have hr := (cnd_eqt_t cnd_dec_t) hr; omega) ?_
      refine k_req (fun hr => by have hr := (cnd_and_t (cnd_eqt_t cnd_dec_t) (cnd_eqf_t cnd_dec_f)) hr; omega) ?_
      refine k_req (fun hr => by have hr := (cnd_and_t (cnd_and_t (cnd_eqt_t cnd_dec_t) (cnd_eqf_t cnd_dec_f)) (cnd_eqt_t cnd_beq_t)) hr; omega) ?_
      refine k_br (fun h10 => ?_) (fun h10 => ?_)
      · have g10 := (cnd_and_t cnd_dec_t (cnd_or_t cnd_dec_t (cnd_and_t cnd_beq_t cnd_dec_t))) h10
        exact k_out (by (exfalso; omega))
      · have g10 := (cnd_and_f cnd_dec_f (cnd_or_f cnd_dec_f (cnd_and_f cnd_beq_f cnd_dec_f))) h10
        exact k_again (⟨x1.1 + 1, by omega, fun _ => g5⟩) (fun _ hs => hs.le (⟨.refl _, .refl _, .refl _, .refl _, .refl _, inc_ent (by omega), trivial⟩) (trivial)) (by dsimp only; omega)
  · have g2 := cnd_dec_f h2
    exact k_out (by exact Ent.of_eq (congrArg _ (q1.2 (by omega)).symm))

theorem denomV_c (v d : Int) : Pure Tryz.prog gl0 205 [.isl 2 1 fun r k => atL (List.getD [[.int .i64 v, .int .i64 d]] r []) k] (.bool (oneB v d)) :=
  (denomV_c0 v d).via ⟨Ent.isl fun i j hi _ => by obtain rfl : i = 0 := Nat.lt_one_iff.1 hi
                                                  rfl, trivial⟩

theorem recV_c (b : Bas) (r : Rcd) (hw : b.gr.W) : Pure Tryz.prog gl0 143 [b.av, r.av] (.bool (rcvB b r)) := by
  have h1 := denomV_c r.value r.depth
  have h2 := validR_c b r.h r.h1 r.h2 hw
  refine pure_sk (own := ow0) Tryz.func143 (by kernel_rfl) mixed (by kernel_rfl)
    (.sc (true) 203 ([Zi r.1, Zi r.2, Zi r.9, Zi r.10, Zi r.11]) (AV.bool (numR r.1 r.2 r.9 r.10 r.11)) (.sc (numR r.1 r.2 r.9 r.10 r.11 == true) 204 ([Zi r.3, Zi 0, Zi 16]) (AV.bool (rngB r.3 (0 : Int) (16 : Int))) (.sc ((numR r.1 r.2 r.9 r.10 r.11 && rngB r.3 (0 : Int) (16 : Int)) == true && (r.4 == 0 && r.5 == 0) == false) 205 ([AV.isl 2 1 fun (r_1 k : Nat) => atL (List.getD [[Zi r.4, Zi r.5]] (r_1 + 0) []) k]) (AV.bool (oneB (Rcd.value r) (Rcd.depth r))) (.sc ((numR r.1 r.2 r.9 r.10 r.11 && rngB r.3 (0 : Int) (16 : Int) && (r.4 == 0 && r.5 == 0 || oneB r.4 r.5)) == true) 206 ([AV.agg (Bas.cells b), AV.agg [Zi r.6, Zi r.7, Zi r.8]]) (AV.bool (keyB b (Rcd.h r) (Rcd.h1 r) (Rcd.h2 r))) (.out (AV.bool (numR r.1 r.2 r.9 r.10 r.11 && rngB r.3 (0 : Int) (16 : Int) && (r.4 == 0 && r.5 == 0 || oneB r.4 r.5) && keyB b r.6 r.7 r.8)) [] (AV.bool (rcvB b r)) [])))))
    (by kernel_rfl) ?_
  refine k_sc (numbers_c (r.1) (r.2) (r.9) (r.10) (r.11)) ?_
  refine k_scg (fun h1 => within_r (r.3) ((0 : Int)) ((16 : Int))) ?_
  refine k_scg (fun h2 => h1) ?_
  refine k_scg (fun h3 => h2) ?_
  exact k_out (Ent.of_eq (congrArg _ rec_1))

theorem rrecV_c (b : Bas) (r : Rcd) (hw : b.gr.W) : Pure Tryz.prog gl0 79 [b.av, r.av] (.bool (rcvB b r)) := by
  have h1 := one_c r.value r.depth
  have h2 := rkey_c b r.h r.h1 r.h2 hw
  refine pure_sk (own := ow0) Tryz.func79 (by kernel_rfl) mixed (by kernel_rfl)
    (.sc (true) 158 ([AV.agg (Bas.cells b), AV.agg [Zi r.6, Zi r.7, Zi r.8]]) (AV.bool (keyB b (Rcd.h r) (Rcd.h1 r) (Rcd.h2 r))) (.sc (keyB b r.6 r.7 r.8 == true) 159 ([Zi r.1, Zi r.2, Zi r.9, Zi r.10, Zi r.11]) (AV.bool (numR r.1 r.2 r.9 r.10 r.11)) (.sc ((keyB b r.6 r.7 r.8 && numR r.1 r.2 r.9 r.10 r.11) == true) 160 ([Zi r.3, Zi 0, Zi 16]) (AV.bool (rngB r.3 (0 : Int) (16 : Int))) (.sc ((keyB b r.6 r.7 r.8 && numR r.1 r.2 r.9 r.10 r.11 && rngB r.3 (0 : Int) (16 : Int)) == true) 161 ([AV.agg [Zi r.4, Zi r.5]]) (AV.bool (oneB (Rcd.value r) (Rcd.depth r))) (.out (AV.bool (keyB b r.6 r.7 r.8 && numR r.1 r.2 r.9 r.10 r.11 && rngB r.3 (0 : Int) (16 : Int) && oneB r.4 r.5)) [] (AV.bool (rcvB b r)) [])))))
    (by kernel_rfl) ?_
  refine k_sc (h2) ?_
  refine k_scg (fun h1 => frame_c (r.1) (r.2) (r.9) (r.10) (r.11)) ?_
  refine k_scg (fun h2 => rin_c (r.3) ((0 : Int)) ((16 : Int))) ?_
  refine k_scg (fun h3 => h1) ?_
  exact k_out (Ent.refl _)

theorem numI_c (n : Int) : Pure Tryz.prog gl0 248 [.int .i64 n] (It.int n).av := by
  refine pure_sk (own := ow0) Tryz.func248 (by kernel_rfl) mixed (by kernel_rfl)
    (.out (AV.agg [Zi 1, Zi n, AV.nsl, AV.nsl]) [] (It.av (It.int n)) [])
    (by kernel_rfl) ?_
  exact k_out (Ent.agg ⟨Ent.refl _, Ent.refl _, Ent.nsl, Ent.nsl, trivial⟩)

theorem rnumI_c (n : Int) : Pure Tryz.prog gl0 221 [.int .i64 n] (It.int n).av := by
  refine pure_sk (own := ow0) Tryz.func221 (by kernel_rfl) mixed (by kernel_rfl)
    (.out (AV.agg [Zi 1, Zi n, AV.nsl, AV.nsl]) [] (It.av (It.int n)) [])
    (by kernel_rfl) ?_
  exact k_out (Ent.agg ⟨Ent.refl _, Ent.refl _, Ent.nsl, Ent.nsl, trivial⟩)

theorem rNumbers_c (b : Bas) : Pure Tryz.prog gl0 220 [b.av] (.isl 1 6 fun i _ => .int .i64 (crtL b 0 i)) := by
  refine pure_sk (own := ow0) Tryz.func220 (by kernel_rfl) mixed (by kernel_rfl)
    (.out (AV.isl 1 6 fun (r k : Nat) => atL (List.getD [[Zi (Bas.gr b).1], [Zi (Bas.gr b).2], [Zi (Bas.gr b).3], [Zi b.2], [Zi b.3], [Zi b.4]] (r + 0) []) k) [] (AV.isl 1 6 fun (i x : Nat) => Zi (crtL b (0 : Int) i)) [])
    (by kernel_rfl) ?_
  exact k_out (Ent.isl fun i j hi hj => by obtain rfl : j = 0 := Nat.lt_one_iff.1 hj; match i, hi with | 0, _ | 1, _ | 2, _ | 3, _ | 4, _ | 5, _ => rfl)

theorem relems_c (G : Grp) (z sa sb r : Int) (hw : G.Ok) : Pure Tryz.prog gl0 163 [G.av, .agg [.int .i64 z, .int .i64 sa, .int .i64 sb, .int .i64 r]] (.bool (elsB G z sa sb)) := by
  refine pure_sk (own := ow0) Tryz.func163 (by kernel_rfl) mixed (by kernel_rfl)
    (let y0 : List AV := [Zi G.1, Zi G.2, Zi G.3]; (.sc (true) 78 ([AV.agg y0, Zi z]) (AV.bool (elemB G z)) (.sc (elemB G z == true) 78 ([AV.agg y0, Zi sa]) (AV.bool (elemB G sa)) (.sc ((elemB G z && elemB G sa) == true) 78 ([AV.agg y0, Zi sb]) (AV.bool (elemB G sb)) (.out (AV.bool (elemB G z && elemB G sa && elemB G sb)) [] (AV.bool (elsB G z sa sb)) [])))))
    (by kernel_rfl) ?_
  refine k_sc ((member_c G) (z) (by assumption)) ?_
  refine k_scg (fun h1 => (member_c G) (sa) (by assumption)) ?_
  refine k_scg (fun h2 => (member_c G) (sb) (by assumption)) ?_
  exact k_out (Ent.refl _)

theorem scalR_c (b : Bas) (x : Int) : Pure Tryz.prog gl0 208 [b.av, .int .i64 x] (.bool (decide (x ≥ 0) && decide (x < b.gr.q))) := by
  refine pure_sk (own := ow0) Tryz.func208 (by kernel_rfl) mixed (by kernel_rfl)
    (.out (AV.bool (decide (x ≥ 0) && decide (x < (Bas.gr b).2))) [] (AV.bool (decide (x ≥ 0) && decide (x < Grp.q (Bas.gr b)))) [])
    (by kernel_rfl) ?_
  exact k_out (Ent.refl _)

theorem rscalR_c (G : Grp) (x : Int) : Pure Tryz.prog gl0 164 [G.av, .int .i64 x] (.bool (decide (x ≥ 0) && decide (x < G.q))) := by
  refine pure_sk (own := ow0) Tryz.func164 (by kernel_rfl) mixed (by kernel_rfl)
    (.out (AV.bool (decide (x ≥ 0) && decide (x < G.2))) [] (AV.bool (decide (x ≥ 0) && decide (x < Grp.q G))) [])
    (by kernel_rfl) ?_
  exact k_out (Ent.refl _)

theorem powR_c (b : Bas) (x e : Int) (h : b.gr.Ok) (hx : 0 ≤ x ∧ x < b.gr.p) (he : 0 ≤ e ∧ e < b.gr.q) : Pure Tryz.prog gl0 210 [b.av, .int .i64 x, .int .i64 e] (.int .i64 (x ^ e.toNat % b.gr.p)) := by
  have k1 := h.p1; have k2 := h.qp; have k3 := h.p3
  have k5 := powE_0 (chk_ok (a := x) (b := x) (m := b.gr.p) (by omega) (by omega) (by omega) (by omega) (by omega) (by omega)) (by omega : ¬ e < 0)
  refine pure_sk (own := ow0) Tryz.func210 (by kernel_rfl) mixed (by kernel_rfl)
    (.sc (true) 128 ([Zi x, Zi e, Zi (Bas.gr b).1]) (AV.tup [Zi (okv (powE x e (Bas.gr b).1) (x ^ Int.toNat e % (Bas.gr b).1)), Zi (powE x e (Bas.gr b).1)]) (.out (Zi (okv (powE x e (Bas.gr b).1) (x ^ Int.toNat e % (Bas.gr b).1))) [] (Zi (x ^ Int.toNat e % Grp.p (Bas.gr b))) []))
    (by kernel_rfl) ?_
  refine k_sc (wpow_c (x) (e) ((Bas.gr b).1) (by omega)) ?_
  exact k_out (Ent.of_eq (by rw [k5]; rfl))

theorem rpowR_c (G : Grp) (x e : Int) (h : G.Ok) (hx : 0 ≤ x ∧ x < G.p) (he : 0 ≤ e ∧ e < G.q) : Pure Tryz.prog gl0 166 [G.av, .int .i64 x, .int .i64 e] (.int .i64 (x ^ e.toNat % G.p)) := by
  have k1 := h.p1; have k2 := h.qp; have k3 := h.p3
  refine pure_sk (own := ow0) Tryz.func166 (by kernel_rfl) mixed (by kernel_rfl)
    (.sc (true) 104 ([Zi x, Zi e, Zi G.1]) (Zi (x ^ Int.toNat e % G.1)) (.out (Zi (x ^ Int.toNat e % G.1)) [] (Zi (x ^ Int.toNat e % Grp.p G)) []))
    (by kernel_rfl) ?_
  refine k_sc (rpow_c (x) (e) (G.1) (by omega) (by omega) (by omega) (by omega) (by assumption)) ?_
  exact k_out (Ent.refl _)

theorem mulR_c (b : Bas) (x y : Int) (h : b.gr.Ok) (hx : 0 ≤ x ∧ x < b.gr.p) (hy : 0 ≤ y ∧ y < b.gr.p) : Pure Tryz.prog gl0 249 [b.av, .int .i64 x, .int .i64 y] (.int .i64 (x * y % b.gr.p)) := by
  have k1 := h.p1; have k3 := h.p3
  have k2 := chk_ok (a := x) (b := y) (m := b.gr.p) (by omega) (by omega) (by omega) (by omega) (by omega) (by omega)
  refine pure_sk (own := ow0) Tryz.func249 (by kernel_rfl) mixed (by kernel_rfl)
    (.sc (true) 113 ([Zi x, Zi y, Zi (Bas.gr b).1]) (AV.tup [Zi (okv (chkI x y (Bas.gr b).1) (x * y % (Bas.gr b).1)), Zi (chkI x y (Bas.gr b).1)]) (.out (Zi (okv (chkI x y (Bas.gr b).1) (x * y % (Bas.gr b).1))) [] (Zi (x * y % Grp.p (Bas.gr b))) []))
    (by kernel_rfl) ?_
  refine k_sc (wmul_c (x) (y) ((Bas.gr b).1)) ?_
  exact k_out (Ent.of_eq (by rw [k2]; rfl))

theorem rmulR_c (G : Grp) (x y : Int) (h : G.Ok) (hx : 0 ≤ x ∧ x < G.p) (hy : 0 ≤ y ∧ y < G.p) : Pure Tryz.prog gl0 167 [G.av, .int .i64 x, .int .i64 y] (.int .i64 (x * y % G.p)) := by
  have k1 := h.p1; have k3 := h.p3
  refine pure_sk (own := ow0) Tryz.func167 (by kernel_rfl) mixed (by kernel_rfl)
    (.sc (true) 64 ([Zi x, Zi y, Zi G.1]) (Zi (x * y % G.1)) (.out (Zi (x * y % G.1)) [] (Zi (x * y % Grp.p G)) []))
    (by kernel_rfl) ?_
  refine k_sc (rmul_c (x) (y) (G.1) (by omega) (by omega) (by omega) (by omega) (by assumption)) ?_
  exact k_out (Ent.refl _)

theorem prodR_c (b : Bas) (x e y : Int) (h : b.gr.Ok) (hx : 0 ≤ x ∧ x < b.gr.p) (he : 0 ≤ e ∧ e < b.gr.q) (hy : 0 ≤ y ∧ y < b.gr.p) : Pure Tryz.prog gl0 211 [b.av, .int .i64 x, .int .i64 e, .int .i64 y, .int .i64 1] (.int .i64 (x ^ e.toNat % b.gr.p * y % b.gr.p)) := by
  have k1 := h.p1; have k3 := h.p3; have kq := h.q3
  have c1 := powR_c b x e h hx he
  have c2 := powR_c b y 1 h hy (by omega)
  have m1 : 0 ≤ x ^ e.toNat % b.gr.p ∧ x ^ e.toNat % b.gr.p < b.gr.p := ⟨Int.emod_nonneg _ (by omega), Int.emod_lt_of_pos _ (by omega)⟩
  have y1 : y ^ (1 : Int).toNat % b.gr.p = y := by rw [show (1 : Int).toNat = 1 from rfl, Int.pow_succ, Int.pow_zero, Int.one_mul, Int.emod_eq_of_lt hy.1 hy.2]
  rw [y1] at c2
  have c3 := mulR_c b _ y h m1 hy
  refine pure_sk (own := ow0) Tryz.func211 (by kernel_rfl) mixed (by kernel_rfl)
    (let y0 : AV := (Zi (x ^ Int.toNat e % Grp.p (Bas.gr b) * y % Grp.p (Bas.gr b))); (.sc (true) 210 ([AV.agg (Bas.cells b), Zi x, Zi e]) (Zi (x ^ Int.toNat e % Grp.p (Bas.gr b))) (.sc (true) 210 ([AV.agg (Bas.cells b), Zi y, Zi 1]) (Zi y) (.sc (true) 249 ([AV.agg (Bas.cells b), Zi (x ^ Int.toNat e % (Bas.gr b).1), Zi y]) y0 (.out (Zi (x ^ Int.toNat e % (Bas.gr b).1 * y % (Bas.gr b).1)) [] y0 [])))))
    (by kernel_rfl) ?_
  refine k_sc (c1) ?_
  refine k_sc (c2) ?_
  refine k_sc (c3) ?_
  exact k_out (Ent.refl _)

theorem elemsR_c0 (b : Bas) (u0 u1 u2 u3 : Int) (hw : b.gr.W) : Pure Tryz.prog gl0 247 [b.av, .isl 1 4 fun i _ => .int .i64 (elF u0 u1 u2 u3 i)] (.bool (elemB b.gr u0 && elsB b.gr u1 u2 u3)) := by
  have e : allI (fun i => elemB b.gr (elF u0 u1 u2 u3 i)) 4 = (elemB b.gr u0 && elsB b.gr u1 u2 u3) := allE4
  rw [← e]; clear e
  refine pure_sk (own := ow0) Tryz.func247 (by kernel_rfl) mixed (by kernel_rfl)
    (let y0 : List (Option Ob) := [some ⟨6, 1, true, Rep.lst [Bas.cells b]⟩]; let y1 : AV := (AV.bool (allI (fun (i : Nat) => elemB (Bas.gr b) (elF u0 u1 u2 u3 i)) 4)); (.loop ({ x : Nat // x ≤ 4 ∧ (fun (i : Nat) => ∀ (j : Nat), j < i → elemB (Bas.gr b) (elF u0 u1 u2 u3 j) = true) x }) (fun (x : { x : Nat // x ≤ 4 ∧ (fun (i : Nat) => ∀ (j : Nat), j < i → elemB (Bas.gr b) (elF u0 u1 u2 u3 j) = true) x }) => mkSt [2, 7, 8, 9] [AV.own 0 6 0 0 6, AV.isl 1 4 fun (i x : Nat) => Zi (elF u0 u1 u2 u3 i), Zi (↑(4) : Int), Zi (↑(x.1) : Int)] y0) (fun (x : { x : Nat // x ≤ 4 ∧ (fun (i : Nat) => ∀ (j : Nat), j < i → elemB (Bas.gr b) (elF u0 u1 u2 u3 j) = true) x }) => 4 - x.1) (⟨0, ⟨Nat.zero_le 4, fun (j : Nat) (hj : j < 0) => absurd hj (Nat.not_lt_zero j)⟩⟩) ([2, 7, 8, 9]) ([0]) ([AV.own 0 6 0 0 6, AV.isl 1 4 fun (i x : Nat) => Zi (elF u0 u1 u2 u3 i), Zi (↑(4) : Int), Zi 0]) (y0) (fun x0 => (.br (decide ((↑x0.1 : Int) < (↑(4) : Int))) (.req ((0 : Int) ≤ (↑x0.1 : Int) ∧ (↑x0.1 : Int) < (↑(4) : Int)) (.sc (true) 246 ([AV.agg (Bas.cells b), Zi (elF u0 u1 u2 u3 (Int.toNat (↑x0.1 : Int)))]) (AV.bool (elemB (Bas.gr b) (elF u0 u1 u2 u3 (Int.toNat (↑x0.1 : Int))))) (.br (!elemB b.1 (elF u0 u1 u2 u3 (Int.toNat (↑x0.1 : Int)))) (.out (AV.bool false) [] y1 []) (.again (Again 0 (fun (x : { x : Nat // x ≤ 4 ∧ (fun (i : Nat) => ∀ (j : Nat), j < i → elemB (Bas.gr b) (elF u0 u1 u2 u3 j) = true) x }) => mkSt [2, 7, 8, 9] [AV.own 0 6 0 0 6, AV.isl 1 4 fun (i x : Nat) => Zi (elF u0 u1 u2 u3 i), Zi (↑(4) : Int), Zi (↑(x.1) : Int)] y0) (fun (x : { x : Nat // x ≤ 4 ∧ (fun (i : Nat) => ∀ (j : Nat), j < i → elemB (Bas.gr b) (elF u0 u1 u2 u3 j) = true) x }) => 4 - x.1) x0) ([2, 7, 8, 9]) ([0]) ([AV.own 0 6 0 0 6, AV.isl 1 4 fun (i x : Nat) => Zi (elF u0 u1 u2 u3 i), Zi (↑(4) : Int), Zi (IntKind.wrap IntKind.i64 ((↑x0.1 : Int) + 1))]) (y0))))) (.out (AV.bool true) [] y1 [])))))
    (by kernel_rfl) ?_
  refine k_loop (fun _ hs => hs.le (⟨.refl _, .refl _, .refl _, .refl _, trivial⟩) (⟨.refl _, trivial⟩)) (fun x0 => ?_)
  try (have q0 := x0.2; dsimp only at q0)
  refine k_br (fun h1 => ?_) (fun h1 => ?_)
  · have g1 := cnd_dec_t h1
    refine k_req (by omega) ?_
    refine k_sc ((elementR_c b) (elF u0 u1 u2 u3 (Int.toNat (↑x0.1 : Int))) (by assumption)) ?_
    refine k_br (fun h4 => ?_) (fun h4 => ?_)
    · have g4 := (cnd_not_t cnd_id_f) h4
      try simp only [Int.toNat_natCast] at g4
      exact k_out (by exact Ent.of_eq (congrArg _ (allI_f (i := x0.1) (by omega) g4).symm))
    · have g4 := (cnd_not_f cnd_id_t) h4
      try simp only [Int.toNat_natCast] at g4
      exact k_again (⟨x0.1 + 1, by omega, all_next q0.2 g4⟩) (fun _ hs => hs.le (⟨.refl _, .refl _, .refl _, inc_ent (by omega), trivial⟩) (⟨.refl _, trivial⟩)) (by dsimp only; omega)
  · have g1 := cnd_dec_f h1
    exact k_out (by exact Ent.of_eq (congrArg _ (allI_t fun i hi => q0.2 i (by omega)).symm))

theorem elemsR_c (b : Bas) (x0 x1 x2 x3 : Int) (hw : b.gr.W) : Pure Tryz.prog gl0 247 [b.av, .isl 1 4 fun r k => atL (List.getD [[.int .i64 x0], [.int .i64 x1], [.int .i64 x2], [.int .i64 x3]] r []) k] (.bool (elemB b.gr x0 && elsB b.gr x1 x2 x3)) :=
  (elemsR_c0 b x0 x1 x2 x3 hw).via ⟨Ent.refl _, Ent.isl fun i j hi hj => by obtain rfl : j = 0 := Nat.lt_one_iff.1 hj
                                                                            match i, hi with | 0, _ | 1, _ | 2, _ | 3, _ => rfl, trivial⟩


end Go.Proofs.YtdaaddkipdmajaaGreatDoor

namespace Go.Sp
open Go Go.Am
def crtJ (b:Bas) (a:Int) (root:Nat→Int) (z sa sb:Int):List It:=[.int b.gr.p,.int b.gr.q,.int b.gr.g,.int b.g1,.int b.g2,.int b.h,.int a,.byt 32 root,.int z,.int sa,.int sb]
theorem liU_out {os:List (Option Ob)} {L:List It} {n:Nat} {F:Nat→Nat→AV} (hn:n=L.length) (h:∀ i k,i<n→k<4→Ent os (F i k) (atL (L.getD i (.int 0)).cells k)) :
  Ent os (.agg [.int .i64 3,.int .i64 0,.nsl,.isl 4 n F]) (lsI L).av:=by
 subst hn
 exact Ent.agg ⟨Ent.refl _,Ent.refl _,Ent.nsl,Ent.islE (fun i j hi hj=>⟨h i j hi hj,It.cl_at _ j hj⟩),trivial⟩
theorem byt_root {os:List (Option Ob)} (n:Nat) {f g:Nat→Int} (h:∀ i,i<n→f i=g i):EntL os [.int .i64 2,.int .i64 0,.isl 1 n fun i _=>.int .u8 (f i),.nsl] (It.byt n g).cells :=
 ⟨Ent.refl _,Ent.refl _,Ent.isl fun i _ hi _=>congrArg (AV.int .u8) (h i hi),Ent.nsl,trivial⟩
theorem crtF_ok {os:List (Option Ob)} {b:Bas} {a z sa sb:Int} {root:Nat→Int} {x:Nat} (hx:x=7) {i k:Nat} (hi:i<x+4) :
  Ent os (mixA (Nat.blt (i+0) x) (atL (It.int (crtL b a (i+0))).cells k)
   (atL (List.getD [[AV.int IntKind.i64 (2:Int),AV.int IntKind.i64 (0:Int),AV.isl 1 32 fun (r _:Nat)=>AV.int IntKind.u8 (intOfAV (atL (u8c root) (0+(0+r)))),AV.nsl],(It.int z).cells,(It.int sa).cells,(It.int sb).cells] (i+0 - x) []) k))
   (atL ((crtJ b a root z sa sb).getD i (.int 0)).cells k):=by
 subst hx
 match i,hi with
 | 0,_|1,_|2,_|3,_|4,_|5,_|6,_=>exact Ent.of_eq (mixA_tt _ _)
 | 7,_ =>
  show Ent os (mixA false _ _) _
  rw [mixA_ff]
  refine Ent.atL (byt_root 32 fun i hi => ?_) k
  rw [Nat.zero_add,Nat.zero_add]
  exact u8c_at hi
 | 8,_|9,_|10,_=>exact Ent.of_eq (mixA_ff _ _)
theorem rcrtF_ok {os:List (Option Ob)} {b:Bas} {a z sa sb:Int} {root:Nat→Int} {x y:Nat} (hx:x=6) (hy:y=32) {i k:Nat} (hi:i<x+5) :
  Ent os (mixA (Nat.blt (i+0) x) (atL (It.int (crtL b 0 (i+0))).cells k)
   (atL (List.getD [(It.int a).cells,[AV.int IntKind.i64 (2:Int),AV.int IntKind.i64 (0:Int),AV.isl 1 y fun (r _:Nat)=>AV.int IntKind.u8 (root (r+0)),AV.nsl],(It.int z).cells,(It.int sa).cells,(It.int sb).cells] (i+0 - x) []) k))
   (atL ((crtJ b a root z sa sb).getD i (.int 0)).cells k):=by
 subst hx;subst hy
 match i,hi with
 | 0,_|1,_|2,_|3,_|4,_|5,_=>exact Ent.of_eq (mixA_tt _ _)
 | 7,_ =>
  show Ent os (mixA false _ _) _
  rw [mixA_ff]
  exact Ent.atL (byt_root 32 fun i hi=>rfl) k
 | 6,_|8,_|9,_|10,_=>exact Ent.of_eq (mixA_ff _ _)
theorem root_push {os:List (Option Ob)} {y y':Nat} {root c:Nat→Int} (hy:y'=y+1) (h:c 0=root y) :
  ObEnt os ⟨1,y+1,true,.fn fun i j=>.int .u8 (bif Nat.blt i y then root i else c j)⟩ ⟨1,y',true,.fn fun i _=>.int .u8 (root i)⟩:=by
 subst hy
 refine ⟨rfl,rfl,rfl,fun i j hi hj=>Ent.of_eq ?_⟩
 have hi:i<y+1:=hi
 obtain rfl:j=0:=Nat.lt_one_iff.1 hj
 show AV.int .u8 (bif Nat.blt i y then root i else c 0)=.int .u8 (root i)
 by_cases e:i<y
 ·rw [blt_t e];rfl
 ·obtain rfl:i=y:=by omega
  rw [blt_f (Nat.le_refl _),h];rfl
theorem rootc_at {root:Nat→Int} {y:Nat} (hy:y<32):intOfAV (atL [AV.int .u8 (intOfAV (atL (u8c root) (0+Int.toNat (y:Int))))] 0)=root y:=by
 show intOfAV (atL (u8c root) (0+Int.toNat (y:Int)))=_
 rw [Nat.zero_add,Int.toNat_natCast]
 exact u8c_at hy
theorem crtI_ok (b:Bas) (a z sa sb:Int) (root:Nat→Int):(crtI b a root z sa sb).okD 8=true:=by
 simp [crtI,lsI,It.okD,List.range,List.range.loop,List.getD]
theorem crtI_len (b:Bas) (a z sa sb:Int) (root:Nat→Int):(crtI b a root z sa sb).enc.length=132:=by
 show (It.encP 11 _ (0+1+1+1+1+1+1+1+1+1+1+1)).length=_
 repeat rw [It.encP_succ,List.length_append]
 rw [It.encP_zero]
 simp [nbL_len,int_len,byt_len]
theorem crtI_okB {b:Bas} {a z sa sb:Int} {root:Nat→Int} (h:byB root 32):(crtI b a root z sa sb).okB:=fun i hi=>by
 have hi:i<11:=hi
 match i,hi with
 | 0,_|1,_|2,_|3,_|4,_|5,_|6,_|8,_|9,_|10,_=>exact trivial
 | 7,_=>exact h
def crtC (b:Bas) (a:Int) (root:Nat→Int) (z sa sb:Int):Int:=bif crtE b a z sa sb==0 then crtN b a root z sa sb else 0
def crtV (b:Bas) (a:Int) (root:Nat→Int) (z sa sb:Int):AV:=.tup [.int .i64 (crtC b a root z sa sb),.int .i64 (crtE b a z sa sb)]
theorem crtE_1 {b:Bas} {a z sa sb:Int} (h:validB b=false):crtE b a z sa sb=1:=by unfold crtE;rw [h];rfl
theorem crtE_2 {b:Bas} {a z sa sb:Int} (h:validB b=true) (h':elemB b.gr a=false∨elsB b.gr z sa sb=false):crtE b a z sa sb=2:=by
 have e1:(elemB b.gr a&&elsB b.gr z sa sb)=false:=by rcases h' with e|e<;>simp [e]
 unfold crtE;rw [h,e1];rfl
theorem crtE_3 {b:Bas} {a z sa sb:Int} (h:validB b=true) (h':elemB b.gr a=true∧elsB b.gr z sa sb=true):crtE b a z sa sb=0:=by
 unfold crtE;rw [h,h'.1,h'.2];rfl
theorem crtE_0 {b:Bas} {a z sa sb:Int} (h:crtE b a z sa sb=0):validB b=true∧elemB b.gr a=true∧elsB b.gr z sa sb=true:=by
 cases hv:validB b with
 | false=>rw [crtE_1 hv] at h;cases h
 | true =>
  cases ha:elemB b.gr a with
  | false=>rw [crtE_2 hv (.inl ha)] at h;cases h
  | true =>
   cases hs:elsB b.gr z sa sb with
   | false=>rw [crtE_2 hv (.inr hs)] at h;cases h
   | true=>exact ⟨rfl,rfl,rfl⟩
theorem crtC_n {b:Bas} {a z sa sb:Int} {root:Nat→Int} (e:crtE b a z sa sb=0):crtC b a root z sa sb=crtN b a root z sa sb:=by unfold crtC;rw [e];rfl
theorem crt_1 {b:Bas} {a z sa sb:Int} {root:Nat→Int} (h:validB b=false):AV.tup [.int .i64 0,.int .i64 1]=crtV b a root z sa sb:=by
 unfold crtV crtC;rw [crtE_1 h];rfl
theorem crt_2 {b:Bas} {a z sa sb:Int} {root:Nat→Int} (h:validB b=true) (h':elemB b.gr a=false∨elsB b.gr z sa sb=false):AV.tup [.int .i64 0,.int .i64 2]=crtV b a root z sa sb:=by
 unfold crtV crtC;rw [crtE_2 h h'];rfl
theorem crt_3 {b:Bas} {a z sa sb:Int} {root:Nat→Int} (h:validB b=true) (h':elemB b.gr a=true∧elsB b.gr z sa sb=true):AV.tup [.int .i64 (crtN b a root z sa sb),.int .i64 0]=crtV b a root z sa sb:=by
 unfold crtV crtC;rw [crtE_3 h h'];rfl
theorem crtN_q {b:Bas} {a z sa sb:Int} {root:Nat→Int} (h:b.gr.Ok):0≤crtN b a root z sa sb∧crtN b a root z sa sb<b.gr.q:=num_by (by have:=h.q3;omega) 16
end Go.Sp
namespace Go.Sp
open Go Go.Am
def scaB (G:Grp) (x:Int):Bool:=decide (x≥0)&&decide (x<G.q)
def eqsB (b:Bas) (h a z sa sb r c:Int):Bool :=
 (b.gr.g^r.toNat%b.gr.p==h^c.toNat%b.gr.p*sa%b.gr.p)&&(a^r.toNat%b.gr.p==z^c.toNat%b.gr.p*sb%b.gr.p)
def verR (b:Bas) (h h1 h2 a:Int) (root:Nat→Int) (z sa sb r:Int):Bool :=
 keyB b h h1 h2&&msgB b.gr a&&elsB b.gr z sa sb&&scaB b.gr r&&(crtN b a root z sa sb != 0&&eqsB b h a z sa sb r (crtN b a root z sa sb))
theorem msg_el {G:Grp} {x:Int} (h:msgB G x=true):elemB G x=true:=by unfold msgB at h;simp only [Bool.and_eq_true] at h;exact h.2
theorem msg_bnd {G:Grp} (hG:G.Ok) {x:Int} (h:msgB G x=true):0≤x∧x<G.p:=by have:=elem_bnd hG (msg_el h);omega
theorem el_bnd {G:Grp} (hG:G.Ok) {x:Int} (h:elemB G x=true):0≤x∧x<G.p:=by have:=elem_bnd hG h;omega
theorem key_1 {b:Bas} {h0 k1 k2:Int} (h:keyB b h0 k1 k2=true):validB b=true∧msgB b.gr h0=true:=by
 unfold keyB at h;simp only [Bool.and_eq_true] at h;exact ⟨h.1.1.1,h.1.1.2⟩
theorem els_1 {G:Grp} {z sa sb:Int} (h:elsB G z sa sb=true):elemB G z=true∧elemB G sa=true∧elemB G sb=true:=by
 unfold elsB at h;simp only [Bool.and_eq_true] at h;exact ⟨h.1.1,h.1.2,h.2⟩
structure SigOk (b:Bas) (h0 a z sa sb r c:Int):Prop where
 ok:b.gr.Ok
 g:0≤b.gr.g∧b.gr.g<b.gr.p
 h:0≤h0∧h0<b.gr.p
 a:0≤a∧a<b.gr.p
 z:0≤z∧z<b.gr.p
 sa:0≤sa∧sa<b.gr.p
 sb:0≤sb∧sb<b.gr.p
 r:0≤r∧r<b.gr.q
 c:0≤c∧c<b.gr.q
theorem sig_ok {b:Bas} {h0 k1 k2 a z sa sb r:Int} (root:Nat→Int) (hk:keyB b h0 k1 k2=true) (hm:msgB b.gr a=true) (he:elsB b.gr z sa sb=true) (hr:0≤r∧r<b.gr.q):SigOk b h0 a z sa sb r (crtN b a root z sa sb):=by
 have G:=validB_ok (key_1 hk).1
 have h1:=G.g2
 exact ⟨G,⟨by omega,G.g1⟩,msg_bnd G (key_1 hk).2,msg_bnd G hm,el_bnd G (els_1 he).1,el_bnd G (els_1 he).2.1,el_bnd G (els_1 he).2.2,hr,crtN_q G⟩
theorem sig_okC {b:Bas} {h0 k1 k2 a z sa sb r:Int} (root:Nat→Int) (hk:keyB b h0 k1 k2=true) (hm:msgB b.gr a=true) (he:crtE b a z sa sb=0) (hr:0≤r∧r<b.gr.q):SigOk b h0 a z sa sb r (crtC b a root z sa sb):=by
 rw [crtC_n he]
 exact sig_ok root hk hm (crtE_0 he).2.2 hr
theorem ver_0 {b:Bas} {h0 k1 k2 a z sa sb r:Int} {root:Nat→Int} (h:keyB b h0 k1 k2=false∨msgB b.gr a=false∨elsB b.gr z sa sb=false∨scaB b.gr r=false):verR b h0 k1 k2 a root z sa sb r=false:=by
 unfold verR;rcases h with h|h|h|h<;>simp [h]
theorem ver_c {b:Bas} {h0 k1 k2 a z sa sb r:Int} {root:Nat→Int} (hk:keyB b h0 k1 k2=true) (hm:msgB b.gr a=true) (hc:crtE b a z sa sb≠0∨crtC b a root z sa sb=0):verR b h0 k1 k2 a root z sa sb r=false:=by
 cases he:elsB b.gr z sa sb with
 | false=>exact ver_0 (.inr (.inr (.inl he)))
 | true =>
  have e:=crtE_3 (key_1 hk).1 ⟨msg_el hm,he⟩
  rcases hc with h|h
  ·exact absurd e h
  ·rw [crtC_n e] at h
   unfold verR;simp [h]
theorem ver_e {b:Bas} {h0 k1 k2 a z sa sb r:Int} {root:Nat→Int} (hk:keyB b h0 k1 k2=true) (hm:msgB b.gr a=true) (hr:0≤r∧r<b.gr.q) (he:crtE b a z sa sb=0) (hc:crtC b a root z sa sb≠0) :
  verR b h0 k1 k2 a root z sa sb r=eqsB b h0 a z sa sb r (crtC b a root z sa sb):=by
 rw [crtC_n he] at hc ⊢
 unfold verR scaB
 simp [hk,hm,(crtE_0 he).2.2,hr.1,hr.2,hc]
theorem ver_r {b:Bas} {h0 k1 k2 a z sa sb r:Int} {root:Nat→Int} (hk:keyB b h0 k1 k2=true) (hm:msgB b.gr a=true) (he:elsB b.gr z sa sb=true) (hr:0≤r∧r<b.gr.q) :
  verR b h0 k1 k2 a root z sa sb r=(crtN b a root z sa sb != 0&&eqsB b h0 a z sa sb r (crtN b a root z sa sb)):=by
 unfold verR scaB
 simp [hk,hm,he,hr.1,hr.2]
theorem mod_bnd {G:Grp} (h:G.Ok) (x:Int):0≤x%G.p∧x%G.p<G.p:=by
 have h3:=h.p3
 exact ⟨Int.emod_nonneg _ (by omega),Int.emod_lt_of_pos _ (by omega)⟩
theorem sca_0 {G:Grp} {r:Int} (h:¬r≥0∨¬r<G.q):scaB G r=false:=by
 unfold scaB
 rcases h with h|h<;>simp<;>omega
end Go.Sp

namespace Go.Proofs.YtdaaddkipdmajaaGreatDoor
open Go Go.Am Go.Sp
set_option maxRecDepth 100000

theorem encU_c (L : List It) (n : Nat) (F : Nat → Nat → AV) (hn : n = L.length) (hF : ∀ i k, i < n → k < 4 → Ent [] (F i k) (atL (L.getD i (.int 0)).cells k)) (h : (lsI L).okD 8 = true) (hl : (lsI L).enc.length ≤ 16384) :
    Pure Tryz.prog gl0 136 [.agg [.int .i64 3, .int .i64 0, .nsl, .isl 4 n F]] (.tup [il .u8 (lsI L).enc, .int .i64 0]) := (encode_c (lsI L) h hl).via ⟨liU_out hn hF, trivial⟩

theorem rencU_c (L : List It) (n : Nat) (F : Nat → Nat → AV) (hn : n = L.length) (hF : ∀ i k, i < n → k < 4 → Ent [] (F i k) (atL (L.getD i (.int 0)).cells k)) (hl : (lsI L).enc.length ≤ 16384) :
    Pure Tryz.prog gl0 124 [.agg [.int .i64 3, .int .i64 0, .nsl, .isl 4 n F]] (il .u8 (lsI L).enc) := (renc_c (lsI L) (by omega)).via ⟨liU_out hn hF, trivial⟩

theorem crt_c (b : Bas) (a : Int) (root : Nat → Int) (z sa sb r : Int) (hw : b.gr.W) (hr : byB root 32) : Pure Tryz.prog gl0 209 [b.av, .int .i64 a, .agg (u8c root), .agg [.int .i64 z, .int .i64 sa, .int .i64 sb, .int .i64 r]] (crtV b a root z sa sb) := by
  have hE := elemsR_c b a z sa sb hw
  have he := fun n F hn hF => encU_c (crtJ b a root z sa sb) n F hn hF (crtI_ok b a z sa sb root) (by rw [show (lsI (crtJ b a root z sa sb)).enc.length = 132 from crtI_len b a z sa sb root]; decide)
  have ht := tagged_c "specie/coin".toUTF8 (by decide) (by decide) (fun k => (crtI b a root z sa sb).enc.getD k 0) (crtI b a root z sa sb).enc.length (by rw [crtI_len]; decide) (It.enc_by (crtI_okB hr))
  have hn := fun h1 h2 => number_c (tagI "specie/coin".toUTF8 (crtI b a root z sa sb)) b.gr.q h1 h2 (tagI_by _ _ _)
  refine pure_sk (own := ow0) Tryz.func209 (by kernel_rfl) mixed (by kernel_rfl)
    (.sc (true) 52 ([AV.agg (Bas.cells b)]) (AV.bool (validB b)) (.br (!validB b) (.out (AV.tup [Zi 0, Zi 1]) [] (crtV b a root z sa sb) []) (.sc (true) 247 ([AV.agg (Bas.cells b), AV.isl 1 4 fun (r k : Nat) => atL (List.getD [[Zi a], [Zi z], [Zi sa], [Zi sb]] (r + 0) []) k]) (AV.bool (elemB (Bas.gr b) a && elsB (Bas.gr b) z sa sb)) (.br (!(elemB b.1 a && elsB b.1 z sa sb)) (.out (AV.tup [Zi 0, Zi 2]) [] (crtV b a root z sa sb) []) (.loop ({ x : Nat // x ≤ 7 }) (fun (x : { x : Nat // x ≤ 7 }) => mkSt [4, 6, 7, 10, 49, 50, 51] [AV.own 0 6 0 0 6, AV.own 1 32 0 0 32, AV.own 2 4 0 0 4, AV.own 3 4 0 0 4, AV.osl 4 1 0 7, Zi (↑(7) : Int), Zi (↑(x.1) : Int)] [some ⟨6, 1, true, Rep.lst [Bas.cells b]⟩, some ⟨32, 1, true, Rep.lst [u8c root]⟩, some ⟨4, 1, true, Rep.lst [[Zi z, Zi sa, Zi sb, Zi r]]⟩, some ⟨4, 1, true, Rep.lst [[Zi 3, Zi 0, AV.nsl, AV.osl 5 4 0 (x.1)]]⟩, some ⟨1, 7, true, Rep.fn fun (i x : Nat) => Zi (crtL b a i)⟩, some ⟨4, x.1, true, Rep.row fun (i : Nat) => It.cells (It.int (crtL b a i))⟩]) (fun (x : { x : Nat // x ≤ 7 }) => 7 - x.1) (⟨0, Nat.zero_le 7⟩) ([4, 6, 7, 10, 49, 50, 51]) ([0, 8, 16, 176, 320, 1373]) ([AV.own 0 6 0 0 6, AV.own 1 32 0 0 32, AV.own 2 4 0 0 4, AV.own 3 4 0 0 4, AV.osl 4 1 0 7, Zi (↑(7) : Int), Zi 0]) ([some ⟨6, 1, true, Rep.lst [Bas.cells b]⟩, some ⟨32, 1, true, Rep.lst [u8c root]⟩, some ⟨4, 1, true, Rep.lst [[Zi z, Zi sa, Zi sb, Zi r]]⟩, some ⟨4, 1, true, Rep.lst [[Zi 3, Zi 0, AV.nsl, AV.nsl]]⟩, some ⟨1, 7, true, Rep.lst [[Zi (Grp.p (Bas.gr b))], [Zi (Grp.q (Bas.gr b))], [Zi (Grp.g (Bas.gr b))], [Zi (Bas.g1 b)], [Zi (Bas.g2 b)], [Zi (Bas.h b)], [Zi a]]⟩, some ⟨4, 0, true, Rep.lst []⟩]) (fun x6 => (.br (decide ((↑x6.1 : Int) < (↑(7) : Int))) (.req ((0 : Int) ≤ (↑x6.1 : Int) ∧ (↑x6.1 : Int) < (↑(7) : Int)) (.dc (true) 248 ([Zi (crtL b a (Int.toNat (↑x6.1 : Int) + 0))]) (It.av (It.int (crtL b a (Int.toNat (↑x6.1 : Int) + 0)))) (.req ((x6.1 + 1) * 64 ≤ 140737488355328) (.again (Again 0 (fun (x : { x : Nat // x ≤ 7 }) => mkSt [4, 6, 7, 10, 49, 50, 51] [AV.own 0 6 0 0 6, AV.own 1 32 0 0 32, AV.own 2 4 0 0 4, AV.own 3 4 0 0 4, AV.osl 4 1 0 7, Zi (↑(7) : Int), Zi (↑(x.1) : Int)] [some ⟨6, 1, true, Rep.lst [Bas.cells b]⟩, some ⟨32, 1, true, Rep.lst [u8c root]⟩, some ⟨4, 1, true, Rep.lst [[Zi z, Zi sa, Zi sb, Zi r]]⟩, some ⟨4, 1, true, Rep.lst [[Zi 3, Zi 0, AV.nsl, AV.osl 5 4 0 (x.1)]]⟩, some ⟨1, 7, true, Rep.fn fun (i x : Nat) => Zi (crtL b a i)⟩, some ⟨4, x.1, true, Rep.row fun (i : Nat) => It.cells (It.int (crtL b a i))⟩]) (fun (x : { x : Nat // x ≤ 7 }) => 7 - x.1) x6) ([4, 6, 7, 10, 49, 50, 51]) ([0, 1, 2, 3, 4, 78]) ([AV.own 0 6 0 0 6, AV.own 1 32 0 0 32, AV.own 2 4 0 0 4, AV.own 3 4 0 0 4, AV.osl 4 1 0 7, Zi (↑(7) : Int), Zi (IntKind.wrap IntKind.i64 ((↑x6.1 : Int) + 1))]) ([some ⟨6, 1, true, Rep.lst [Bas.cells b]⟩, some ⟨32, 1, true, Rep.lst [u8c root]⟩, some ⟨4, 1, true, Rep.lst [[Zi z, Zi sa, Zi sb, Zi r]]⟩, some ⟨4, 1, true, Rep.lst [[Zi 3, Zi 0, AV.nsl, AV.osl 5 4 0 (x6.1 + 1)]]⟩, some ⟨1, 7, true, Rep.fn fun (i j : Nat) => Zi (crtL b a i)⟩, some ⟨4, x6.1 + 1, true, Rep.cat x6.1 (Rep.row fun (i : Nat) => [Zi (It.kind (It.int (crtL b a i))), Zi (It.num (It.int (crtL b a i))), AV.isl 1 0 fun (i_1 x : Nat) => Zb (It.fb (It.int (crtL b a i)) i_1), AV.isl 4 0 (It.row (It.int (crtL b a i)))]) (Rep.lst [[Zi (It.kind (It.int (crtL b a (Int.toNat (↑x6.1 : Int) + 0)))), Zi (It.num (It.int (crtL b a (Int.toNat (↑x6.1 : Int) + 0)))), AV.isl 1 0 fun (i x : Nat) => Zb (It.fb (It.int (crtL b a (Int.toNat (↑x6.1 : Int) + 0))) i), AV.isl 4 0 (It.row (It.int (crtL b a (Int.toNat (↑x6.1 : Int) + 0))))]])⟩]))))) (.dc (true) 248 ([Zi z]) (It.av (It.int z)) (.dc (true) 248 ([Zi sa]) (It.av (It.int sa)) (.dc (true) 248 ([Zi sb]) (It.av (It.int sb)) (.req ((x6.1 + 4) * 64 ≤ 140737488355328) (.dc (true) 136 ([AV.agg [Zi 3, Zi 0, AV.nsl, AV.isl 4 (x6.1 + 4) fun (r k : Nat) => mixA (Nat.blt (r + 0) x6.1) (atL [Zi (It.kind (It.int (crtL b a (r + 0)))), Zi (It.num (It.int (crtL b a (r + 0)))), AV.isl 1 0 fun (i x : Nat) => Zb (It.fb (It.int (crtL b a (r + 0))) i), AV.isl 4 0 (It.row (It.int (crtL b a (r + 0))))] k) (atL (List.getD [[Zi 2, Zi 0, AV.isl 1 32 fun (r x : Nat) => Zb (intOfAV (atL (u8c root) (0 + (0 + r)))), AV.nsl], [Zi (It.kind (It.int z)), Zi (It.num (It.int z)), AV.isl 1 0 fun (i x : Nat) => Zb (It.fb (It.int z) i), AV.isl 4 0 (It.row (It.int z))], [Zi (It.kind (It.int sa)), Zi (It.num (It.int sa)), AV.isl 1 0 fun (i x : Nat) => Zb (It.fb (It.int sa) i), AV.isl 4 0 (It.row (It.int sa))], [Zi (It.kind (It.int sb)), Zi (It.num (It.int sb)), AV.isl 1 0 fun (i x : Nat) => Zb (It.fb (It.int sb) i), AV.isl 4 0 (It.row (It.int sb))]] (r + 0 - x6.1) []) k)]]) (AV.tup [il IntKind.u8 (It.enc (lsI (crtJ b a root z sa sb))), Zi 0]) (.ff (.sc (true) 149 ([AV.str { data := #[(115 : UInt8), (112 : UInt8), (101 : UInt8), (99 : UInt8), (105 : UInt8), (101 : UInt8), (47 : UInt8), (99 : UInt8), (111 : UInt8), (105 : UInt8), (110 : UInt8)] }, AV.isl 1 132 fun (i x : Nat) => Zb (List.getD (It.enc (lsI (crtJ b a root z sa sb))) i (0 : Int))]) (AV.tup [AV.agg (u8c (tagF (String.toUTF8 "specie/coin") (List.length (It.enc (crtI b a root z sa sb))) fun (k : Nat) => List.getD (It.enc (crtI b a root z sa sb)) k (0 : Int))), Zi 0]) (.ff (.sc (true) 150 ([AV.agg (u8c (tagF (String.toUTF8 "specie/coin") 132 fun (k : Nat) => List.getD (It.enc (crtI b a root z sa sb)) k (0 : Int))), Zi (Bas.gr b).2]) (AV.tup [Zi (numF (tagI (String.toUTF8 "specie/coin") (crtI b a root z sa sb)) (Grp.q (Bas.gr b)) 16), Zi 0]) (.out (AV.tup [Zi (numF (tagI (String.toUTF8 "specie/coin") (crtI b a root z sa sb)) (Bas.gr b).2 16), Zi 0]) [] (crtV b a root z sa sb) [])))))))))))))))))
    (by kernel_rfl) ?_
  refine k_sc ((bvalid_c b) (by assumption)) ?_
  refine k_br (fun h1 => ?_) (fun h1 => ?_)
  · have g1 := (cnd_not_t cnd_id_f) h1
    exact k_out (by exact Ent.of_eq (crt_1 g1))
  · have g1 := (cnd_not_f cnd_id_t) h1
    refine k_sc (hE) ?_
    refine k_br (fun h4 => ?_) (fun h4 => ?_)
    · have g4 := (cnd_not_t (cnd_and_f cnd_id_f cnd_id_f)) h4
      exact k_out (by exact Ent.of_eq (crt_2 g1 g4))
    · have g4 := (cnd_not_f (cnd_and_t cnd_id_t cnd_id_t)) h4
      refine k_loop (fun _ hs => hs.le (⟨.refl _, .refl _, .refl _, .refl _, .refl _, .refl _, .refl _, trivial⟩) (⟨.refl _, .refl _, .refl _, by exact ObEnt.row (by repeat' (first | exact trivial | (first | exact Ent.refl _ | exact inc_ent (by omega) | exact Ent.nil rfl | exact Ent.of_eq (congrArg (AV.osl _ _ _) (by first | omega | (dsimp only; omega))) | exact Ent.of_eq (congrArg (AV.int _) (by first | omega | (dsimp only; omega)))) | refine And.intro ?_ ?_)), crtL_ob, .zero, trivial⟩)) (fun x6 => ?_)
      try (have q6 := x6.2; dsimp only at q6)
      refine k_br (fun h7 => ?_) (fun h7 => ?_)
      · have g7 := cnd_dec_t h7
        refine k_req (by omega) ?_
        refine k_dc (numI_c (crtL b a (Int.toNat (↑x6.1 : Int) + 0))) ?_
        refine k_req (by omega) ?_
        exact k_again (⟨x6.1 + 1, by omega⟩) (fun _ hs => hs.le (⟨.refl _, .refl _, .refl _, .refl _, .refl _, .refl _, inc_ent (by omega), trivial⟩) (⟨.refl _, .refl _, .refl _, .refl _, .refl _, .pushRow rfl, trivial⟩)) (by dsimp only; omega)
      · have g7 := cnd_dec_f h7
        refine k_dc (numI_c (z)) ?_
        refine k_dc (numI_c (sa)) ?_
        refine k_dc (numI_c (sb)) ?_
        refine k_req (by omega) ?_
        refine k_dc (he (x6.1 + 4) (fun (r k : Nat) => mixA (Nat.blt (r + 0) x6.1) (atL [Zi (It.kind (It.int (crtL b a (r + 0)))), Zi (It.num (It.int (crtL b a (r + 0)))), AV.isl (1) (0) fun (i x : Nat) => Zb (It.fb (It.int (crtL b a (r + 0))) i), AV.isl (4) (0) (It.row (It.int (crtL b a (r + 0))))] k) (atL (List.getD [[Zi 2, Zi 0, AV.isl (1) (32) fun (r x : Nat) => Zb (intOfAV (atL (u8c root) (0 + (0 + r)))), AV.nsl], [Zi (It.kind (It.int z)), Zi (It.num (It.int z)), AV.isl (1) (0) fun (i x : Nat) => Zb (It.fb (It.int z) i), AV.isl (4) (0) (It.row (It.int z))], [Zi (It.kind (It.int sa)), Zi (It.num (It.int sa)), AV.isl (1) (0) fun (i x : Nat) => Zb (It.fb (It.int sa) i), AV.isl (4) (0) (It.row (It.int sa))], [Zi (It.kind (It.int sb)), Zi (It.num (It.int sb)), AV.isl (1) (0) fun (i x : Nat) => Zb (It.fb (It.int sb) i), AV.isl (4) (0) (It.row (It.int sb))]] (r + 0 - x6.1) []) k)) (by (show _ = 11; omega)) (by exact fun i k hi _ => crtF_ok (by omega) hi)) ?_
        refine k_ff ?_
        refine k_sc (ht) ?_
        refine k_ff ?_
        refine k_sc (hn (by exact (validB_q g1).1) (by exact (validB_q g1).2)) ?_
        exact k_out (by exact Ent.of_eq (crt_3 g1 g4))


theorem rcrt_c (b : Bas) (a : Int) (root : Nat → Int) (z sa sb r : Int) (hr : byB root 32) (hq : 0 < b.gr.q) (hq' : b.gr.q < 2305843009213693952) : Pure Tryz.prog gl0 165 [b.av, .int .i64 a, .agg (u8c root), .agg [.int .i64 z, .int .i64 sa, .int .i64 sb, .int .i64 r]] (.int .i64 (crtN b a root z sa sb)) := by
  have he := fun n F hn hF => rencU_c (crtJ b a root z sa sb) n F hn hF (by rw [show (lsI (crtJ b a root z sa sb)).enc.length = 132 from crtI_len b a z sa sb root]; decide)
  have ht := rtagged_c "specie/coin".toUTF8 (by decide) (fun k => (crtI b a root z sa sb).enc.getD k 0) (crtI b a root z sa sb).enc.length (by rw [crtI_len]; decide) (It.enc_by (crtI_okB hr))
  have hn := rnumber_c (tagI "specie/coin".toUTF8 (crtI b a root z sa sb)) b.gr.q hq hq' (tagI_by _ _ _)
  refine pure_sk (own := ow0) Tryz.func165 (by kernel_rfl) mixed (by kernel_rfl)
    (.dc (true) 220 ([AV.agg (Bas.cells b)]) (AV.isl 1 6 fun (i x : Nat) => Zi (crtL b (0 : Int) i)) (.loop ({ x : Nat // x ≤ 6 }) (fun (x : { x : Nat // x ≤ 6 }) => mkSt [1, 4, 6, 7, 9, 10, 11] [Zi a, AV.own 0 6 0 0 6, AV.own 1 32 0 0 32, AV.own 2 4 0 0 4, AV.isl 1 6 fun (i x : Nat) => Zi (crtL b (0 : Int) i), AV.own 3 4 0 0 4, Zi (↑(x.1) : Int)] [some ⟨6, 1, true, Rep.lst [Bas.cells b]⟩, some ⟨32, 1, true, Rep.lst [u8c root]⟩, some ⟨4, 1, true, Rep.lst [[Zi z, Zi sa, Zi sb, Zi r]]⟩, some ⟨4, 1, true, Rep.lst [[Zi 3, Zi 0, AV.nsl, AV.osl 4 4 0 (x.1)]]⟩, some ⟨4, x.1, true, Rep.row fun (i : Nat) => It.cells (It.int (crtL b (0 : Int) i))⟩]) (fun (x : { x : Nat // x ≤ 6 }) => 6 - x.1) (⟨0, Nat.zero_le 6⟩) ([1, 4, 6, 7, 9, 10, 11]) ([0, 8, 16, 64, 1116]) ([Zi a, AV.own 0 6 0 0 6, AV.own 1 32 0 0 32, AV.own 2 4 0 0 4, AV.isl 1 6 fun (i x : Nat) => Zi (crtL b (0 : Int) i), AV.own 3 4 0 0 4, Zi 0]) ([some ⟨6, 1, true, Rep.lst [Bas.cells b]⟩, some ⟨32, 1, true, Rep.lst [u8c root]⟩, some ⟨4, 1, true, Rep.lst [[Zi z, Zi sa, Zi sb, Zi r]]⟩, some ⟨4, 1, true, Rep.lst [[Zi 3, Zi 0, AV.nsl, AV.nsl]]⟩, some ⟨4, 0, true, Rep.lst []⟩]) (fun x1 => (.br (decide ((↑x1.1 : Int) < (↑(6) : Int))) (.req ((0 : Int) ≤ (↑x1.1 : Int) ∧ (↑x1.1 : Int) < (↑(6) : Int)) (.dc (true) 221 ([Zi (crtL b (0 : Int) (Int.toNat (↑x1.1 : Int)))]) (It.av (It.int (crtL b (0 : Int) (Int.toNat (↑x1.1 : Int))))) (.req ((x1.1 + 1) * 64 ≤ 140737488355328) (.again (Again 0 (fun (x : { x : Nat // x ≤ 6 }) => mkSt [1, 4, 6, 7, 9, 10, 11] [Zi a, AV.own 0 6 0 0 6, AV.own 1 32 0 0 32, AV.own 2 4 0 0 4, AV.isl 1 6 fun (i x : Nat) => Zi (crtL b (0 : Int) i), AV.own 3 4 0 0 4, Zi (↑(x.1) : Int)] [some ⟨6, 1, true, Rep.lst [Bas.cells b]⟩, some ⟨32, 1, true, Rep.lst [u8c root]⟩, some ⟨4, 1, true, Rep.lst [[Zi z, Zi sa, Zi sb, Zi r]]⟩, some ⟨4, 1, true, Rep.lst [[Zi 3, Zi 0, AV.nsl, AV.osl 4 4 0 (x.1)]]⟩, some ⟨4, x.1, true, Rep.row fun (i : Nat) => It.cells (It.int (crtL b (0 : Int) i))⟩]) (fun (x : { x : Nat // x ≤ 6 }) => 6 - x.1) x1) ([1, 4, 6, 7, 9, 10, 11]) ([0, 1, 2, 3, 101]) ([Zi a, AV.own 0 6 0 0 6, AV.own 1 32 0 0 32, AV.own 2 4 0 0 4, AV.isl 1 6 fun (i x : Nat) => Zi (crtL b (0 : Int) i), AV.own 3 4 0 0 4, Zi (IntKind.wrap IntKind.i64 ((↑x1.1 : Int) + 1))]) ([some ⟨6, 1, true, Rep.lst [Bas.cells b]⟩, some ⟨32, 1, true, Rep.lst [u8c root]⟩, some ⟨4, 1, true, Rep.lst [[Zi z, Zi sa, Zi sb, Zi r]]⟩, some ⟨4, 1, true, Rep.lst [[Zi 3, Zi 0, AV.nsl, AV.osl 4 4 0 (x1.1 + 1)]]⟩, some ⟨4, x1.1 + 1, true, Rep.cat x1.1 (Rep.row fun (i : Nat) => [Zi (It.kind (It.int (crtL b (0 : Int) i))), Zi (It.num (It.int (crtL b (0 : Int) i))), AV.isl 1 0 fun (i_1 x : Nat) => Zb (It.fb (It.int (crtL b (0 : Int) i)) i_1), AV.isl 4 0 (It.row (It.int (crtL b (0 : Int) i)))]) (Rep.lst [[Zi (It.kind (It.int (crtL b (0 : Int) (Int.toNat (↑x1.1 : Int))))), Zi (It.num (It.int (crtL b (0 : Int) (Int.toNat (↑x1.1 : Int))))), AV.isl 1 0 fun (i x : Nat) => Zb (It.fb (It.int (crtL b (0 : Int) (Int.toNat (↑x1.1 : Int)))) i), AV.isl 4 0 (It.row (It.int (crtL b (0 : Int) (Int.toNat (↑x1.1 : Int)))))]])⟩]))))) (.loop ({ x : Nat // x ≤ 32 }) (fun (x : { x : Nat // x ≤ 32 }) => mkSt [1, 4, 6, 7, 10, 12, 13] [Zi a, AV.own 0 6 0 0 6, AV.own 1 32 0 0 32, AV.own 2 4 0 0 4, AV.own 3 4 0 0 4, AV.own 4 4 0 0 4, Zi (↑(x.1) : Int)] [some ⟨6, 1, true, Rep.lst [Bas.cells b]⟩, some ⟨32, 1, true, Rep.lst [u8c root]⟩, some ⟨4, 1, true, Rep.lst [[Zi z, Zi sa, Zi sb, Zi r]]⟩, some ⟨4, 1, true, Rep.lst [[Zi 3, Zi 0, AV.nsl, AV.osl 5 4 0 x1.1]]⟩, some ⟨4, 1, true, Rep.lst [[Zi 2, Zi 0, AV.osl 6 1 0 (x.1), AV.nsl]]⟩, some ⟨4, x1.1, true, Rep.row fun (i : Nat) => [Zi (It.kind (It.int (crtL b (0 : Int) i))), Zi (It.num (It.int (crtL b (0 : Int) i))), AV.isl 1 0 fun (i_1 x : Nat) => Zb (It.fb (It.int (crtL b (0 : Int) i)) i_1), AV.isl 4 0 (It.row (It.int (crtL b (0 : Int) i)))]⟩, some ⟨1, x.1, true, Rep.fn fun (i x : Nat) => Zb (root i)⟩]) (fun (x : { x : Nat // x ≤ 32 }) => 32 - x.1) (⟨0, Nat.zero_le 32⟩) ([1, 4, 6, 7, 10, 12, 13]) ([0, 1, 2, 3, 45, 4, 331]) ([Zi a, AV.own 0 6 0 0 6, AV.own 1 32 0 0 32, AV.own 2 4 0 0 4, AV.own 3 4 0 0 4, AV.own 4 4 0 0 4, Zi 0]) ([some ⟨6, 1, true, Rep.lst [Bas.cells b]⟩, some ⟨32, 1, true, Rep.lst [u8c root]⟩, some ⟨4, 1, true, Rep.lst [[Zi z, Zi sa, Zi sb, Zi r]]⟩, some ⟨4, 1, true, Rep.lst [[Zi 3, Zi 0, AV.nsl, AV.osl 5 4 0 x1.1]]⟩, some ⟨4, 1, true, Rep.lst [[Zi 2, Zi 0, AV.nsl, AV.nsl]]⟩, some ⟨4, x1.1, true, Rep.row fun (i : Nat) => [Zi (It.kind (It.int (crtL b (0 : Int) i))), Zi (It.num (It.int (crtL b (0 : Int) i))), AV.isl 1 0 fun (i_1 x : Nat) => Zb (It.fb (It.int (crtL b (0 : Int) i)) i_1), AV.isl 4 0 (It.row (It.int (crtL b (0 : Int) i)))]⟩, some ⟨1, 0, true, Rep.lst []⟩]) (fun x7 => (.br (decide ((↑x7.1 : Int) < 32)) (.req ((0 : Int) ≤ (↑x7.1 : Int) ∧ (↑x7.1 : Int) < (↑(32) : Int)) (.req ((x7.1 + 1) * 1 ≤ 140737488355328) (.again (Again 0 (fun (x : { x : Nat // x ≤ 32 }) => mkSt [1, 4, 6, 7, 10, 12, 13] [Zi a, AV.own 0 6 0 0 6, AV.own 1 32 0 0 32, AV.own 2 4 0 0 4, AV.own 3 4 0 0 4, AV.own 4 4 0 0 4, Zi (↑(x.1) : Int)] [some ⟨6, 1, true, Rep.lst [Bas.cells b]⟩, some ⟨32, 1, true, Rep.lst [u8c root]⟩, some ⟨4, 1, true, Rep.lst [[Zi z, Zi sa, Zi sb, Zi r]]⟩, some ⟨4, 1, true, Rep.lst [[Zi 3, Zi 0, AV.nsl, AV.osl 5 4 0 x1.1]]⟩, some ⟨4, 1, true, Rep.lst [[Zi 2, Zi 0, AV.osl 6 1 0 (x.1), AV.nsl]]⟩, some ⟨4, x1.1, true, Rep.row fun (i : Nat) => [Zi (It.kind (It.int (crtL b (0 : Int) i))), Zi (It.num (It.int (crtL b (0 : Int) i))), AV.isl 1 0 fun (i_1 x : Nat) => Zb (It.fb (It.int (crtL b (0 : Int) i)) i_1), AV.isl 4 0 (It.row (It.int (crtL b (0 : Int) i)))]⟩, some ⟨1, x.1, true, Rep.fn fun (i x : Nat) => Zb (root i)⟩]) (fun (x : { x : Nat // x ≤ 32 }) => 32 - x.1) x7) ([1, 4, 6, 7, 10, 12, 13]) ([0, 1, 2, 3, 4, 5, 71]) ([Zi a, AV.own 0 6 0 0 6, AV.own 1 32 0 0 32, AV.own 2 4 0 0 4, AV.own 3 4 0 0 4, AV.own 4 4 0 0 4, Zi (IntKind.wrap IntKind.i64 ((↑x7.1 : Int) + 1))]) ([some ⟨6, 1, true, Rep.lst [Bas.cells b]⟩, some ⟨32, 1, true, Rep.lst [u8c root]⟩, some ⟨4, 1, true, Rep.lst [[Zi z, Zi sa, Zi sb, Zi r]]⟩, some ⟨4, 1, true, Rep.lst [[Zi 3, Zi 0, AV.nsl, AV.osl 5 4 0 x1.1]]⟩, some ⟨4, 1, true, Rep.lst [[Zi 2, Zi 0, AV.osl 6 1 0 (x7.1 + 1), AV.nsl]]⟩, some ⟨4, x1.1, true, Rep.row fun (i : Nat) => [Zi (It.kind (It.int (crtL b (0 : Int) i))), Zi (It.num (It.int (crtL b (0 : Int) i))), AV.isl 1 0 fun (i_1 x : Nat) => Zb (It.fb (It.int (crtL b (0 : Int) i)) i_1), AV.isl 4 0 (It.row (It.int (crtL b (0 : Int) i)))]⟩, some ⟨1, x7.1 + 1, true, Rep.fn fun (i j : Nat) => Zb (bif Nat.blt i x7.1 then root i else intOfAV (atL [Zb (intOfAV (Rep.at (Ob.f (Ob.seen ⟨32, 1, true, Rep.lst [u8c root]⟩)) 0 (0 + Int.toNat (↑(x7.1) : Int))))] j))⟩])))) (.dc (true) 221 ([Zi a]) (It.av (It.int a)) (.dc (true) 221 ([Zi z]) (It.av (It.int z)) (.dc (true) 221 ([Zi sa]) (It.av (It.int sa)) (.dc (true) 221 ([Zi sb]) (It.av (It.int sb)) (.req ((x1.1 + 5) * 64 ≤ 140737488355328) (.dc (true) 124 ([AV.agg [Zi 3, Zi 0, AV.nsl, AV.isl 4 (x1.1 + 5) fun (r k : Nat) => mixA (Nat.blt (r + 0) x1.1) (atL [Zi (It.kind (It.int (crtL b (0 : Int) (r + 0)))), Zi (It.num (It.int (crtL b (0 : Int) (r + 0)))), AV.isl 1 0 fun (i x : Nat) => Zb (It.fb (It.int (crtL b (0 : Int) (r + 0))) i), AV.isl 4 0 (It.row (It.int (crtL b (0 : Int) (r + 0))))] k) (atL (List.getD [[Zi (It.kind (It.int a)), Zi (It.num (It.int a)), AV.isl 1 0 fun (i x : Nat) => Zb (It.fb (It.int a) i), AV.isl 4 0 (It.row (It.int a))], [Zi 2, Zi 0, AV.isl 1 x7.1 fun (r k : Nat) => Zb (root (r + 0)), AV.nsl], [Zi (It.kind (It.int z)), Zi (It.num (It.int z)), AV.isl 1 0 fun (i x : Nat) => Zb (It.fb (It.int z) i), AV.isl 4 0 (It.row (It.int z))], [Zi (It.kind (It.int sa)), Zi (It.num (It.int sa)), AV.isl 1 0 fun (i x : Nat) => Zb (It.fb (It.int sa) i), AV.isl 4 0 (It.row (It.int sa))], [Zi (It.kind (It.int sb)), Zi (It.num (It.int sb)), AV.isl 1 0 fun (i x : Nat) => Zb (It.fb (It.int sb) i), AV.isl 4 0 (It.row (It.int sb))]] (r + 0 - x1.1) []) k)]]) (il IntKind.u8 (It.enc (lsI (crtJ b a root z sa sb)))) (.sc (true) 123 ([AV.str { data := #[(115 : UInt8), (112 : UInt8), (101 : UInt8), (99 : UInt8), (105 : UInt8), (101 : UInt8), (47 : UInt8), (99 : UInt8), (111 : UInt8), (105 : UInt8), (110 : UInt8)] }, AV.isl 1 132 fun (i x : Nat) => Zb (List.getD (It.enc (lsI (crtJ b a root z sa sb))) i (0 : Int))]) (AV.agg (u8c (tagF (String.toUTF8 "specie/coin") (List.length (It.enc (crtI b a root z sa sb))) fun (k : Nat) => List.getD (It.enc (crtI b a root z sa sb)) k (0 : Int)))) (.sc (true) 122 ([AV.agg (u8c (tagF (String.toUTF8 "specie/coin") 132 fun (k : Nat) => List.getD (It.enc (crtI b a root z sa sb)) k (0 : Int))), Zi (Bas.gr b).2]) (Zi (numF (tagI (String.toUTF8 "specie/coin") (crtI b a root z sa sb)) (Grp.q (Bas.gr b)) 16)) (.out (Zi (numF (tagI (String.toUTF8 "specie/coin") (crtI b a root z sa sb)) (Bas.gr b).2 16)) [] (Zi (crtN b a root z sa sb)) []))))))))))))))))
    (by kernel_rfl) ?_
  refine k_dc ((rNumbers_c b)) ?_
  refine k_loop (fun _ hs => hs.le (⟨.refl _, .refl _, .refl _, .refl _, .refl _, .refl _, .refl _, trivial⟩) (by repeat' (first | exact trivial | (first | exact ObEnt.refl _ | exact ObEnt.junk | exact ObEnt.zero | exact ObEnt.push rfl rfl | exact ObEnt.pushRow rfl | exact ObEnt.len (by omega) | exact ObEnt.row (by repeat' (first | exact trivial | (first | exact Ent.refl _ | exact inc_ent (by omega) | exact Ent.nil rfl | exact Ent.of_eq (congrArg (AV.osl _ _ _) (by first | omega | (dsimp only; omega))) | exact Ent.of_eq (congrArg (AV.int _) (by first | omega | (dsimp only; omega)))) | refine And.intro ?_ ?_))) | refine And.intro ?_ ?_))) (fun x1 => ?_)
  try (have q1 := x1.2; dsimp only at q1)
  refine k_br (fun h2 => ?_) (fun h2 => ?_)
  · have g2 := cnd_dec_t h2
    refine k_req (by omega) ?_
    refine k_dc (rnumI_c (crtL b (0 : Int) (Int.toNat (↑x1.1 : Int)))) ?_
    refine k_req (by omega) ?_
    exact k_again (⟨x1.1 + 1, by omega⟩) (fun _ hs => hs.le (⟨.refl _, .refl _, .refl _, .refl _, .refl _, .refl _, inc_ent (by omega), trivial⟩) (⟨.refl _, .refl _, .refl _, .refl _, .pushRow rfl, trivial⟩)) (by dsimp only; omega)
  · have g2 := cnd_dec_f h2
    refine k_loop (fun _ hs => hs.le (⟨.refl _, .refl _, .refl _, .refl _, .refl _, .refl _, .refl _, trivial⟩) (by repeat' (first | exact trivial | (first | exact ObEnt.refl _ | exact ObEnt.junk | exact ObEnt.zero | exact ObEnt.push rfl rfl | exact ObEnt.pushRow rfl | exact ObEnt.len (by omega) | exact ObEnt.row (by repeat' (first | exact trivial | (first | exact Ent.refl _ | exact inc_ent (by omega) | exact Ent.nil rfl | exact Ent.of_eq (congrArg (AV.osl _ _ _) (by first | omega | (dsimp only; omega))) | exact Ent.of_eq (congrArg (AV.int _) (by first | omega | (dsimp only; omega)))) | refine And.intro ?_ ?_))) | refine And.intro ?_ ?_))) (fun x7 => ?_)
    try (have q7 := x7.2; dsimp only at q7)
    refine k_br (fun h8 => ?_) (fun h8 => ?_)
    · have g8 := cnd_dec_t h8
      refine k_req (by omega) ?_
      refine k_req (by omega) ?_
      exact k_again (⟨x7.1 + 1, by omega⟩) (fun _ hs => hs.le (⟨.refl _, .refl _, .refl _, .refl _, .refl _, .refl _, inc_ent (by omega), trivial⟩) (⟨.refl _, .refl _, .refl _, .refl _, .refl _, .refl _, root_push rfl (rootc_at (by omega)), trivial⟩)) (by dsimp only; omega)
    · have g8 := cnd_dec_f h8
      refine k_dc (rnumI_c (a)) ?_
      refine k_dc (rnumI_c (z)) ?_
      refine k_dc (rnumI_c (sa)) ?_
      refine k_dc (rnumI_c (sb)) ?_
      refine k_req (by omega) ?_
      refine k_dc (he (x1.1 + 5) (fun (r k : Nat) => mixA (Nat.blt (r + 0) x1.1) (atL [Zi (It.kind (It.int (crtL b (0 : Int) (r + 0)))), Zi (It.num (It.int (crtL b (0 : Int) (r + 0)))), AV.isl (1) (0) fun (i x : Nat) => Zb (It.fb (It.int (crtL b (0 : Int) (r + 0))) i), AV.isl (4) (0) (It.row (It.int (crtL b (0 : Int) (r + 0))))] k) (atL (List.getD [[Zi (It.kind (It.int a)), Zi (It.num (It.int a)), AV.isl (1) (0) fun (i x : Nat) => Zb (It.fb (It.int a) i), AV.isl (4) (0) (It.row (It.int a))], [Zi 2, Zi 0, AV.isl (1) x7.1 fun (r k : Nat) => Zb (root (r + 0)), AV.nsl], [Zi (It.kind (It.int z)), Zi (It.num (It.int z)), AV.isl (1) (0) fun (i x : Nat) => Zb (It.fb (It.int z) i), AV.isl (4) (0) (It.row (It.int z))], [Zi (It.kind (It.int sa)), Zi (It.num (It.int sa)), AV.isl (1) (0) fun (i x : Nat) => Zb (It.fb (It.int sa) i), AV.isl (4) (0) (It.row (It.int sa))], [Zi (It.kind (It.int sb)), Zi (It.num (It.int sb)), AV.isl (1) (0) fun (i x : Nat) => Zb (It.fb (It.int sb) i), AV.isl (4) (0) (It.row (It.int sb))]] (r + 0 - x1.1) []) k)) (by (show _ = 11; omega)) (by exact fun i k hi _ => rcrtF_ok (by omega) (by omega) hi)) ?_
      refine k_sc (ht) ?_
      refine k_sc (hn) ?_
      exact k_out (Ent.of_eq rfl)

theorem verR_c (b : Bas) (k0 k1 k2 a : Int) (root : Nat → Int) (z sa sb r : Int) (hw : b.gr.W) (hr : byB root 32) :
    Pure Tryz.prog gl0 144 [b.av, .agg [.int .i64 k0, .int .i64 k1, .int .i64 k2], .int .i64 a, .agg (u8c root), .agg [.int .i64 z, .int .i64 sa, .int .i64 sb, .int .i64 r]] (.bool (verR b k0 k1 k2 a root z sa sb r)) := by
  have hv := validR_c b k0 k1 k2 hw
  have hm := messageR_c b a hw
  have hs := scalR_c b r
  have hc := crt_c b a root z sa sb r hw hr
  have K : (keyB b k0 k1 k2 = true ∧ msgB b.gr a = true) ∧ 0 ≤ r ∧ r < b.gr.q → crtE b a z sa sb = 0 ∧ ¬ crtC b a root z sa sb = 0 → SigOk b k0 a z sa sb r (crtC b a root z sa sb) := fun u v => sig_okC root u.1.1 u.1.2 v.1 u.2
  refine pure_sk (own := ow0) Tryz.func144 (by kernel_rfl) mixed (by kernel_rfl)
    (let y0 : AV := (AV.bool (verR b k0 k1 k2 a root z sa sb r)); (.sc (true) 206 ([AV.agg (Bas.cells b), AV.agg [Zi k0, Zi k1, Zi k2]]) (AV.bool (keyB b k0 k1 k2)) (.sc ((!keyB b k0 k1 k2) == false) 207 ([AV.agg (Bas.cells b), Zi a]) (AV.bool (msgB (Bas.gr b) a)) (.sc ((!keyB b k0 k1 k2 || !msgB b.1 a) == false) 208 ([AV.agg (Bas.cells b), Zi r]) (AV.bool (decide (r ≥ 0) && decide (r < Grp.q (Bas.gr b)))) (.br (!keyB b k0 k1 k2 || !msgB b.1 a || !(decide (r ≥ 0) && decide (r < (Bas.gr b).2))) (.out (AV.bool false) [] y0 []) (.sc (true) 209 ([AV.agg (Bas.cells b), Zi a, AV.agg (u8c root), AV.agg [Zi z, Zi sa, Zi sb, Zi r]]) (crtV b a root z sa sb) (.br (crtE b a z sa sb != 0 || crtC b a root z sa sb == 0) (.out (AV.bool false) [] y0 []) (.sc (true) 210 ([AV.agg (Bas.cells b), Zi (Bas.gr b).3, Zi r]) (Zi ((Bas.gr b).3 ^ Int.toNat r % Grp.p (Bas.gr b))) (.sc (true) 211 ([AV.agg (Bas.cells b), Zi k0, Zi (crtC b a root z sa sb), Zi sa, Zi 1]) (Zi (k0 ^ Int.toNat (crtC b a root z sa sb) % Grp.p (Bas.gr b) * sa % Grp.p (Bas.gr b))) (.sc (((Bas.gr b).3 ^ Int.toNat r % (Bas.gr b).1 == k0 ^ Int.toNat (crtC b a root z sa sb) % (Bas.gr b).1 * sa % (Bas.gr b).1) == true) 210 ([AV.agg (Bas.cells b), Zi a, Zi r]) (Zi (a ^ Int.toNat r % Grp.p (Bas.gr b))) (.sc (((Bas.gr b).3 ^ Int.toNat r % (Bas.gr b).1 == k0 ^ Int.toNat (crtC b a root z sa sb) % (Bas.gr b).1 * sa % (Bas.gr b).1) == true) 211 ([AV.agg (Bas.cells b), Zi z, Zi (crtC b a root z sa sb), Zi sb, Zi 1]) (Zi (z ^ Int.toNat (crtC b a root z sa sb) % Grp.p (Bas.gr b) * sb % Grp.p (Bas.gr b))) (.out (AV.bool ((Bas.gr b).3 ^ Int.toNat r % (Bas.gr b).1 == k0 ^ Int.toNat (crtC b a root z sa sb) % (Bas.gr b).1 * sa % (Bas.gr b).1 && a ^ Int.toNat r % (Bas.gr b).1 == z ^ Int.toNat (crtC b a root z sa sb) % (Bas.gr b).1 * sb % (Bas.gr b).1)) [] y0 []))))))))))))
    (by kernel_rfl) ?_
  refine k_sc (hv) ?_
  refine k_scg (fun h1 => hm) ?_
  refine k_scg (fun h2 => hs) ?_
  refine k_br (fun h3 => ?_) (fun h3 => ?_)
  · have g3 := (cnd_or_t (cnd_or_t (cnd_not_t cnd_id_f) (cnd_not_t cnd_id_f)) (cnd_not_t (cnd_and_f cnd_dec_f cnd_dec_f))) h3
    exact k_out (Ent.of_eq (congrArg _ (by rcases g3 with (h | h) | h; (· exact (ver_0 (.inl h)).symm); (· exact (ver_0 (.inr (.inl h))).symm); (· exact (ver_0 (.inr (.inr (.inr (sca_0 h))))).symm))))
  · have g3 := (cnd_or_f (cnd_or_f (cnd_not_f cnd_id_t) (cnd_not_f cnd_id_t)) (cnd_not_f (cnd_and_t cnd_dec_t cnd_dec_t))) h3
    refine k_sc (hc) ?_
    refine k_br (fun h6 => ?_) (fun h6 => ?_)
    · have g6 := (cnd_or_t cnd_bne_t cnd_beq_t) h6
      exact k_out (Ent.of_eq (congrArg _ (ver_c g3.1.1 g3.1.2 g6).symm))
    · have g6 := (cnd_or_f cnd_bne_f cnd_beq_f) h6
      refine k_sc ((powR_c b) ((Bas.gr b).3) (r) (by cases K g3 g6; assumption) (by cases K g3 g6; assumption) (by cases K g3 g6; assumption)) ?_
      refine k_sc ((prodR_c b) (k0) (crtC b a root z sa sb) (sa) (by cases K g3 g6; assumption) (by cases K g3 g6; assumption) (by cases K g3 g6; assumption) (by cases K g3 g6; assumption)) ?_
      refine k_scg (fun h10 => (powR_c b) (a) (r) (by cases K g3 g6; assumption) (by cases K g3 g6; assumption) (by cases K g3 g6; assumption)) ?_
      refine k_scg (fun h11 => (prodR_c b) (z) (crtC b a root z sa sb) (sb) (by cases K g3 g6; assumption) (by cases K g3 g6; assumption) (by cases K g3 g6; assumption) (by cases K g3 g6; assumption)) ?_
      exact k_out (Ent.of_eq (congrArg _ (ver_e g3.1.1 g3.1.2 g3.2 g6.1 g6.2).symm))

theorem rverR_c (b : Bas) (k0 k1 k2 a : Int) (root : Nat → Int) (z sa sb r : Int) (hw : b.gr.W) (hr : byB root 32) :
    Pure Tryz.prog gl0 80 [b.av, .agg [.int .i64 k0, .int .i64 k1, .int .i64 k2], .int .i64 a, .agg (u8c root), .agg [.int .i64 z, .int .i64 sa, .int .i64 sb, .int .i64 r]] (.bool (verR b k0 k1 k2 a root z sa sb r)) := by
  have hv := rkey_c b k0 k1 k2 hw
  have hm := rmsg_c b.gr a
  have he := relems_c b.gr z sa sb r
  have hs := rscalR_c b.gr r
  have hc := rcrt_c b a root z sa sb r hr
  have K : ((keyB b k0 k1 k2 = true ∧ msgB b.gr a = true) ∧ elsB b.gr z sa sb = true) ∧ 0 ≤ r ∧ r < b.gr.q → SigOk b k0 a z sa sb r (crtN b a root z sa sb) := fun u => sig_ok root u.1.1.1 u.1.1.2 u.1.2 u.2
  refine pure_sk (own := ow0) Tryz.func80 (by kernel_rfl) mixed (by kernel_rfl)
    (let y0 : List AV := [Zi (Bas.gr b).1, Zi (Bas.gr b).2, Zi (Bas.gr b).3]; let y1 : AV := (AV.bool (verR b k0 k1 k2 a root z sa sb r)); (.sc (true) 158 ([AV.agg (Bas.cells b), AV.agg [Zi k0, Zi k1, Zi k2]]) (AV.bool (keyB b k0 k1 k2)) (.sc ((!keyB b k0 k1 k2) == false) 162 ([AV.agg y0, Zi a]) (AV.bool (msgB (Bas.gr b) a)) (.sc ((!keyB b k0 k1 k2 || !msgB b.1 a) == false) 163 ([AV.agg y0, AV.agg [Zi z, Zi sa, Zi sb, Zi r]]) (AV.bool (elsB (Bas.gr b) z sa sb)) (.sc ((!keyB b k0 k1 k2 || !msgB b.1 a || !elsB b.1 z sa sb) == false) 164 ([AV.agg y0, Zi r]) (AV.bool (decide (r ≥ 0) && decide (r < Grp.q (Bas.gr b)))) (.br (!keyB b k0 k1 k2 || !msgB b.1 a || !elsB b.1 z sa sb || !(decide (r ≥ 0) && decide (r < (Bas.gr b).2))) (.out (AV.bool false) [] y1 []) (.sc (true) 165 ([AV.agg (Bas.cells b), Zi a, AV.agg (u8c root), AV.agg [Zi z, Zi sa, Zi sb, Zi r]]) (Zi (crtN b a root z sa sb)) (.sc ((crtN b a root z sa sb != 0) == true) 166 ([AV.agg y0, Zi (Bas.gr b).3, Zi r]) (Zi ((Bas.gr b).3 ^ Int.toNat r % Grp.p (Bas.gr b))) (.sc ((crtN b a root z sa sb != 0) == true) 166 ([AV.agg y0, Zi k0, Zi (crtN b a root z sa sb)]) (Zi (k0 ^ Int.toNat (crtN b a root z sa sb) % Grp.p (Bas.gr b))) (.sc ((crtN b a root z sa sb != 0) == true) 167 ([AV.agg y0, Zi (k0 ^ Int.toNat (crtN b a root z sa sb) % (Bas.gr b).1), Zi sa]) (Zi (k0 ^ Int.toNat (crtN b a root z sa sb) % (Bas.gr b).1 * sa % Grp.p (Bas.gr b))) (.sc ((crtN b a root z sa sb != 0 && (Bas.gr b).3 ^ Int.toNat r % (Bas.gr b).1 == k0 ^ Int.toNat (crtN b a root z sa sb) % (Bas.gr b).1 * sa % (Bas.gr b).1) == true) 166 ([AV.agg y0, Zi a, Zi r]) (Zi (a ^ Int.toNat r % Grp.p (Bas.gr b))) (.sc ((crtN b a root z sa sb != 0 && (Bas.gr b).3 ^ Int.toNat r % (Bas.gr b).1 == k0 ^ Int.toNat (crtN b a root z sa sb) % (Bas.gr b).1 * sa % (Bas.gr b).1) == true) 166 ([AV.agg y0, Zi z, Zi (crtN b a root z sa sb)]) (Zi (z ^ Int.toNat (crtN b a root z sa sb) % Grp.p (Bas.gr b))) (.sc ((crtN b a root z sa sb != 0 && (Bas.gr b).3 ^ Int.toNat r % (Bas.gr b).1 == k0 ^ Int.toNat (crtN b a root z sa sb) % (Bas.gr b).1 * sa % (Bas.gr b).1) == true) 167 ([AV.agg y0, Zi (z ^ Int.toNat (crtN b a root z sa sb) % (Bas.gr b).1), Zi sb]) (Zi (z ^ Int.toNat (crtN b a root z sa sb) % (Bas.gr b).1 * sb % Grp.p (Bas.gr b))) (.out (AV.bool (crtN b a root z sa sb != 0 && (Bas.gr b).3 ^ Int.toNat r % (Bas.gr b).1 == k0 ^ Int.toNat (crtN b a root z sa sb) % (Bas.gr b).1 * sa % (Bas.gr b).1 && a ^ Int.toNat r % (Bas.gr b).1 == z ^ Int.toNat (crtN b a root z sa sb) % (Bas.gr b).1 * sb % (Bas.gr b).1)) [] y1 []))))))))))))))
    (by kernel_rfl) ?_
  refine k_sc (hv) ?_
  refine k_scg (fun h1 => hm ((validB_ok (key_1 (by simpa using h1)).1))) ?_
  refine k_scg (fun h2 => he ((validB_ok (key_1 (by simp at h2; exact h2.1)).1))) ?_
  refine k_scg (fun h3 => hs) ?_
  refine k_br (fun h4 => ?_) (fun h4 => ?_)
  · have g4 := (cnd_or_t (cnd_or_t (cnd_or_t (cnd_not_t cnd_id_f) (cnd_not_t cnd_id_f)) (cnd_not_t cnd_id_f)) (cnd_not_t (cnd_and_f cnd_dec_f cnd_dec_f))) h4
    exact k_out (Ent.of_eq (congrArg _ (by rcases g4 with ((h | h) | h) | h; (· exact (ver_0 (.inl h)).symm); (· exact (ver_0 (.inr (.inl h))).symm); (· exact (ver_0 (.inr (.inr (.inl h)))).symm); (· exact (ver_0 (.inr (.inr (.inr (sca_0 h))))).symm))))
  · have g4 := (cnd_or_f (cnd_or_f (cnd_or_f (cnd_not_f cnd_id_t) (cnd_not_f cnd_id_t)) (cnd_not_f cnd_id_t)) (cnd_not_f (cnd_and_t cnd_dec_t cnd_dec_t))) h4
    refine k_sc (hc (by (have := (K g4).ok; exact (validB_q (key_1 g4.1.1.1).1).1)) (by exact (validB_q (key_1 g4.1.1.1).1).2)) ?_
    refine k_scg (fun h7 => (rpowR_c (Bas.gr b)) ((Bas.gr b).3) (r) (by (cases K g4; assumption)) (by (cases K g4; assumption)) (by (cases K g4; assumption))) ?_
    refine k_scg (fun h8 => (rpowR_c (Bas.gr b)) (k0) (crtN b a root z sa sb) (by (cases K g4; assumption)) (by (cases K g4; assumption)) (by (cases K g4; assumption))) ?_
    refine k_scg (fun h9 => (rmulR_c (Bas.gr b)) (k0 ^ Int.toNat (crtN b a root z sa sb) % (Bas.gr b).1) (sa) (by (cases K g4; assumption)) (by exact mod_bnd (K g4).ok _) (by (cases K g4; assumption))) ?_
    refine k_scg (fun h10 => (rpowR_c (Bas.gr b)) (a) (r) (by (cases K g4; assumption)) (by (cases K g4; assumption)) (by (cases K g4; assumption))) ?_
    refine k_scg (fun h11 => (rpowR_c (Bas.gr b)) (z) (crtN b a root z sa sb) (by (cases K g4; assumption)) (by (cases K g4; assumption)) (by (cases K g4; assumption))) ?_
    refine k_scg (fun h12 => (rmulR_c (Bas.gr b)) (z ^ Int.toNat (crtN b a root z sa sb) % (Bas.gr b).1) (sb) (by (cases K g4; assumption)) (by exact mod_bnd (K g4).ok _) (by (cases K g4; assumption))) ?_
    exact k_out (Ent.of_eq (congrArg _ ((Bool.and_assoc _ _ _).trans (ver_r g4.1.1.1 g4.1.1.2 g4.1.2 g4.2).symm)))

end Go.Proofs.YtdaaddkipdmajaaGreatDoor

namespace Go.Sp
open Go Go.Am
def coinV (b:Bas) (r:Rcd) (c:Coin):Bool :=
 rcvB b r&&c.bank==r.bank&&c.epoch==r.epoch&&c.denom==r.denom&&c.depth==r.depth&&verR b r.h r.h1 r.h2 c.a c.root c.z c.sa c.sb c.r
def lvB (n:Int):Bool:=decide (firstI (fun i=>n==(2^i:Nat)) 6 0≥0)
theorem lvB_f:∀ d:Fin 6,lvB ((2^d.1:Nat):Int)=true:=by decide +kernel
theorem lvB_d {d:Nat} (h:d≤5):lvB ((2^d:Nat):Int)=true:=lvB_f ⟨d,by omega⟩
theorem hsl_out {os:List (Option Ob)} {n m:Nat} {F:Nat→Nat→Int} (hn:m=n):Ent os (.isl 32 m fun r k=>atL (u8c (F r)) k) (hsl n F):=by
 subst hn
 exact Ent.isl fun i j _ hj=>atL_map_range (es:=32) (g:=fun j=>AV.int .u8 (F i j)) hj
theorem tup2_out {os:List (Option Ob)} {a b:AV} {v:AV} (h:Ent os a b):Ent os (.tup [a,v]) (.tup [b,v]):=Ent.tup ⟨h,Ent.refl _,trivial⟩
end Go.Sp

namespace Go.Proofs.YtdaaddkipdmajaaGreatDoor
open Go Go.Am Go.Sp
set_option maxRecDepth 100000

theorem cval_c (b : Bas) (r : Rcd) (c : Coin) (hw : b.gr.W) (hr : byB c.root 32) : Pure Tryz.prog gl0 67 [b.av, r.av, c.av] (.bool (coinV b r c)) := by
  have hv := recV_c b r hw
  have hs := verR_c b r.h r.h1 r.h2 c.a c.root c.z c.sa c.sb c.r hw hr
  refine pure_sk (own := ow0) Tryz.func67 (by kernel_rfl) mixed (by kernel_rfl)
    (.sc (true) 143 ([AV.agg (Bas.cells b), AV.agg (Rcd.cells r)]) (AV.bool (rcvB b r)) (.sc ((rcvB b r && c.1 == r.1 && c.2 == r.2 && c.3 == r.3 && c.4 == r.5) == true) 144 ([AV.agg (Bas.cells b), AV.agg [Zi r.6, Zi r.7, Zi r.8], Zi c.5, AV.agg (u8c c.6), AV.agg [Zi c.7, Zi c.8, Zi c.9, Zi c.10]]) (AV.bool (verR b (Rcd.h r) (Rcd.h1 r) (Rcd.h2 r) (Coin.a c) (Coin.root c) (Coin.z c) (Coin.sa c) (Coin.sb c) (Coin.r c))) (.out (AV.bool (rcvB b r && c.1 == r.1 && c.2 == r.2 && c.3 == r.3 && c.4 == r.5 && verR b r.6 r.7 r.8 c.5 c.6 c.7 c.8 c.9 c.10)) [] (AV.bool (coinV b r c)) [])))
    (by kernel_rfl) ?_
  refine k_sc (hv) ?_
  refine k_scg (fun h1 => hs) ?_
  exact k_out (Ent.refl _)

theorem rcval_c (b : Bas) (r : Rcd) (c : Coin) (hw : b.gr.W) (hr : byB c.root 32) : Pure Tryz.prog gl0 20 [b.av, r.av, c.av] (.bool (coinV b r c)) := by
  have hv := rrecV_c b r hw
  have hs := rverR_c b r.h r.h1 r.h2 c.a c.root c.z c.sa c.sb c.r hw hr
  refine pure_sk (own := ow0) Tryz.func20 (by kernel_rfl) mixed (by kernel_rfl)
    (.sc (true) 79 ([AV.agg (Bas.cells b), AV.agg (Rcd.cells r)]) (AV.bool (rcvB b r)) (.sc ((rcvB b r && c.1 == r.1 && c.2 == r.2 && c.3 == r.3 && c.4 == r.5) == true) 80 ([AV.agg (Bas.cells b), AV.agg [Zi r.6, Zi r.7, Zi r.8], Zi c.5, AV.agg (u8c c.6), AV.agg [Zi c.7, Zi c.8, Zi c.9, Zi c.10]]) (AV.bool (verR b (Rcd.h r) (Rcd.h1 r) (Rcd.h2 r) (Coin.a c) (Coin.root c) (Coin.z c) (Coin.sa c) (Coin.sb c) (Coin.r c))) (.out (AV.bool (rcvB b r && c.1 == r.1 && c.2 == r.2 && c.3 == r.3 && c.4 == r.5 && verR b r.6 r.7 r.8 c.5 c.6 c.7 c.8 c.9 c.10)) [] (AV.bool (coinV b r c)) [])))
    (by kernel_rfl) ?_
  refine k_sc (hv) ?_
  refine k_scg (fun h1 => hs) ?_
  exact k_out (Ent.refl _)


theorem idxI_w (F : FuncId) (m : Nat) (g : Nat → AV) (f : Nat → Int) (n : Nat) (p : Nat → Bool) (hn : n ≤ 1000) (hc : ∀ i, i < n → Pure Tryz.prog gl0 F [.int .i64 (f i), .ipt m g] (.bool (p i))) : Pure Tryz.prog gl0 240 [.isl 1 n (fun i _ => .int .i64 (f i)), .fn (.func F) [] [.ipt m g]] (.int .i64 (firstI p n 0)) := by
  refine pure_sk (own := ow0) Tryz.func240 (by kernel_rfl) mixed (by kernel_rfl)
    (.loop ({ x : Nat // x ≤ n ∧ (fun (i : Nat) => firstI p n 0 = firstI p (n - i) i) x }) (fun (x : { x : Nat // x ≤ n ∧ (fun (i : Nat) => firstI p n 0 = firstI p (n - i) i) x }) => mkSt [0, 1, 7, 8] [AV.isl 1 n fun (i x : Nat) => Zi (f i), AV.fn (Fn.func F) [] [AV.ipt m g], Zi (↑n : Int), Zi (↑(x.1) : Int)] []) (fun (x : { x : Nat // x ≤ n ∧ (fun (i : Nat) => firstI p n 0 = firstI p (n - i) i) x }) => n - x.1) (⟨0, ⟨Nat.zero_le n, rfl⟩⟩) ([0, 1, 7, 8]) ([]) ([AV.isl 1 n fun (i x : Nat) => Zi (f i), AV.fn (Fn.func F) [] [AV.ipt m g], Zi (↑n : Int), Zi 0]) ([]) (fun x0 => (.br (decide ((↑x0.1 : Int) < (↑n : Int))) (.req ((0 : Int) ≤ (↑x0.1 : Int) ∧ (↑x0.1 : Int) < (↑n : Int)) (.sc (true) F ([Zi (f (Int.toNat (↑x0.1 : Int))), AV.ipt m g]) (AV.bool (p (Int.toNat (↑x0.1 : Int)))) (.br (p (Int.toNat (↑x0.1 : Int))) (.out (Zi (↑x0.1 : Int)) [] (Zi (firstI p n 0)) []) (.again (Again 0 (fun (x : { x : Nat // x ≤ n ∧ (fun (i : Nat) => firstI p n 0 = firstI p (n - i) i) x }) => mkSt [0, 1, 7, 8] [AV.isl 1 n fun (i x : Nat) => Zi (f i), AV.fn (Fn.func F) [] [AV.ipt m g], Zi (↑n : Int), Zi (↑(x.1) : Int)] []) (fun (x : { x : Nat // x ≤ n ∧ (fun (i : Nat) => firstI p n 0 = firstI p (n - i) i) x }) => n - x.1) x0) ([0, 1, 7, 8]) ([]) ([AV.isl 1 n fun (i x : Nat) => Zi (f i), AV.fn (Fn.func F) [] [AV.ipt m g], Zi (↑n : Int), Zi (IntKind.wrap IntKind.i64 ((↑x0.1 : Int) + 1))]) ([]))))) (.out (Zi (-1)) [] (Zi (firstI p n 0)) []))))
    (by kernel_rfl) ?_
  refine k_loop (fun _ hs => hs.le (⟨.refl _, .refl _, .refl _, .refl _, trivial⟩) (trivial)) (fun x0 => ?_)
  try (have q0 := x0.2; dsimp only at q0)
  refine k_br (fun h1 => ?_) (fun h1 => ?_)
  · have g1 := cnd_dec_t h1
    refine k_req (by omega) ?_
    refine k_sc (hc (Int.toNat (↑x0.1 : Int)) (by omega)) ?_
    refine k_br (fun h4 => ?_) (fun h4 => ?_)
    · have g4 := cnd_id_t h4
      try simp only [Int.toNat_natCast] at g4
      exact k_out (Ent.of_eq (congrArg _ (first_hit x0.2.2 (by omega) h4)))
    · have g4 := cnd_id_f h4
      try simp only [Int.toNat_natCast] at g4
      exact k_again (⟨x0.1 + 1, by omega, first_next x0.2.2 (by omega) h4⟩) (fun _ hs => hs.le (⟨.refl _, .refl _, .refl _, inc_ent (by omega), trivial⟩) (trivial)) (by dsimp only; omega)
  · have g1 := cnd_dec_f h1
    exact k_out (Ent.of_eq (congrArg _ (first_miss x0.2.2 (by omega))))

theorem conI_w (F : FuncId) (m : Nat) (g : Nat → AV) (f : Nat → Int) (n : Nat) (p : Nat → Bool) (hn : n ≤ 1000) (hc : ∀ i, i < n → Pure Tryz.prog gl0 F [.int .i64 (f i), .ipt m g] (.bool (p i))) : Pure Tryz.prog gl0 197 [.isl 1 n (fun i _ => .int .i64 (f i)), .fn (.func F) [] [.ipt m g]] (.bool (decide (firstI p n 0 ≥ 0))) := by
  have c1 := idxI_w F m g f n p hn hc
  refine pure_sk (own := ow0) Tryz.func197 (by kernel_rfl) mixed (by kernel_rfl)
    (let y0 : AV := (AV.bool (decide (firstI p n 0 ≥ 0))); (.sc (true) 240 ([AV.isl 1 n fun (i x : Nat) => Zi (f i), AV.fn (Fn.func F) [] [AV.ipt m g]]) (Zi (firstI p n 0)) (.out y0 [] y0 [])))
    (by kernel_rfl) ?_
  refine k_sc (c1) ?_
  exact k_out (Ent.refl _)

theorem leaves1_c (n : Int) (i : Nat) (hi : i < 6) : Pure Tryz.prog gl0 198 [.int .i64 i, .ipt 1 (atL [.int .i64 n])] (.bool (n == (2 ^ i : Nat))) := by
  have hs := shw (x := i) (by omega)
  refine pure_sk (own := ow0) Tryz.func198 (by kernel_rfl) mixed (by kernel_rfl)
    (.req ((0 : Int) ≤ (↑i : Int)) (.out (AV.bool (n == IntKind.wrap IntKind.i64 ((1 : Int) * 2 ^ min (Int.toNat (↑i : Int)) 64))) [] (AV.bool (n == (↑(2 ^ i) : Int))) []))
    (by kernel_rfl) ?_
  refine k_req (by omega) ?_
  exact k_out (Ent.of_eq (by simp_all))


theorem leaves_c0 (n : Int) : Pure Tryz.prog gl0 197 [.isl 1 6 (fun r k => atL (List.getD [[.int .i64 0], [.int .i64 1], [.int .i64 2], [.int .i64 3], [.int .i64 4], [.int .i64 5]] r []) k), .fn (.func 198) [] [.ipt 1 (atL [.int .i64 n])]] (.bool (lvB n)) :=
  (conI_w 198 1 (atL [.int .i64 n]) (fun i => (i : Int)) 6 (fun i => n == (2 ^ i : Nat)) (by decide) (fun i hi => leaves1_c n i hi)).via
    ⟨Ent.isl fun i j hi hj => by obtain rfl : j = 0 := Nat.lt_one_iff.1 hj
                                 match i, hi with | 0, _ | 1, _ | 2, _ | 3, _ | 4, _ | 5, _ => rfl, Ent.refl _, trivial⟩

theorem leaves_c (n : Int) : Pure Tryz.prog gl0 133 [.int .i64 n] (.bool (lvB n)) := by
  have h := leaves_c0 n
  refine pure_sk (own := ow0) Tryz.func133 (by kernel_rfl) mixed (by kernel_rfl)
    (.sc (true) 197 ([AV.isl 1 6 fun (r k : Nat) => atL (List.getD [[Zi 0], [Zi 1], [Zi 2], [Zi 3], [Zi 4], [Zi 5]] (r + 0) []) k, AV.fn (Fn.func 198) [] [AV.ipt 1 fun (k : Nat) => atL [Zi n] k]]) (AV.bool (lvB n)) (.out (AV.bool (lvB n)) [] (AV.bool (lvB n)) []))
    (by kernel_rfl) ?_
  refine k_sc (h) ?_
  exact k_out (Ent.refl _)

theorem encN_c (x : Int) : Pure Tryz.prog gl0 136 [.agg [.int .i64 1, .int .i64 x, .nsl, .nsl]] (.tup [il .u8 (It.int x).enc, .int .i64 0]) :=
  (encode_c (.int x) rfl (by rw [int_len]; decide)).via ⟨Ent.agg ⟨Ent.refl _, Ent.refl _, Ent.nsl, Ent.nsl, trivial⟩, trivial⟩

theorem rencN_c (x : Int) : Pure Tryz.prog gl0 124 [.agg [.int .i64 1, .int .i64 x, .nsl, .nsl]] (il .u8 (It.int x).enc) :=
  (renc_c (.int x) (by rw [int_len]; decide)).via ⟨Ent.agg ⟨Ent.refl _, Ent.refl _, Ent.nsl, Ent.nsl, trivial⟩, trivial⟩

theorem chash_n (b : Bas) (N : Nat) (hN : N ≤ 32) (hl : lvB N = true) (f : Nat → Int) (hw : b.gr.W) (hv : validB b = true) (hf : ∀ i, i < N → elemB b.gr (f i) = true) : Pure Tryz.prog gl0 57 [b.av, .isl 1 N fun i _ => .int .i64 (f i)] (.tup [hsl N fun i => leafF (f i), .int .i64 0]) := by
  have ht := fun x : Int => tleaf_c (It.int x).enc.length (fun i => (It.int x).enc.getD i 0) (by rw [int_len]; decide) (It.enc_by (x := .int x) trivial)
  refine pure_sk (own := ow0) Tryz.func57 (by kernel_rfl) mixed (by kernel_rfl)
    (let y0 : AV := (AV.tup [hsl N fun (i : Nat) => leafF (f i), Zi 0]); (.sc (true) 52 ([AV.agg (Bas.cells b)]) (AV.bool (validB b)) (.sc ((!validB b) == false) 133 ([Zi (↑N : Int)]) (AV.bool (lvB (↑N : Int))) (.br (!validB b || !lvB (↑N : Int)) (.out (AV.tup [AV.nsl, Zi 1]) [] y0 []) (.loop ({ x : Nat // x ≤ N }) (fun (x : { x : Nat // x ≤ N }) => mkSt [2, 22, 23, 6, 24] [AV.own 0 6 0 0 6, AV.isl 1 N fun (i x : Nat) => Zi (f i), Zi (↑N : Int), AV.osl 1 32 0 (x.1), Zi (↑(x.1) : Int)] [some ⟨6, 1, true, Rep.lst [Bas.cells b]⟩, some ⟨32, x.1, true, Rep.row fun (i : Nat) => u8c (leafF (f i))⟩]) (fun (x : { x : Nat // x ≤ N }) => N - x.1) (⟨0, Nat.zero_le N⟩) ([2, 22, 23, 6, 24]) ([0, 8321]) ([AV.own 0 6 0 0 6, AV.isl 1 N fun (i x : Nat) => Zi (f i), Zi (↑N : Int), AV.nsl, Zi 0]) ([some ⟨6, 1, true, Rep.lst [Bas.cells b]⟩, some ⟨32, 0, true, Rep.lst []⟩]) (fun x4 => (.br (decide ((↑x4.1 : Int) < (↑N : Int))) (.req ((0 : Int) ≤ (↑x4.1 : Int) ∧ (↑x4.1 : Int) < (↑N : Int)) (.sc (true) 130 ([AV.agg [Zi (Bas.gr b).1, Zi (Bas.gr b).2, Zi (Bas.gr b).3], Zi (f (Int.toNat (↑x4.1 : Int)))]) (AV.bool (validG (Bas.gr b) && elemB (Bas.gr b) (f (Int.toNat (↑x4.1 : Int))))) (.br (!(validG b.1 && elemB b.1 (f (Int.toNat (↑x4.1 : Int))))) (.out (AV.tup [AV.nsl, Zi 2]) [] y0 []) (.dc (true) 136 ([AV.agg [Zi 1, Zi (f (Int.toNat (↑x4.1 : Int))), AV.nsl, AV.nsl]]) (AV.tup [il IntKind.u8 (It.enc (It.int (f (Int.toNat (↑x4.1 : Int))))), Zi 0]) (.sc (true) 137 ([AV.isl 1 9 fun (i x : Nat) => Zb (List.getD (It.enc (It.int (f (Int.toNat (↑x4.1 : Int))))) i (0 : Int))]) (AV.tup [AV.agg (u8c (tagF (String.toUTF8 "specie/leaf") (List.length (It.enc (It.int (f (Int.toNat (↑x4.1 : Int)))))) fun (i : Nat) => List.getD (It.enc (It.int (f (Int.toNat (↑x4.1 : Int))))) i (0 : Int))), Zi 0]) (.req ((x4.1 + 1) * 32 ≤ 140737488355328) (.again (Again 0 (fun (x : { x : Nat // x ≤ N }) => mkSt [2, 22, 23, 6, 24] [AV.own 0 6 0 0 6, AV.isl 1 N fun (i x : Nat) => Zi (f i), Zi (↑N : Int), AV.osl 1 32 0 (x.1), Zi (↑(x.1) : Int)] [some ⟨6, 1, true, Rep.lst [Bas.cells b]⟩, some ⟨32, x.1, true, Rep.row fun (i : Nat) => u8c (leafF (f i))⟩]) (fun (x : { x : Nat // x ≤ N }) => N - x.1) x4) ([2, 22, 23, 6, 24]) ([0, 226]) ([AV.own 0 6 0 0 6, AV.isl 1 N fun (i x : Nat) => Zi (f i), Zi (↑N : Int), AV.osl 1 32 0 (x4.1 + 1), Zi (IntKind.wrap IntKind.i64 ((↑x4.1 : Int) + 1))]) ([some ⟨6, 1, true, Rep.lst [Bas.cells b]⟩, some ⟨32, x4.1 + 1, true, Rep.cat x4.1 (Rep.row fun (i : Nat) => u8c (leafF (f i))) (Rep.lst [u8c (tagF (String.toUTF8 "specie/leaf") (List.length (It.enc (It.int (f (Int.toNat (↑x4.1 : Int)))))) fun (i : Nat) => List.getD (It.enc (It.int (f (Int.toNat (↑x4.1 : Int))))) i (0 : Int))])⟩])))))))) (.out (AV.tup [AV.isl 32 x4.1 fun (r k : Nat) => atL (u8c (leafF (f (r + 0)))) k, Zi 0]) [] y0 []))))))))
    (by kernel_rfl) ?_
  refine k_sc ((bvalid_c b) (by assumption)) ?_
  refine k_scg (fun h1 => leaves_c ((↑N : Int))) ?_
  refine k_br (fun h2 => ?_) (fun h2 => ?_)
  · have g2 := (cnd_or_t (cnd_not_t cnd_id_f) (cnd_not_t cnd_id_f)) h2
    exact k_out (by exfalso; rcases g2 with g | g; (· rw [hv] at g; cases g); (· rw [hl] at g; cases g))
  · have g2 := (cnd_or_f (cnd_not_f cnd_id_t) (cnd_not_f cnd_id_t)) h2
    refine k_loop (fun _ hs => hs.le (by repeat' (first | exact trivial | (first | exact Ent.refl _ | exact inc_ent (by omega) | exact Ent.nil rfl | exact Ent.of_eq (congrArg (AV.osl _ _ _) (by first | omega | (dsimp only; omega))) | exact Ent.of_eq (congrArg (AV.int _) (by first | omega | (dsimp only; omega)))) | refine And.intro ?_ ?_)) (by exact ⟨ObEnt.refl _, ObEnt.zero, trivial⟩)) (fun x4 => ?_)
    try (have q4 := x4.2; dsimp only at q4)
    refine k_br (fun h5 => ?_) (fun h5 => ?_)
    · have g5 := cnd_dec_t h5
      refine k_req (by omega) ?_
      refine k_sc ((contains_c (Bas.gr b)) (f (Int.toNat (↑x4.1 : Int))) (by assumption)) ?_
      refine k_br (fun h8 => ?_) (fun h8 => ?_)
      · have g8 := (cnd_not_t (cnd_and_f cnd_id_f cnd_id_f)) h8
        try simp only [Int.toNat_natCast] at g8
        exact k_out (by exfalso; rcases g8 with g | g; (· rw [validG_iff.2 (validB_ok hv)] at g; cases g); (· rw [hf _ (by omega)] at g; cases g))
      · have g8 := (cnd_not_f (cnd_and_t cnd_id_t cnd_id_t)) h8
        try simp only [Int.toNat_natCast] at g8
        refine k_dc (encN_c (f (Int.toNat (↑x4.1 : Int)))) ?_
        refine k_sc (ht (f (Int.toNat (↑x4.1 : Int)))) ?_
        refine k_req (by omega) ?_
        exact k_again (⟨x4.1 + 1, by omega⟩) (fun _ hs => hs.le (by repeat' (first | exact trivial | (first | exact Ent.refl _ | exact inc_ent (by omega) | exact Ent.nil rfl | exact Ent.of_eq (congrArg (AV.osl _ _ _) (by first | omega | (dsimp only; omega))) | exact Ent.of_eq (congrArg (AV.int _) (by first | omega | (dsimp only; omega)))) | refine And.intro ?_ ?_)) (by exact ⟨ObEnt.refl _, ObEnt.catRow rfl (fun _ _ => EntL.refl _) (EntL.refl _), trivial⟩)) (by (dsimp only; omega))
    · have g5 := cnd_dec_f h5
      exact k_out (tup2_out (hsl_out (by omega)))

theorem rhash_c (n : Nat) (hn : n ≤ 1000) (f : Nat → Int) : Pure Tryz.prog gl0 62 [.isl 1 n fun i _ => .int .i64 (f i)] (hsl n fun i => leafF (f i)) := by
  have ht := fun x : Int => rtleaf_c (It.int x).enc.length (fun i => (It.int x).enc.getD i 0) (by rw [int_len]; decide) (It.enc_by (x := .int x) trivial)
  refine pure_sk (own := ow0) Tryz.func62 (by kernel_rfl) mixed (by kernel_rfl)
    (.loop ({ x : Nat // x ≤ n }) (fun (x : { x : Nat // x ≤ n }) => mkSt [0, 3, 4] [AV.isl 1 n fun (i x : Nat) => Zi (f i), AV.osl 0 32 0 (x.1), Zi (↑(x.1) : Int)] [some ⟨32, x.1, true, Rep.row fun (i : Nat) => u8c (leafF (f i))⟩]) (fun (x : { x : Nat // x ≤ n }) => n - x.1) (⟨0, Nat.zero_le n⟩) ([0, 3, 4]) ([8216]) ([AV.isl 1 n fun (i x : Nat) => Zi (f i), AV.nsl, Zi 0]) ([some ⟨32, 0, true, Rep.lst []⟩]) (fun x0 => (.br (decide ((↑x0.1 : Int) < (↑n : Int))) (.req ((0 : Int) ≤ (↑x0.1 : Int) ∧ (↑x0.1 : Int) < (↑n : Int)) (.dc (true) 124 ([AV.agg [Zi 1, Zi (f (Int.toNat (↑x0.1 : Int))), AV.nsl, AV.nsl]]) (il IntKind.u8 (It.enc (It.int (f (Int.toNat (↑x0.1 : Int)))))) (.sc (true) 142 ([AV.isl 1 9 fun (i x : Nat) => Zb (List.getD (It.enc (It.int (f (Int.toNat (↑x0.1 : Int))))) i (0 : Int))]) (AV.agg (u8c (tagF (String.toUTF8 "specie/leaf") (List.length (It.enc (It.int (f (Int.toNat (↑x0.1 : Int)))))) fun (i : Nat) => List.getD (It.enc (It.int (f (Int.toNat (↑x0.1 : Int))))) i (0 : Int)))) (.req ((x0.1 + 1) * 32 ≤ 140737488355328) (.again (Again 0 (fun (x : { x : Nat // x ≤ n }) => mkSt [0, 3, 4] [AV.isl 1 n fun (i x : Nat) => Zi (f i), AV.osl 0 32 0 (x.1), Zi (↑(x.1) : Int)] [some ⟨32, x.1, true, Rep.row fun (i : Nat) => u8c (leafF (f i))⟩]) (fun (x : { x : Nat // x ≤ n }) => n - x.1) x0) ([0, 3, 4]) ([105]) ([AV.isl 1 n fun (i x : Nat) => Zi (f i), AV.osl 0 32 0 (x0.1 + 1), Zi (IntKind.wrap IntKind.i64 ((↑x0.1 : Int) + 1))]) ([some ⟨32, x0.1 + 1, true, Rep.cat x0.1 (Rep.row fun (i : Nat) => u8c (leafF (f i))) (Rep.lst [u8c (tagF (String.toUTF8 "specie/leaf") (List.length (It.enc (It.int (f (Int.toNat (↑x0.1 : Int)))))) fun (i : Nat) => List.getD (It.enc (It.int (f (Int.toNat (↑x0.1 : Int))))) i (0 : Int))])⟩])))))) (.out (AV.isl 32 x0.1 fun (r k : Nat) => atL (u8c (leafF (f (r + 0)))) k) [] (hsl n fun (i : Nat) => leafF (f i)) []))))
    (by kernel_rfl) ?_
  refine k_loop (fun _ hs => hs.le (by repeat' (first | exact trivial | (first | exact Ent.refl _ | exact inc_ent (by omega) | exact Ent.nil rfl | exact Ent.of_eq (congrArg (AV.osl _ _ _) (by first | omega | (dsimp only; omega))) | exact Ent.of_eq (congrArg (AV.int _) (by first | omega | (dsimp only; omega)))) | refine And.intro ?_ ?_)) (by exact ⟨ObEnt.zero, trivial⟩)) (fun x0 => ?_)
  try (have q0 := x0.2; dsimp only at q0)
  refine k_br (fun h1 => ?_) (fun h1 => ?_)
  · have g1 := cnd_dec_t h1
    refine k_req (by omega) ?_
    refine k_dc (rencN_c (f (Int.toNat (↑x0.1 : Int)))) ?_
    refine k_sc (ht (f (Int.toNat (↑x0.1 : Int)))) ?_
    refine k_req (by omega) ?_
    exact k_again (⟨x0.1 + 1, by omega⟩) (fun _ hs => hs.le (by repeat' (first | exact trivial | (first | exact Ent.refl _ | exact inc_ent (by omega) | exact Ent.nil rfl | exact Ent.of_eq (congrArg (AV.osl _ _ _) (by first | omega | (dsimp only; omega))) | exact Ent.of_eq (congrArg (AV.int _) (by first | omega | (dsimp only; omega)))) | refine And.intro ?_ ?_)) (by exact ⟨ObEnt.catRow rfl (fun _ _ => EntL.refl _) (EntL.refl _), trivial⟩)) (by (dsimp only; omega))
  · have g1 := cnd_dec_f h1
    exact k_out (hsl_out (by omega))

end Go.Proofs.YtdaaddkipdmajaaGreatDoor

namespace Go.Sp
open Go Go.Am
def prdF (G:Grp) (f e:Nat→Int):Nat→Int
 | 0=>1
 | x+1=>prdF G f e x*(f x^(e x).toNat%G.p)%G.p
theorem elem_one {G:Grp} (h:G.Ok):elemB G 1=true:=(elem_iff h).2 ⟨Int.le_refl _,by have:=h.p3;omega,by rw [Int.one_pow];exact Int.emod_eq_of_lt (by decide) (by have:=h.p3;omega)⟩
theorem elem_prd {G:Grp} (h:G.Ok) {f e:Nat→Int} {n:Nat} (hf:∀ i,i<n→elemB G (f i)=true):∀ x,x≤n→elemB G (prdF G f e x)=true
 | 0,_=>elem_one h
 | x+1,hx=>elem_mul h (elem_prd h hf x (by omega)) (elem_pow h (hf x (by omega)) _)
def pr2 (G:Grp) (a b x y:Int):Int:=a^x.toNat%G.p*(b^y.toNat%G.p)%G.p
def sel2 (a b:Int) (i:Nat):Int:=[a,b].getD i 0
theorem prd_2 {G:Grp} (h:G.Ok) {f e:Nat→Int}:prdF G f e 2=pr2 G (f 0) (f 1) (e 0) (e 1):=by
 show (1*(f 0^(e 0).toNat%G.p)%G.p)*(f 1^(e 1).toNat%G.p)%G.p=_
 rw [Int.one_mul,Int.emod_eq_of_lt (mod_bnd h _).1 (mod_bnd h _).2]
 rfl
theorem sel_isl {os:List (Option Ob)} {a b:Int}:Ent os (.isl 1 2 fun r k=>atL (List.getD [[.int .i64 a],[.int .i64 b]] r []) k) (.isl 1 2 fun i _=>.int .i64 (sel2 a b i)):=Ent.isl fun i j hi hj=>by
 obtain rfl:j=0:=Nat.lt_one_iff.1 hj
 match i,hi with|0,_|1,_=>rfl
def chk2 (b:Bas) (y r1 r2:Int):Bool:=scaB b.gr r1&&scaB b.gr r2&&(pr2 b.gr b.g1 b.g2 r1 r2==y)
theorem fst_no {p:Nat→Bool} {n:Nat} (h:∀ i,i<n→p i=false):decide (firstI p n 0≥0)=false:=by
 rw [firstI_neg]
 apply List.any_eq_false.2
 intro i hi
 rw [Nat.zero_add,h i (List.mem_range.1 hi)]
 decide
theorem fst_2 {p:Nat→Bool}:decide (firstI p 2 0≥0)=(p 0||p 1):=by
 rw [firstI_neg]
 show (p (0+0)||(p (0+1)||false))=_
 rw [Bool.or_false,Nat.zero_add,Nat.zero_add]
theorem sca_iff {G:Grp} {r:Int}:scaB G r=true↔0≤r∧r<G.q:=by unfold scaB;simp
theorem sca_sel {G:Grp} {a c:Int} (h:scaB G a=true∧scaB G c=true):∀ i,i<2→0≤sel2 a c i∧sel2 a c i<G.q:=fun i hi=>match i,hi with
 | 0,_=>sca_iff.1 h.1
 | 1,_=>sca_iff.1 h.2
def pr2V (b:Bas) (r1 r2:Int):Int:=bif scaB b.gr r1&&scaB b.gr r2 then pr2 b.gr b.g1 b.g2 r1 r2 else 0
def pr2E (b:Bas) (r1 r2:Int):Int:=bif scaB b.gr r1&&scaB b.gr r2 then 0 else 2
theorem pr2_no {b:Bas} {r1 r2:Int} (h:scaB b.gr r1=false∨scaB b.gr r2=false):pr2V b r1 r2=0∧pr2E b r1 r2=2:=by
 have e:(scaB b.gr r1&&scaB b.gr r2)=false:=by rcases h with h|h<;>simp [h]
 unfold pr2V pr2E;rw [e];exact ⟨rfl,rfl⟩
theorem pr2_ok {b:Bas} {r1 r2:Int} (h:scaB b.gr r1=true∧scaB b.gr r2=true):pr2V b r1 r2=pr2 b.gr b.g1 b.g2 r1 r2∧pr2E b r1 r2=0:=by
 unfold pr2V pr2E;rw [h.1,h.2];exact ⟨rfl,rfl⟩
theorem chk2_eq {b:Bas} {y r1 r2:Int}:(pr2E b r1 r2==0&&pr2V b r1 r2==y)=chk2 b y r1 r2:=by
 unfold chk2
 cases h1:scaB b.gr r1 with
 | false=>rw [(pr2_no (.inl h1)).2];rfl
 | true =>
  cases h2:scaB b.gr r2 with
  | false=>rw [(pr2_no (.inr h2)).2];rfl
  | true=>rw [(pr2_ok ⟨h1,h2⟩).1,(pr2_ok ⟨h1,h2⟩).2];rfl
theorem sca_n {G:Grp} {e:Int}:(decide (e<0)||decide (e≥G.q)) = !scaB G e:=by
 unfold scaB
 by_cases h:e<0<;>by_cases h':e≥G.q<;>simp [h,h']<;>omega
def leafB (b:Bas) (a k x r1 r2:Int):Bool:=elemB b.gr x&&chk2 b (a^k.toNat%b.gr.p*x%b.gr.p) r1 r2
theorem leaf_no {b:Bas} {a k x r1 r2:Int} (h:(elemB b.gr x=false∨scaB b.gr r1=false)∨scaB b.gr r2=false):leafB b a k x r1 r2=false:=by
 unfold leafB chk2;rcases h with (h|h)|h<;>simp [h]
theorem leaf_eq {b:Bas} {a k x r1 r2:Int} (h:(elemB b.gr x=true∧scaB b.gr r1=true)∧scaB b.gr r2=true):(b.g1^r1.toNat%b.gr.p*(b.g2^r2.toNat%b.gr.p)%b.gr.p==a^k.toNat%b.gr.p*x%b.gr.p)=leafB b a k x r1 r2:=by
 unfold leafB chk2;rw [h.1.1,h.1.2,h.2];rfl
end Go.Sp

namespace Go.Proofs.YtdaaddkipdmajaaGreatDoor
open Go Go.Am Go.Sp
set_option maxRecDepth 100000

theorem pel1_c (G : Grp) (x : Int) (h : G.Ok) (hw : G.W) : Pure Tryz.prog gl0 265 [.int .i64 x, .ipt 3 (atL G.cells)] (.bool (!elemB G x)) := by
  have hg := validG_iff.2 h
  refine pure_sk (own := ow0) Tryz.func265 (by kernel_rfl) mixed (by kernel_rfl)
    (.sc (true) 130 ([AV.agg [Zi G.1, Zi G.2, Zi G.3], Zi x]) (AV.bool (validG G && elemB G x)) (.out (AV.bool !(validG G && elemB G x)) [] (AV.bool !elemB G x) []))
    (by kernel_rfl) ?_
  refine k_sc ((contains_c G) (x) (by assumption)) ?_
  exact k_out (Ent.of_eq (congrArg _ (by rw [hg, Bool.true_and])))

theorem pex1_c (G : Grp) (x : Int) : Pure Tryz.prog gl0 266 [.int .i64 x, .ipt 3 (atL G.cells)] (.bool (decide (x < 0) || decide (x ≥ G.q))) := by
  refine pure_sk (own := ow0) Tryz.func266 (by kernel_rfl) mixed (by kernel_rfl)
    (.out (AV.bool (decide (x < 0) || decide (x ≥ G.2))) [] (AV.bool (decide (x < 0) || decide (x ≥ Grp.q G))) [])
    (by kernel_rfl) ?_
  exact k_out (Ent.refl _)

theorem pel_c (G : Grp) (n : Nat) (f : Nat → Int) (hn : n ≤ 1000) (h : G.Ok) (hw : G.W) (hf : ∀ i, i < n → elemB G (f i) = true) : Pure Tryz.prog gl0 237 [G.av, .isl 1 n fun i _ => .int .i64 (f i)] (.bool true) := by
  have c1 := conI_w 265 3 (atL G.cells) f n (fun i => !elemB G (f i)) hn (fun i _ => pel1_c G (f i) h hw)
  have e := fst_no (p := fun i => !elemB G (f i)) (n := n) (fun i hi => by rw [hf i hi]; rfl)
  refine pure_sk (own := ow0) Tryz.func237 (by kernel_rfl) mixed (by kernel_rfl)
    (.sc (true) 197 ([AV.isl 1 n fun (i x : Nat) => Zi (f i), AV.fn (Fn.func 265) [] [AV.ipt 3 fun (k : Nat) => atL [Zi G.1, Zi G.2, Zi G.3] k]]) (AV.bool (decide (firstI (fun (i : Nat) => !elemB G (f i)) n 0 ≥ 0))) (.out (AV.bool !decide (firstI (fun (i : Nat) => !elemB G (f i)) n 0 ≥ 0)) [] (AV.bool true) []))
    (by kernel_rfl) ?_
  refine k_sc (c1) ?_
  exact k_out (Ent.of_eq (congrArg _ (by rw [e]; rfl)))

theorem pex_c (G : Grp) (a c : Int) : Pure Tryz.prog gl0 238 [G.av, .isl 1 2 fun i _ => .int .i64 (sel2 a c i)] (.bool (scaB G a && scaB G c)) := by
  have c1 := conI_w 266 3 (atL G.cells) (sel2 a c) 2 (fun i => decide (sel2 a c i < 0) || decide (sel2 a c i ≥ G.q)) (by decide) (fun i _ => pex1_c G (sel2 a c i))
  have e := fst_2 (p := fun i => decide (sel2 a c i < 0) || decide (sel2 a c i ≥ G.q))
  refine pure_sk (own := ow0) Tryz.func238 (by kernel_rfl) mixed (by kernel_rfl)
    (.sc (true) 197 ([AV.isl 1 2 fun (i x : Nat) => Zi (sel2 a c i), AV.fn (Fn.func 266) [] [AV.ipt 3 fun (k : Nat) => atL [Zi G.1, Zi G.2, Zi G.3] k]]) (AV.bool (decide (firstI (fun (i : Nat) => decide (sel2 a c i < 0) || decide (sel2 a c i ≥ Grp.q G)) 2 0 ≥ 0))) (.out (AV.bool !decide (firstI (fun (i : Nat) => decide (sel2 a c i < 0) || decide (sel2 a c i ≥ G.2)) 2 0 ≥ 0)) [] (AV.bool (scaB G a && scaB G c)) []))
    (by kernel_rfl) ?_
  refine k_sc (c1) ?_
  exact k_out (Ent.of_eq (congrArg _ (by rw [e, sca_n, sca_n, ← Bool.not_and, Bool.not_not]; rfl)))

theorem powers_c (G : Grp) (f e : Nat → Int) (h : G.Ok) (hw : G.W) (hf : ∀ i, i < 2 → elemB G (f i) = true) (he : ∀ i, i < 2 → 0 ≤ e i ∧ e i < G.q) : Pure Tryz.prog gl0 239 [G.av, .isl 1 2 fun i _ => .int .i64 (f i), .isl 1 2 fun i _ => .int .i64 (e i)] (.tup [.int .i64 (prdF G f e 2), .int .i64 0]) := by
  refine pure_sk (own := ow0) Tryz.func239 (by kernel_rfl) mixed (by kernel_rfl)
    (let y0 : List (Option Ob) := [some ⟨3, 1, true, Rep.lst [[Zi (Grp.p G), Zi (Grp.q G), Zi (Grp.g G)]]⟩]; (.loop ({ x : Nat // x ≤ 2 }) (fun (x : { x : Nat // x ≤ 2 }) => mkSt [2, 3, 13, 14, 8, 15] [AV.isl 1 2 fun (i x : Nat) => Zi (e i), AV.own 0 3 0 0 3, AV.isl 1 2 fun (i x : Nat) => Zi (f i), Zi (↑(2) : Int), Zi (prdF G f e (x.1)), Zi (↑(x.1) : Int)] y0) (fun (x : { x : Nat // x ≤ 2 }) => 2 - x.1) (⟨0, Nat.zero_le 2⟩) ([2, 3, 13, 14, 8, 15]) ([0]) ([AV.isl 1 2 fun (i x : Nat) => Zi (e i), AV.own 0 3 0 0 3, AV.isl 1 2 fun (i x : Nat) => Zi (f i), Zi (↑(2) : Int), Zi 1, Zi 0]) (y0) (fun x0 => (.br (decide ((↑x0.1 : Int) < (↑(2) : Int))) (.req ((0 : Int) ≤ (↑x0.1 : Int) ∧ (↑x0.1 : Int) < (↑(2) : Int)) (.req ((0 : Int) ≤ (↑x0.1 : Int) ∧ (↑x0.1 : Int) < (↑(2) : Int)) (.sc (true) 48 ([AV.agg [Zi G.1, Zi G.2, Zi G.3], Zi (f (Int.toNat (↑x0.1 : Int))), Zi (e (Int.toNat (↑x0.1 : Int)))]) (AV.tup [Zi (f (Int.toNat (↑x0.1 : Int)) ^ Int.toNat (e (Int.toNat (↑x0.1 : Int))) % Grp.p G), Zi 0]) (.ff (.sc (true) 49 ([AV.agg [Zi G.1, Zi G.2, Zi G.3], Zi (prdF G f e x0.1), Zi (f (Int.toNat (↑x0.1 : Int)) ^ Int.toNat (e (Int.toNat (↑x0.1 : Int))) % G.1)]) (AV.tup [Zi (prdF G f e x0.1 * (f (Int.toNat (↑x0.1 : Int)) ^ Int.toNat (e (Int.toNat (↑x0.1 : Int))) % G.1) % Grp.p G), Zi 0]) (.ff (.again (Again 0 (fun (x : { x : Nat // x ≤ 2 }) => mkSt [2, 3, 13, 14, 8, 15] [AV.isl 1 2 fun (i x : Nat) => Zi (e i), AV.own 0 3 0 0 3, AV.isl 1 2 fun (i x : Nat) => Zi (f i), Zi (↑(2) : Int), Zi (prdF G f e (x.1)), Zi (↑(x.1) : Int)] y0) (fun (x : { x : Nat // x ≤ 2 }) => 2 - x.1) x0) ([2, 3, 13, 14, 8, 15]) ([0]) ([AV.isl 1 2 fun (i x : Nat) => Zi (e i), AV.own 0 3 0 0 3, AV.isl 1 2 fun (i x : Nat) => Zi (f i), Zi (↑(2) : Int), Zi (prdF G f e x0.1 * (f (Int.toNat (↑x0.1 : Int)) ^ Int.toNat (e (Int.toNat (↑x0.1 : Int))) % G.1) % G.1), Zi (IntKind.wrap IntKind.i64 ((↑x0.1 : Int) + 1))]) (y0)))))))) (.out (AV.tup [Zi (prdF G f e x0.1), Zi 0]) [] (AV.tup [Zi (prdF G f e 2), Zi 0]) [])))))
    (by kernel_rfl) ?_
  refine k_loop (fun _ hs => hs.le (⟨.refl _, .refl _, .refl _, .refl _, .refl _, .refl _, trivial⟩) (⟨.refl _, trivial⟩)) (fun x0 => ?_)
  try (have q0 := x0.2; dsimp only at q0)
  refine k_br (fun h1 => ?_) (fun h1 => ?_)
  · have g1 := cnd_dec_t h1
    refine k_req (by omega) ?_
    refine k_req (by omega) ?_
    refine k_sc ((gpow_c G) (f (Int.toNat (↑x0.1 : Int))) (e (Int.toNat (↑x0.1 : Int))) (by assumption) (by assumption) (by exact hf _ (by omega)) (by exact he _ (by omega))) ?_
    refine k_ff ?_
    refine k_sc ((gmul_c G) (prdF G f e x0.1) (f (Int.toNat (↑x0.1 : Int)) ^ Int.toNat (e (Int.toNat (↑x0.1 : Int))) % G.1) (by assumption) (by assumption) (by exact elem_prd h hf _ (by omega)) (by exact elem_pow h (hf _ (by omega)) _)) ?_
    refine k_ff ?_
    exact k_again (⟨x0.1 + 1, by omega⟩) (fun _ hs => hs.le (⟨.refl _, .refl _, .refl _, .refl _, .refl _, inc_ent (by omega), trivial⟩) (⟨.refl _, trivial⟩)) (by dsimp only; omega)
  · have g1 := cnd_dec_f h1
    exact k_out (by exact Ent.of_eq (by rw [show x0.1 = 2 by omega]))

theorem product2_c (b : Bas) (r1 r2 : Int) (hw : b.gr.W) (hv : validB b = true) : Pure Tryz.prog gl0 196 [b.gr.av, .isl 1 2 fun i _ => .int .i64 (sel2 b.g1 b.g2 i), .isl 1 2 fun i _ => .int .i64 (sel2 r1 r2 i)] (.tup [.int .i64 (pr2V b r1 r2), .int .i64 (pr2E b r1 r2)]) := by
  have h := validB_iff.1 hv
  have hf : ∀ i, i < 2 → elemB b.gr (sel2 b.g1 b.g2 i) = true := fun i hi => match i, hi with | 0, _ => h.e1 | 1, _ => h.e2
  have hg := validG_iff.2 h.G
  have c1 := pel_c b.gr 2 (sel2 b.g1 b.g2) (by decide) h.G hw hf
  have c2 := pex_c b.gr r1 r2
  have c3 := fun he => powers_c b.gr (sel2 b.g1 b.g2) (sel2 r1 r2) h.G hw hf he
  refine pure_sk (own := ow0) Tryz.func196 (by kernel_rfl) mixed (by kernel_rfl)
    (let y0 : List AV := [Zi (Bas.gr b).1, Zi (Bas.gr b).2, Zi (Bas.gr b).3]; let y1 : AV := (AV.tup [Zi (pr2V b r1 r2), Zi (pr2E b r1 r2)]); (.sc (true) 129 ([AV.agg y0]) (AV.bool (validG (Bas.gr b))) (.br (!validG b.1 || false) (.out (AV.tup [Zi 0, Zi 1]) [] y1 []) (.ff (.sc (true) 237 ([AV.agg y0, AV.isl 1 2 fun (i x : Nat) => Zi (sel2 b.2 b.3 i)]) (AV.bool true) (.sc (true) 238 ([AV.agg y0, AV.isl 1 2 fun (i x : Nat) => Zi (sel2 r1 r2 i)]) (AV.bool (scaB (Bas.gr b) r1 && scaB (Bas.gr b) r2)) (.br (!(scaB b.1 r1 && scaB b.1 r2)) (.out (AV.tup [Zi 0, Zi 2]) [] y1 []) (.sc (true) 239 ([AV.agg y0, AV.isl 1 2 fun (i x : Nat) => Zi (sel2 b.2 b.3 i), AV.isl 1 2 fun (i x : Nat) => Zi (sel2 r1 r2 i)]) (AV.tup [Zi (prdF (Bas.gr b) (sel2 (Bas.g1 b) (Bas.g2 b)) (sel2 r1 r2) 2), Zi 0]) (.out (AV.tup [Zi (prdF b.1 (sel2 b.2 b.3) (sel2 r1 r2) 2), Zi 0]) [] y1 [])))))))))
    (by kernel_rfl) ?_
  refine k_sc ((gvalid_c (Bas.gr b)) (by assumption)) ?_
  refine k_br (fun h1 => ?_) (fun h1 => ?_)
  · have g1 := (cnd_or_t (cnd_not_t cnd_id_f) cnd_id_t) h1
    exact k_out (by exfalso; simp [hg] at g1)
  · have g1 := (cnd_or_f (cnd_not_f cnd_id_t) cnd_id_f) h1
    refine k_ff ?_
    refine k_sc (c1) ?_
    refine k_sc (c2) ?_
    refine k_br (fun h6 => ?_) (fun h6 => ?_)
    · have g6 := (cnd_not_t (cnd_and_f cnd_id_f cnd_id_f)) h6
      exact k_out (Ent.of_eq (by rw [(pr2_no g6).1, (pr2_no g6).2]))
    · have g6 := (cnd_not_f (cnd_and_t cnd_id_t cnd_id_t)) h6
      refine k_sc (c3 (sca_sel g6)) ?_
      exact k_out (Ent.of_eq (by rw [(pr2_ok g6).1, (pr2_ok g6).2, prd_2 h.G]; rfl))

theorem product2_l (b : Bas) (r1 r2 : Int) (hw : b.gr.W) (hv : validB b = true) : Pure Tryz.prog gl0 196 [b.gr.av, .isl 1 2 fun r k => atL (List.getD [[.int .i64 b.g1], [.int .i64 b.g2]] r []) k, .isl 1 2 fun r k => atL (List.getD [[.int .i64 r1], [.int .i64 r2]] r []) k] (.tup [.int .i64 (pr2V b r1 r2), .int .i64 (pr2E b r1 r2)]) :=
  (product2_c b r1 r2 hw hv).via ⟨Ent.refl _, sel_isl, sel_isl, trivial⟩

theorem check2_c (b : Bas) (y r1 r2 : Int) (hw : b.gr.W) (hv : validB b = true) : Pure Tryz.prog gl0 151 [b.gr.av, .int .i64 y, .isl 1 2 fun i _ => .int .i64 (sel2 b.g1 b.g2 i), .isl 1 2 fun i _ => .int .i64 (sel2 r1 r2 i)] (.bool (chk2 b y r1 r2)) := by
  have c1 := product2_c b r1 r2 hw hv
  refine pure_sk (own := ow0) Tryz.func151 (by kernel_rfl) mixed (by kernel_rfl)
    (.sc (true) 196 ([AV.agg [Zi (Bas.gr b).1, Zi (Bas.gr b).2, Zi (Bas.gr b).3], AV.isl 1 2 fun (i x : Nat) => Zi (sel2 b.2 b.3 i), AV.isl 1 2 fun (i x : Nat) => Zi (sel2 r1 r2 i)]) (AV.tup [Zi (pr2V b r1 r2), Zi (pr2E b r1 r2)]) (.out (AV.bool (pr2E b r1 r2 == 0 && pr2V b r1 r2 == y)) [] (AV.bool (chk2 b y r1 r2)) []))
    (by kernel_rfl) ?_
  refine k_sc (c1) ?_
  exact k_out (Ent.of_eq (congrArg _ chk2_eq))

theorem check2_l (b : Bas) (y r1 r2 : Int) (hw : b.gr.W) (hv : validB b = true) : Pure Tryz.prog gl0 151 [b.gr.av, .int .i64 y, .isl 1 2 fun r k => atL (List.getD [[.int .i64 b.g1], [.int .i64 b.g2]] r []) k, .isl 1 2 fun r k => atL (List.getD [[.int .i64 r1], [.int .i64 r2]] r []) k] (.bool (chk2 b y r1 r2)) :=
  (check2_c b y r1 r2 hw hv).via ⟨Ent.refl _, Ent.refl _, sel_isl, sel_isl, trivial⟩

end Go.Proofs.YtdaaddkipdmajaaGreatDoor

namespace Go.Sp
open Go Go.Am
def lbF (s:Spend) (i:Nat):Int:=s.lf i 0
def newB (s:Spend) (i:Nat):Bool := !decide (lbF s i∈(List.range i).map (lbF s))
def okL (b:Bas) (s:Spend) (i:Nat):Bool:=leafB b s.a (chS b s) (s.lf i 0) (s.lf i 1) (s.lf i 2)&&newB s i
def dpN (s:Spend):Nat:=(s.depth - s.level).toNat
def topF (s:Spend):Nat→Int:=treF (fun i=>leafF (lbF s i)) (dpN s) 0
def hdB (b:Bas) (r:Rcd) (s:Spend):Bool:=coinV b r s.coin&&nodeB s.depth s.level s.index&&ctxB s.time s.number&&Nat.beq s.nl (2^dpN s)&&s.pidx==s.index
def vfy (b:Bas) (r:Rcd) (s:Spend):Bool:=hdB b r s&&allI (okL b s) s.nl&&((s.np:Int)==s.level&&hEq (folF (topF s) s.pidx s.pf s.np) s.root)
theorem map_ent {os:List (Option Ob)} {n:Nat} {f:Nat→Int}:Ent os (.isl 1 n fun i _=>.int .i64 (f i)) (il .i64 ((List.range n).map f)):=by
 show Ent os _ (.isl 1 ((List.range n).map f).length _)
 rw [show ((List.range n).map f).length=n by simp]
 exact Ent.isl fun i j hi _=>congrArg (AV.int .i64) (getD_map hi).symm
theorem mem_map_r {f:Nat→Int} {n:Nat} {v:Int}:v∈(List.range n).map f↔∃ j,j<n∧f j=v:=by simp
theorem sz_w {s:Spend} (h:nodeB s.depth s.level s.index=true):IntKind.wrap .i64 (1*2^min (Int.toNat (IntKind.wrap .i64 (s.depth - s.level))) 64)=((2^dpN s:Nat):Int)∧IntKind.wrap .i64 (s.depth - s.level)=s.depth - s.level∧dpN s≤5:=by
 have k:=node_t h
 have e:IntKind.wrap .i64 (s.depth - s.level)=s.depth - s.level:=wI (by omega) (by omega)
 refine ⟨?_,e,by unfold dpN;omega⟩
 rw [e]
 exact shw (x:=dpN s) (by unfold dpN;omega)
theorem cv_ok {b:Bas} {r:Rcd} {c:Coin} (h:coinV b r c=true):validB b=true∧elemB b.gr c.a=true:=by
 unfold coinV rcvB keyB verR at h
 simp only [Bool.and_eq_true] at h
 exact ⟨h.1.1.1.1.1.1.1.1.1.1.1,msg_el h.2.1.1.1.2⟩
structure HdOk (b:Bas) (r:Rcd) (s:Spend):Prop where
 hd:hdB b r s=true
 v:validB b=true
 a:elemB b.gr s.a=true
 n:nodeB s.depth s.level s.index=true
 l:s.nl=2^dpN s
 d:dpN s≤5
 lv:0≤s.level∧s.level≤5
 ix:0≤s.pidx∧s.pidx<2^s.level.toNat
 n32:s.nl≤32
 lb:lvB s.nl=true
 q0:0<b.gr.q
 q1:b.gr.q<2305843009213693952
 k:0≤chS b s∧chS b s<b.gr.q
 top:byB (topF s) 32
 p0:0≤s.pidx
 p1:s.pidx<9223372036854775807
theorem leafF_by (x:Int):byB (leafF x) 32:=tagI_by _ _ _
theorem hd_of {b:Bas} {r:Rcd} {s:Spend} (h:hdB b r s=true):HdOk b r s:=by
 have h0:=h
 unfold hdB at h
 simp only [Bool.and_eq_true,Nat.beq_eq,beq_iff_eq] at h
 obtain ⟨⟨⟨⟨h1,h2⟩,_⟩,h4⟩,h5⟩:=h
 have k:=node_t h2
 have hd:dpN s≤5:=(sz_w h2).2.2
 have hp:2^dpN s≤32:=by have:=pow5 (d:=dpN s) (k:=0) hd;rwa [Nat.sub_zero] at this
 have hq:=validB_q (cv_ok h1).1
 exact ⟨h0,(cv_ok h1).1,(cv_ok h1).2,h2,h4,hd,by omega,by rw [h5];exact ⟨k.2.2.2.2.1,k.2.2.2.2.2⟩,by omega,by rw [h4];exact lvB_d hd,hq.1,hq.2,chS_q hq.1,
  tre_by (n:=2^dpN s) (fun i _=>leafF_by _) (dpN s) 0 (by omega),by omega,by have:=(p2 (k:=s.level) (by omega) (by omega)).2.2.2;omega⟩
abbrev szW (s:Spend):Int:=IntKind.wrap .i64 (1*2^min (Int.toNat (IntKind.wrap .i64 (s.depth - s.level))) 64)
theorem hd_ok {b:Bas} {r:Rcd} {s:Spend} (h:(((coinV b r s.coin=true∧nodeB s.depth s.level s.index=true)∧ctxB s.time s.number=true)∧(s.nl:Int)=szW s)∧s.pidx=s.index):HdOk b r s:=by
 refine hd_of ?_
 obtain ⟨⟨⟨⟨h1,h2⟩,h3⟩,h4⟩,h5⟩:=h
 have h4:=h4.trans (sz_w h2).1
 have h4:s.nl=2^dpN s:=Int.ofNat.inj h4
 unfold hdB
 rw [h1,h2,h3,(Nat.beq_eq▸h4:Nat.beq s.nl (2^dpN s)=true),h5]
 simp
theorem vfy_h {b:Bas} {r:Rcd} {s:Spend} (h:hdB b r s=false):vfy b r s=false:=by unfold vfy;rw [h];rfl
theorem hd_no {b:Bas} {r:Rcd} {s:Spend} (h:(((coinV b r s.coin=false∨nodeB s.depth s.level s.index=false)∨ctxB s.time s.number=false)∨¬(s.nl:Int)=szW s)∨¬s.pidx=s.index):vfy b r s=false:=by
 refine vfy_h ?_
 rcases h with (((h|h)|h)|h)|h
 ·unfold hdB;simp [h]
 ·unfold hdB;simp [h]
 ·unfold hdB;simp [h]
 ·cases hn:nodeB s.depth s.level s.index with
  | false=>unfold hdB;simp [hn]
  | true =>
   have h:¬(s.nl:Int)=((2^dpN s:Nat):Int):=fun e=>h (e.trans (sz_w hn).1.symm)
   have:Nat.beq s.nl (2^dpN s)=false:=by
    rw [Bool.eq_false_iff,ne_eq,Nat.beq_eq]
    exact fun e=>h (congrArg Int.ofNat e)
   unfold hdB;simp [this]
 ·unfold hdB;simp [h]
theorem okL_el {b:Bas} {s:Spend} {i:Nat} (h:okL b s i=true):elemB b.gr (lbF s i)=true:=by
 unfold okL leafB at h;simp only [Bool.and_eq_true] at h;exact h.1.1
theorem okL_no {b:Bas} {s:Spend} {i:Nat} (h:leafB b s.a (chS b s) (s.lf i 0) (s.lf i 1) (s.lf i 2)=false∨s.lf i 0∈(List.range i).map fun i=>lbF s (i+0)):okL b s i=false:=by
 unfold okL newB
 rcases h with h|h
 ·rw [h];rfl
 ·have h:lbF s i∈(List.range i).map (lbF s):=h
  rw [decide_eq_true h];simp
theorem okL_yes {b:Bas} {s:Spend} {i:Nat} (h:leafB b s.a (chS b s) (s.lf i 0) (s.lf i 1) (s.lf i 2)=true∧¬s.lf i 0∈(List.range i).map fun i=>lbF s (i+0)):okL b s i=true:=by
 unfold okL newB
 have h':¬lbF s i∈(List.range i).map (lbF s):=h.2
 rw [decide_eq_false h',h.1];rfl
theorem vfy_l {b:Bas} {r:Rcd} {s:Spend} {i:Nat} (hi:i<s.nl) (h:okL b s i=false):vfy b r s=false:=by
 unfold vfy;rw [allI_f hi h];simp
theorem vfy_t {b:Bas} {r:Rcd} {s:Spend} (hd:hdB b r s=true) (h:∀ i,i<s.nl→okL b s i=true):vfy b r s=((s.np:Int)==s.level&&hEq (folF (topF s) s.pidx s.pf s.np) s.root):=by
 unfold vfy;rw [hd,allI_t h];rfl
abbrev szR (s:Spend):Int:=IntKind.wrap .i64 (spanZ s.depth s.level s.index - spanA s.depth s.level s.index)
theorem sz_r {s:Spend} (h:nodeB s.depth s.level s.index=true):szR s=((2^dpN s:Nat):Int):=by
 have k:=node_t h
 have e:spanZ s.depth s.level s.index - spanA s.depth s.level s.index=((2^dpN s:Nat):Int):=by
  unfold spanZ spanA
  rw [if_pos h,if_pos h,Int.add_mul,Int.one_mul,Int.natCast_pow]
  show s.index*2^dpN s+2^dpN s - s.index*2^dpN s=2^dpN s
  generalize s.index*2^dpN s=y
  omega
 have hp:2^dpN s≤32:=by have:=pow5 (d:=dpN s) (k:=0) (sz_w h).2.2;rwa [Nat.sub_zero] at this
 unfold szR
 rw [e]
 have hi:((2^dpN s:Nat):Int)≤32:=Int.ofNat_le.2 hp
 have h0:(0:Int)≤((2^dpN s:Nat):Int):=Int.natCast_nonneg _
 generalize ((2^dpN s:Nat):Int)=y at hi h0
 exact wI (by omega) (by omega)
theorem cv_v {b:Bas} {r:Rcd} {c:Coin} (h:validB b=false):coinV b r c=false:=by
 cases hc:coinV b r c with
 | false=>rfl
 | true=>rw [(cv_ok hc).1] at h;cases h
theorem rhd_no {b:Bas} {r:Rcd} {s:Spend} (h:((validB b=false∨coinV b r s.coin=false)∨nodeB s.depth s.level s.index=false)∨ctxB s.time s.number=false):vfy b r s=false:=by
 refine vfy_h ?_
 rcases h with ((h|h)|h)|h
 ·unfold hdB;simp [cv_v h]
 ·unfold hdB;simp [h]
 ·unfold hdB;simp [h]
 ·unfold hdB;simp [h]
theorem rhd_ok {b:Bas} {r:Rcd} {s:Spend} (h:((validB b=true∧coinV b r s.coin=true)∧nodeB s.depth s.level s.index=true)∧ctxB s.time s.number=true) (h':((s.nl:Int)=szR s∧s.pidx=s.index)∧(s.np:Int)=s.level):HdOk b r s :=
 hd_ok ⟨⟨⟨⟨h.1.1.2,h.1.2⟩,h.2⟩,h'.1.1.trans ((sz_r h.1.2).trans (sz_w h.1.2).1.symm)⟩,h'.1.2⟩
theorem vfy_n {b:Bas} {r:Rcd} {s:Spend} (h:¬(s.np:Int)=s.level):vfy b r s=false:=by
 unfold vfy
 rw [show ((s.np:Int)==s.level)=false by simpa using h]
 simp
theorem rhd_no2 {b:Bas} {r:Rcd} {s:Spend} (h:((validB b=true∧coinV b r s.coin=true)∧nodeB s.depth s.level s.index=true)∧ctxB s.time s.number=true) (h':(¬(s.nl:Int)=szR s∨¬s.pidx=s.index)∨¬(s.np:Int)=s.level):vfy b r s=false:=by
 rcases h' with (h'|h')|h'
 ·exact hd_no (.inl (.inr fun e=>h' (e.trans ((sz_w h.1.2).1.trans (sz_r h.1.2).symm))))
 ·exact hd_no (.inr h')
 ·exact vfy_n h'
theorem vfy_r {b:Bas} {r:Rcd} {s:Spend} (hd:hdB b r s=true) (hn:(s.np:Int)=s.level) (h:∀ i,i<s.nl→okL b s i=true):vfy b r s=hEq (folF (topF s) s.pidx s.pf s.np) s.root:=by
 rw [vfy_t hd h,show ((s.np:Int)==s.level)=true by simpa using hn];rfl
theorem okL_n {b:Bas} {s:Spend} {i:Nat} (h:leafB b s.a (chS b s) (s.lf i 0) (s.lf i 1) (s.lf i 2)=true) (hk:∀ j,j<i→¬lbF s j=lbF s i):okL b s i=true :=
 okL_yes ⟨h,fun e=>by
  obtain ⟨j,hj,e⟩:=(mem_map_r (f:=fun i=>lbF s (i+0))).1 e
  exact hk j hj e⟩
theorem okL_l {b:Bas} {s:Spend} {i:Nat} (h:leafB b s.a (chS b s) (s.lf i 0) (s.lf i 1) (s.lf i 2)=false):okL b s i=false:=okL_no (.inl h)
theorem okL_m {b:Bas} {s:Spend} {i j:Nat} (hj:j<i) (h:s.lf j 0=s.lf i 0):okL b s i=false:=okL_no (.inr (mem_map_r.2 ⟨j,hj,h⟩))
theorem ne_next {f:Nat→Int} {v:Int} {i:Nat} (h:∀ j,j<i→¬f j=v) (hi:¬f i=v):∀ j,j<i+1→¬f j=v:=fun j hj=>by
 by_cases e:j=i
 ·subst e;exact hi
 ·exact h j (by omega)
def nzB (b : Bas) (x : Int) : Bool := decide (x ≥ 1) && decide (x < b.gr.q)
def msgJ (b : Bas) (u : Int) : Int := pr2V b u 1
def lfJ (b : Bas) (X : Nat → Nat → Int) (i : Nat) : Int := pr2V b (X i 0) (X i 1)
def pairB (b : Bas) (X : Nat → Nat → Int) (i : Nat) : Bool := scaB b.gr (X i 0) && scaB b.gr (X i 1)
def seenB (b : Bas) (X : Nat → Nat → Int) (i : Nat) : Bool := (List.range i).any fun j => decide (lfJ b X i = lfJ b X j)
def secH (b : Bas) (u s : Int) (n : Nat) : Bool := validB b && (nzB b u && (nzB b s && ((msgJ b u != 1) && lvB n)))
def secB (b : Bas) (u s : Int) (X : Nat → Nat → Int) (n : Nat) : Bool := secH b u s n && allI (fun i => pairB b X i && !seenB b X i) n
def secA (u s : Int) (X : Nat → Nat → Int) (n : Nat) : AV := .agg [.int .i64 u, .int .i64 s, .isl 2 n fun i j => .int .i64 (X i j)]
theorem secH_n {b : Bas} {u s : Int} {n : Nat} : (!validB b || !nzB b u || !nzB b s || (msgJ b u == 1) || !lvB n) = !secH b u s n := by
  unfold secH
  cases validB b <;> cases nzB b u <;> cases nzB b s <;> cases hm : (msgJ b u == 1) <;> cases lvB n <;> simp_all
theorem seen_n {b : Bas} {X : Nat → Nat → Int} {i : Nat} : (!scaB b.gr (X i 0) || !scaB b.gr (X i 1) || (List.range i).any fun j => decide (pr2V b (X i 0) (X i 1) = lfJ b X j)) = !(pairB b X i && !seenB b X i) := by
  unfold pairB seenB
  show (_ || (List.range i).any fun j => decide (lfJ b X i = lfJ b X j)) = _
  cases scaB b.gr (X i 0) <;> cases scaB b.gr (X i 1) <;> simp
theorem nz_sca {b : Bas} {x : Int} (h : nzB b x = true) : scaB b.gr x = true := by
  unfold nzB at h
  simp at h
  exact sca_iff.2 ⟨by omega, h.2⟩
theorem pr2_bnd {b : Bas} {x y : Int} (hv : validB b = true) : 0 ≤ pr2V b x y ∧ pr2V b x y < b.gr.p := by
  have h := validB_iff.1 hv
  unfold pr2V
  cases hc : (scaB b.gr x && scaB b.gr y) with
  | false => have := h.G.p3; exact ⟨Int.le_refl _, by show (0 : Int) < _; omega⟩
  | true => exact mod_bnd h.G _
theorem secB_f {b : Bas} {u s : Int} {X : Nat → Nat → Int} {n i : Nat} (hi : i < n) (h : (pairB b X i && !seenB b X i) = false) : secB b u s X n = false := by
  unfold secB
  rw [allI_f hi h, Bool.and_false]
theorem secB_t {b : Bas} {u s : Int} {X : Nat → Nat → Int} {n : Nat} (h0 : secH b u s n = true) (h : ∀ i, i < n → (pairB b X i && !seenB b X i) = true) : secB b u s X n = true := by
  unfold secB
  rw [h0, allI_t h]; rfl
theorem secH_all {b : Bas} {u s : Int} {n : Nat} (h : secH b u s n = true) : validB b = true ∧ nzB b u = true ∧ nzB b s = true ∧ (msgJ b u != 1) = true ∧ lvB n = true := by
  unfold secH at h
  simp only [Bool.and_eq_true] at h
  exact h
structure SecOk (b : Bas) (u s : Int) (X : Nat → Nat → Int) (n : Nat) : Prop where
  v : validB b = true
  hu : nzB b u = true
  hs : nzB b s = true
  m : (msgJ b u != 1) = true
  l : lvB n = true
  p : ∀ i, i < n → pairB b X i = true
  d : ∀ i, i < n → seenB b X i = false
theorem sec_all {b : Bas} {u s : Int} {X : Nat → Nat → Int} {n : Nat} (h : secB b u s X n = true) : SecOk b u s X n := by
  unfold secB at h
  rw [Bool.and_eq_true] at h
  obtain ⟨h1, h2, h3, h4, h5⟩ := secH_all h.1
  have k : ∀ i, i < n → pairB b X i = true ∧ seenB b X i = false := fun i hi => by
    have := List.all_eq_true.1 h.2 i (List.mem_range.2 hi)
    simpa using this
  exact ⟨h1, h2, h3, h4, h5, fun i hi => (k i hi).1, fun i hi => (k i hi).2⟩
theorem sec_of {b : Bas} {u s : Int} {X : Nat → Nat → Int} {n : Nat} (h : SecOk b u s X n) : secB b u s X n = true := by
  unfold secB secH
  rw [h.v, h.hu, h.hs, h.m, h.l]
  exact allI_t fun i hi => by rw [h.p i hi, h.d i hi]; rfl
theorem sca_one {b : Bas} (h : b.Ok) : scaB b.gr 1 = true := sca_iff.2 ⟨by decide, by have := h.G.q3; omega⟩
theorem nz_rng {b : Bas} {x : Int} (h : nzB b x = true) : 0 ≤ x ∧ x < b.gr.q := sca_iff.1 (nz_sca h)
theorem msgJ_el {b : Bas} {u : Int} (hv : validB b = true) (hu : nzB b u = true) : elemB b.gr (msgJ b u) = true := by
  have h := validB_iff.1 hv
  unfold msgJ
  rw [(pr2_ok ⟨nz_sca hu, sca_one h⟩).1]
  exact elem_mul h.G (elem_pow h.G h.e1 _) (elem_pow h.G h.e2 _)
theorem dp_lv (p : Nat → Bool) : (decide (firstI p 11 0 ≥ 0) && decide (firstI p 11 0 ≤ 5)) = decide (firstI p 6 0 ≥ 0) := by
  by_cases h0 : p 0 = true
  · simp [firstI, h0]
  by_cases h1 : p 1 = true
  · simp [firstI, h0, h1]
  by_cases h2 : p 2 = true
  · simp [firstI, h0, h1, h2]
  by_cases h3 : p 3 = true
  · simp [firstI, h0, h1, h2, h3]
  by_cases h4 : p 4 = true
  · simp [firstI, h0, h1, h2, h3, h4]
  by_cases h5 : p 5 = true
  · simp [firstI, h0, h1, h2, h3, h4, h5]
  have e1 : firstI p 11 0 = firstI p 5 6 := by simp [firstI, h0, h1, h2, h3, h4, h5]
  have e2 : firstI p 6 0 = -1 := by simp [firstI, h0, h1, h2, h3, h4, h5]
  have e3 : firstI p 5 6 = -1 ∨ 6 ≤ firstI p 5 6 := by
    simp only [firstI]
    repeat' split
    all_goals omega
  rw [e1, e2]
  rcases e3 with e | e
  · rw [e]; decide
  · rw [decide_eq_false (by omega : ¬ firstI p 5 6 ≤ 5), Bool.and_false]; decide
def dpJ (n : Nat) : Int := firstI (fun d => (n : Int) == ((2 ^ d : Nat) : Int)) 11 0
theorem dpJ_lv (n : Nat) : (decide (dpJ n ≥ 0) && decide (dpJ n ≤ 5)) = lvB n := dp_lv _
theorem shl1_f : ∀ x : Fin 11, IntKind.wrap .i64 ((1 : Int) * 2 ^ min (Int.toNat ((x.1 : Nat) : Int)) 64) = ((2 ^ x.1 : Nat) : Int) := by decide +kernel
theorem shl1 {x : Nat} (h : x ≤ 10) : IntKind.wrap .i64 ((1 : Int) * 2 ^ min x 64) = ((2 ^ x : Nat) : Int) := shl1_f ⟨x, by omega⟩
theorem any_t {n i : Nat} {p : Nat → Bool} (hi : i < n) (h : p i = true) : (List.range n).any p = true := List.any_eq_true.2 ⟨i, List.mem_range.2 hi, h⟩
theorem any_f {n : Nat} {p : Nat → Bool} (h : ∀ i, i < n → p i = false) : (List.range n).any p = false := List.any_eq_false.2 fun i hi => by rw [h i (List.mem_range.1 hi)]; decide
theorem lf_out {os : List (Option Ob)} {n m : Nat} {f : Nat → Int} (h : m = n) : Ent os (.isl 1 m fun r k => atL [AV.int .i64 (f (r + 0))] k) (.isl 1 n fun i _ => .int .i64 (f i)) := by
  subst h
  exact Ent.isl fun i j _ hj => by obtain rfl : j = 0 := Nat.lt_one_iff.1 hj; rfl
theorem pair_all {b : Bas} {X : Nat → Nat → Int} {i : Nat} (h : pairB b X i = true) : scaB b.gr (X i 0) = true ∧ scaB b.gr (X i 1) = true := by
  unfold pairB at h
  simpa using h
def psJ (b : Bas) (u s : Int) : Int := msgJ b u ^ s.toNat % b.gr.p
end Go.Sp
