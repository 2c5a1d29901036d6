/- The rules of a walk, as one set of the simplifier. -/
import Derived.Test.YtfbflmiipepmiaaHzSat
set_option linter.unusedVariables false
namespace Go.Hz
theorem wrap_i64_go {x : Int} (h1 : -9223372036854775808 ≤ x) (h2 : x ≤ 9223372036854775807) : IntKind.i64.wrap x = x := by
  simp only [IntKind.wrap, IntKind.signed, IntKind.bits]
  simp
  omega
attribute [go_sem] run_skip run_reg run_seq run_cond run_block run_exit run_ret fall_nil fall_code fall_blk fall_lp out_nil out_code out_blk out_lp runS_nil cnd_true cnd_false nx_some nx_if nxh_some nxh_obl obls_nil obls_cons stab_ld stab_ldg stab_bs stab_bsg gd_bool gd_tup msl_inl msl_inr bsl_some runS_op opR ev_tm ev_cs evs_nil evs_cons evIdx_nil evIdx_cons evParts_nil evParts_cons oev_none oev_some Env.put_some Env.put_none true_and and_true List.getD_cons_zero List.getD_cons_succ initE binA pickA eqN_b eqN_pnn eqN_ppn eqN_pnp eqN_prn eqN_snn eqN_san eqN_sen eqN_sln eqN_mnn eqN_mmn eqN_fnn eqN_ffn eqN_iin eqN_inn unA cviA strA ckA faA fldA ixsA iaA_arr lenS lenL_lst lenL_arr lenL_nils lenL_emp bstrA_nils capL extA mmA ldA cellsAt_ptr cellsAt_ro partA stA cells_bool atom_bool cells_int atom_int cells_str atom_str cells_nilp atom_nilp cells_ptr atom_ptr cells_ro atom_ro cells_nils atom_nils cells_lst atom_lst cells_arr atom_arr cells_nilm atom_nilm cells_map atom_map cells_fn atom_fn cells_nilf atom_nilf cells_nili atom_nili cells_iface atom_iface cells_agg List.map_cons List.map_nil List.getElem?_cons_zero List.drop_zero Option.map_some Option.map_none List.length_cons List.length_nil Hp.set_same forall_const implies_true List.not_mem_nil false_implies Bool.true_eq_false Bool.false_eq_true resK_nil resK_tmp resK_cell resK_more resL_nil resL_tmp resL_cell Option.bind_some ex_some true_implies setL List.replicate List.all_cons List.all_nil Bool.and_true Bool.true_and Bool.and_self IntKind.bits splice List.length_append List.drop_succ_cons List.take_succ_cons List.take_zero List.getElem?_cons_succ List.getElem?_nil List.set_cons_zero List.set_cons_succ List.cons_append List.nil_append List.append_nil Nat.zero_add Nat.add_zero decide_true decide_false Bool.not_true Bool.not_false ne_eq not_true_eq_false not_false_eq_true
attribute [go_sem ↓] Env.upd_apply
theorem bstr_lst {h : Hp} {bs : List UInt8} : bstrA h (.lst (bs.map eb)) = some (.str bs) := Bts.bstr (Els.lst (eb_one _))
theorem iaA_go {s b off len c : Nat} {k : IntKind} {n : Int} (h1 : 0 ≤ n) (h2 : n < len) : iaA s (.arr b s off len c) (.int k n) = some (.ptr b s (off + n.toNat) 0) := by
  simp [iaA, h1, h2]
attribute [go_sem] eq_self Int.cast_ofNat_Int List.length_map bstr_lst wrap_i64_go beq_self_eq_true bne_self_eq_false Hp.set_set fillA boxR iapA ixaA
attribute [go_sem high] iaA_go Int.toNat_natCast
end Go.Hz
