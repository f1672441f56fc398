/-
  The conditions of functions of the translation, written out by a program of mine (wip/v/gen.lean); the kernel holds each against the code.
-/
import Derived.Test.YtopefchiadmpaaaVText
import Derived.Test.YtopefchiadmpaaaChecked
namespace Go.Proofs.Ytopefchiadmpaaa.T
open Go.Proofs.Ytopefchiadmpaaa.V
set_option linter.unusedVariables false
set_option maxRecDepth 100000

noncomputable abbrev PR : Program := Try.prog
theorem follows : PR.follows .mixedOrders = true := by kernel_rfl

/-- drover/droverlaw12.DagCycles -/
def f3 (x0 x1 : Value) (w0 : World) (R : Kv) : Prop :=
  Ret PR 9 #[] w0 fun v3 w4 =>
  pO (unO .not v3) fun v5 =>
  cnd v5 (
    R (.bool false) w4) (
    pO (arithO .rem x0 (.int .u8 60)) fun v8 =>
    pO (cviO .i64 v8) fun v9 =>
    pO (arithO .add (.int .i64 1) v9) fun v10 =>
    Ret PR 10 #[] w4 fun v12 w13 =>
    loopV (X := Value) (.int .i64 0) w13 (fun K446 x445 w70 => ∀ _ : Env,
      pO (arithO .lss x445 v10) fun v449 =>
      cnd v449 (
        pO (arithO .mul x445 (.int .i64 7)) fun v452 =>
        pO (cviO .i64 x1) fun v453 =>
        pO (arithO .add v452 v453) fun v454 =>
        pO (arithO .rem v454 v10) fun v455 =>
        join (X := Value) (fun x546 w466 => ∀ _ : Env,
          pO (arithO .add (.int .i64 1) x546) fun v548 =>
          pO (arithO .add x546 (.int .i64 1)) fun v549 =>
          pO (arithO .rem v549 v10) fun v550 =>
          pO (arithO .add (.int .i64 1) v550) fun v551 =>
          sv PR (Instr.buildSlice 31 1 #[(0, v551)]) w466 fun v552 w553 =>
          Ret PR 11 #[v12, v548, v552] w553 fun v554 w555 =>
          pO (exO v554 0) fun v556 =>
          pO (exO v554 1) fun v557 =>
          pO (cmpO false (eqlO v557 (.int .i64 8))) fun v559 =>
          pO (arithO .sub v10 (.int .i64 1)) fun v560 =>
          pO (cmpO false (eqlO x445 v560)) fun v561 =>
          pO (cmpO true (eqbO v559 v561)) fun v562 =>
          gB (X := Value) v562 false undef (fun K624 =>
            pO (cmpO true (eqlO v557 (.int .i64 0))) fun v625 =>
            K624 v625 w555) w555 fun x595 w566 =>
          gB (X := Value) x595 true undef (fun K622 =>
            pO (cmpO true (eqlO v557 (.int .i64 8))) fun v623 =>
            K622 v623 w566) w566 fun x610 w598 =>
          gB (X := Value) v562 false undef (fun K620 =>
            pO (pkO x595 x610 (.bool false)) fun v621 =>
            K620 v621 w598) w598 fun x616 w612 =>
          pO (pkO v562 (.bool true) x616) fun v617 =>
          cnd v617 (
            R (.bool false) w612) (
            pO (arithO .add x445 (.int .i64 1)) fun v619 =>
            K446 v619 w612))
        (fun K626 =>
          pO (arithO .rem v10 (.int .i64 7)) fun v628 =>
          pO (cmpO false (eqlO v628 (.int .i64 0))) fun v629 =>
          cnd v629 (
            pO (cviO .i64 x1) fun v630 =>
            pO (arithO .add x445 v630) fun v631 =>
            pO (arithO .rem v631 v10) fun v632 =>
            K626 v632 w70) (
            K626 v455 w70))) (
        R (.bool true) w70)))
def a3 : Ann := (.two .nil (.two (.two .nil (.two (.two .nil .nil) .nil)) (.two .nil (.two .nil (.two (.two .nil (.loop [18, 19, 20, 23, 24, 25, 26, 27, 28, 29, 8, 30, 31, 32, 33, 34, 35, 36, 37, 38, 40, 41, 42, 43, 44, 45, 46, 47, 48, 49, 39, 50, 51, 9, 10, 52, 53, 54, 55, 56, 57, 58, 59, 60, 61, 62, 63, 64, 65, 66, 4, 21, 22, 7] [7] (.two (.two .nil (.two .nil .nil)) (.two (.two .nil (.join [30, 31, 32, 33, 34, 35, 36, 37, 38, 8] [8] (.two .nil (.two .nil .nil)) (.two .nil (.two .nil (.two (.two .nil .nil) .nil))))) .nil)))) (.two .nil .nil))))))
theorem f3_ret {x0 x1 : Value} {w0 : World} {R : Kv} (h : f3 x0 x1 w0 R) : Ret PR 3 #[x0, x1] w0 R :=
  ret_of_vc (fn := Try.f3) (c := body Try.f3) (x := a3) (args := [x0, x1]) follows Try.func3 (body_eq (by kernel_rfl)) (by kernel_rfl) (Nat.le_of_ble_eq_true (by kernel_rfl))
    (Eq.mp (show f3 x0 x1 w0 R = vcF PR Try.f3.results.toList (body Try.f3) a3 [x0, x1] w0 R by kernel_rfl) h)

/-- drover/droverlaw12.DagOrder -/
def f4 (x0 : Value) (w0 : World) (R : Kv) : Prop :=
  Ret PR 9 #[] w0 fun v3 w4 =>
  pO (unO .not v3) fun v5 =>
  gB (X := Value) v5 false undef (fun K40553 =>
    Ret PR 12 #[x0] w4 fun v40554 w40555 =>
    pO (unO .not v40554) fun v40556 =>
    K40553 v40556 w40555) w4 fun x20281 w9 =>
  pO (pkO v5 (.bool true) x20281) fun v20282 =>
  cnd v20282 (
    Ret PR 9 #[] w9 fun v20284 w20285 =>
    R v20284 w20285) (
    Ret PR 10 #[] w9 fun v20287 w20288 =>
    loopV (X := Value × Value) ((.slice none 0 0), (.int .i64 0)) w20288 (fun K33813 x33812 w20333 => ∀ _ : Env,
      pO (lenO x0) fun v33816 =>
      pO (arithO .lss x33812.2 v33816) fun v33817 =>
      cnd v33817 (
        join (X := Value) (fun x33854 w33852 => ∀ _ : Env,
          pO (arithO .add x33812.2 (.int .i64 1)) fun v33855 =>
          K33813 (x33854, v33855) w33852)
        (fun K33856 =>
          pO (ixsO 3 x0 x33812.2) fun v33858 =>
          pO (faO 0 v33858) fun v33859 =>
          l1 v33859 w20333 fun v33860 =>
          pO (cmpO false (eqlO v33860 (.int .i64 1))) fun v33861 =>
          cnd v33861 (
            pO (ixsO 3 x0 x33812.2) fun v33863 =>
            pO (faO 1 v33863) fun v33864 =>
            pO (ixsO 3 x0 x33812.2) fun v33865 =>
            pO (faO 2 v33865) fun v33866 =>
            l1 v33864 w20333.drew fun v33867 =>
            l1 v33866 w20333.drew fun v33868 =>
            Ret PR 11 #[v20287, v33867, v33868] w20333.drew fun v33869 w33870 =>
            pO (exO v33869 0) fun v33871 =>
            pO (exO v33869 1) fun v33872 =>
            pO (cmpO false (eqlO v33872 (.int .i64 0))) fun v33874 =>
            cnd v33874 (
              pO (ixsO 3 x0 x33812.2) fun v33875 =>
              pO (faO 1 v33875) fun v33876 =>
              l1 v33876 w33870 fun v33877 =>
              sv PR (Instr.buildSlice 31 1 #[(0, v33877)]) w33870 fun v33878 w33879 =>
              sv PR (Builtin.append_ #[31, 31] 31 #[x33812.1, v33878]) w33879 fun v33880 w33881 =>
              K33856 v33880 w33881) (
              K33856 x33812.1 w33870)) (
            K33856 x33812.1 w20333))) (
        loopV (X := Value × Value) ((.slice none 0 0), (.int .i64 0)) w20333 (fun K38354 x38353 w33956 => ∀ _ : Env,
          pO (lenO x33812.1) fun v38357 =>
          pO (arithO .leq x38353.2 v38357) fun v38358 =>
          cnd v38358 (
            loopV (X := Value × Value) (x38353.1, (.int .i64 0)) w33956 (fun K39841 x39840 w38425 => ∀ _ : Env,
              pO (lenO x33812.1) fun v39844 =>
              pO (arithO .lss x39840.2 v39844) fun v39845 =>
              cnd v39845 (
                join (X := Value) (fun x39905 w39903 => ∀ _ : Env,
                  pO (arithO .add x39840.2 (.int .i64 1)) fun v39906 =>
                  K39841 (x39905, v39906) w39903)
                (fun K39907 =>
                  pO (ixsO 1 x33812.1 x39840.2) fun v39909 =>
                  l1 v39909 w38425 fun v39910 =>
                  Ret PR 13 #[v20287, v39910] w38425 fun v39911 w39912 =>
                  pO (exO v39911 0) fun v39913 =>
                  pO (exO v39911 1) fun v39914 =>
                  pO (cmpO false (eqlO v39914 (.int .i64 0))) fun v39916 =>
                  gB (X := Value) v39916 true undef (fun K40542 =>
                    pO (ixsO 1 x33812.1 x39840.2) fun v40543 =>
                    l1 v40543 w39912 fun v40544 =>
                    Ret PR 14 #[x39840.1, v40544] w39912 fun v40545 w40546 =>
                    pO (unO .not v40545) fun v40547 =>
                    K40542 v40547 w40546) w39912 fun x40233 w39924 =>
                  pO (pkO v39916 x40233 (.bool false)) fun v40234 =>
                  loopV (X := Value × Value) (v40234, (.int .i64 0)) w39924 (fun K40449 x40448 w40263 => ∀ _ : Env,
                    pO (lenO v39913) fun v40452 =>
                    pO (arithO .lss x40448.2 v40452) fun v40453 =>
                    cnd v40453 (
                      gB (X := Value) x40448.1 true undef (fun K40530 =>
                        pO (ixsO 1 v39913 x40448.2) fun v40531 =>
                        l1 v40531 w40263 fun v40532 =>
                        Ret PR 14 #[x39840.1, v40532] w40263 fun v40533 w40534 =>
                        K40530 v40533 w40534) w40263 fun x40496 w40462 =>
                      gB (X := Value) x40496 false undef (fun K40524 =>
                        pO (ixsO 1 v39913 x40448.2) fun v40525 =>
                        l1 v40525 w40462 fun v40526 =>
                        Ret PR 14 #[x33812.1, v40526] w40462 fun v40527 w40528 =>
                        pO (unO .not v40527) fun v40529 =>
                        K40524 v40529 w40528) w40462 fun x40514 w40504 =>
                      gB (X := Value) x40448.1 true undef (fun K40522 =>
                        pO (pkO x40496 (.bool true) x40514) fun v40523 =>
                        K40522 v40523 w40504) w40504 fun x40519 w40516 =>
                      pO (pkO x40448.1 x40519 (.bool false)) fun v40520 =>
                      pO (arithO .add x40448.2 (.int .i64 1)) fun v40521 =>
                      K40449 (v40520, v40521) w40516) (
                      cnd x40448.1 (
                        pO (ixsO 1 x33812.1 x39840.2) fun v40536 =>
                        l1 v40536 w40263 fun v40537 =>
                        sv PR (Instr.buildSlice 31 1 #[(0, v40537)]) w40263 fun v40538 w40539 =>
                        sv PR (Builtin.append_ #[31, 31] 31 #[x39840.1, v40538]) w40539 fun v40540 w40541 =>
                        K39907 v40540 w40541) (
                        K39907 x39840.1 w40263))))) (
                pO (arithO .add x38353.2 (.int .i64 1)) fun v40548 =>
                K38354 (x39840.1, v40548) w38425))) (
            pO (lenO x38353.1) fun v40550 =>
            pO (lenO x33812.1) fun v40551 =>
            pO (cmpO false (eqlO v40550 v40551)) fun v40552 =>
            R v40552 w33956)))))
def a4 : Ann := (.two .nil (.two (.two .nil (.two (.two .nil .nil) .nil)) (.two .nil (.two .nil (.two (.two .nil (.loop [24, 25, 26, 27, 30, 31, 32, 33, 34, 35, 37, 38, 39, 40, 41, 42, 43, 44, 45, 46, 47, 48, 36, 49, 50, 6, 7, 51, 52, 53, 54, 55, 56, 57, 58, 59, 60, 4, 28, 29, 5] [4, 5] (.two (.two .nil (.two .nil .nil)) (.join [30, 31, 32, 33, 34, 35, 37, 38, 39, 40, 41, 42, 43, 44, 45, 46, 47, 48, 36, 49, 50, 6, 7, 51, 52, 53, 54, 55, 56, 57, 58, 59, 60, 4] [4] (.two .nil (.two (.two (.planA [(0, .pure), (1, .pure), (2, .pure), (3, .pure), (4, .pure), (6, .pure), (7, .pure), (8, .pure), (9, .pure), (5, .load), (10, .load), (11, .hard), (12, .pure), (13, .pure), (14, .pure), (15, .pure), (16, .pure)]) (.two .nil (.two .nil .nil))) .nil)) .nil)))) (.two .nil (.two (.two .nil (.loop [61, 62, 63, 64, 10, 67, 68, 69, 70, 74, 75, 76, 77, 78, 79, 73, 80, 81, 11, 12, 82, 83, 84, 85, 86, 87, 88, 89, 90, 91, 92, 13, 14, 93, 94, 95, 96, 99, 100, 101, 102, 103, 104, 105, 106, 107, 108, 109, 110, 111, 112, 113, 114, 115, 116, 97, 98, 117, 118, 119, 120, 121, 122, 123, 124, 8, 71, 72, 65, 66, 9] [8, 9] (.two (.two .nil (.two .nil .nil)) (.two (.two .nil (.loop [67, 68, 69, 70, 74, 75, 76, 77, 78, 79, 73, 80, 81, 11, 12, 82, 83, 84, 85, 86, 87, 88, 89, 90, 91, 92, 13, 14, 93, 94, 95, 96, 99, 100, 101, 102, 103, 104, 105, 106, 107, 108, 109, 110, 111, 112, 113, 114, 115, 116, 97, 98, 117, 118, 119, 120, 121, 122, 123, 124, 8, 71, 72, 10] [8, 10] (.two (.two .nil (.two .nil .nil)) (.join [74, 75, 76, 77, 78, 79, 73, 80, 81, 11, 12, 82, 83, 84, 85, 86, 87, 88, 89, 90, 91, 92, 13, 14, 93, 94, 95, 96, 99, 100, 101, 102, 103, 104, 105, 106, 107, 108, 109, 110, 111, 112, 113, 114, 115, 116, 97, 98, 117, 118, 119, 120, 121, 122, 123, 124, 8] [8] (.two .nil (.two .nil (.two (.two .nil (.loop [93, 94, 95, 96, 99, 100, 101, 102, 103, 104, 105, 106, 107, 108, 109, 110, 111, 112, 113, 114, 115, 116, 13, 97, 98, 14] [13, 14] (.two (.two .nil (.two .nil .nil)) (.two .nil .nil)))) (.two .nil (.two .nil .nil))))) .nil)))) .nil)))) (.two .nil .nil))))))))
theorem f4_ret {x0 : Value} {w0 : World} {R : Kv} (h : f4 x0 w0 R) : Ret PR 4 #[x0] w0 R :=
  ret_of_vc (fn := Try.f4) (c := body Try.f4) (x := a4) (args := [x0]) follows Try.func4 (body_eq (by kernel_rfl)) (by kernel_rfl) (Nat.le_of_ble_eq_true (by kernel_rfl))
    (Eq.mp (show f4 x0 w0 R = vcF PR Try.f4.results.toList (body Try.f4) a4 [x0] w0 R by kernel_rfl) h)

/-- drover/droverlaw12.DagReleases -/
def f5 (x0 : Value) (w0 : World) (R : Kv) : Prop :=
  Ret PR 9 #[] w0 fun v3 w4 =>
  pO (unO .not v3) fun v5 =>
  gB (X := Value) v5 false undef (fun K8643 =>
    pO (lenO x0) fun v8644 =>
    pO (arithO .gtr v8644 (.int .i64 100)) fun v8645 =>
    K8643 v8645 w4) w4 fun x4326 w9 =>
  pO (pkO v5 (.bool true) x4326) fun v4327 =>
  cnd v4327 (
    Ret PR 9 #[] w9 fun v4329 w4330 =>
    R v4329 w4330) (
    Ret PR 10 #[] w9 fun v4332 w4333 =>
    loopV (X := Value × Value) ((.slice none 0 0), (.int .i64 0)) w4333 (fun K7230 x7229 w4404 => ∀ _ : Env,
      pO (lenO x0) fun v7233 =>
      pO (arithO .lss x7229.2 v7233) fun v7234 =>
      cnd v7234 (
        join (X := Value) (fun x7297 w7295 => ∀ _ : Env,
          pO (arithO .add x7229.2 (.int .i64 1)) fun v7298 =>
          K7230 (x7297, v7298) w7295)
        (fun K7299 =>
          loopV (X := Value × Value) ((.slice none 0 0), (.int .i64 0)) w4404 (fun K7790 x7789 w7336 => ∀ _ : Env,
            pO (ixsO 1 x0 x7229.2) fun v7793 =>
            l1 v7793 w7336 fun v7794 =>
            pO (lenO v7794) fun v7795 =>
            pO (arithO .lss x7789.2 v7795) fun v7796 =>
            gB (X := Value) v7796 true undef (fun K8015 =>
              pO (arithO .lss x7789.2 (.int .i64 5)) fun v8016 =>
              K8015 v8016 w7336) w7336 fun x7907 w7799 =>
            pO (pkO v7796 x7907 (.bool false)) fun v7908 =>
            gB (X := Value) v7908 true undef (fun K8013 =>
              pO (arithO .gtr x7229.2 (.int .i64 0)) fun v8014 =>
              K8013 v8014 w7799) w7799 fun x7962 w7911 =>
            pO (pkO v7908 x7962 (.bool false)) fun v7963 =>
            cnd v7963 (
              pO (ixsO 1 x0 x7229.2) fun v7965 =>
              l1 v7965 w7911 fun v7966 =>
              pO (ixsO 1 v7966 x7789.2) fun v7967 =>
              l1 v7967 w7911 fun v7968 =>
              pO (cviO .i64 v7968) fun v7969 =>
              pO (arithO .rem v7969 x7229.2) fun v7970 =>
              pO (arithO .add (.int .i64 1) v7970) fun v7971 =>
              sv PR (Instr.buildSlice 31 1 #[(0, v7971)]) w7911 fun v7972 w7973 =>
              sv PR (Builtin.append_ #[31, 31] 31 #[x7789.1, v7972]) w7973 fun v7974 w7975 =>
              pO (arithO .add x7789.2 (.int .i64 1)) fun v7976 =>
              K7790 (v7974, v7976) w7975) (
              pO (arithO .add x7229.2 (.int .i64 1)) fun v7978 =>
              Ret PR 11 #[v4332, v7978, x7789.1] w7911 fun v7979 w7980 =>
              pO (exO v7979 0) fun v7981 =>
              pO (exO v7979 1) fun v7982 =>
              pO (cmpO true (eqlO v7982 (.int .i64 0))) fun v7985 =>
              gB (X := Value) v7985 false undef (fun K8009 =>
                pO (lenO x7789.1) fun v8010 =>
                pO (cmpO false (eqlO v8010 (.int .i64 0))) fun v8011 =>
                pO (cmpO true (eqbO v7981 v8011)) fun v8012 =>
                K8009 v8012 w7980) w7980 fun x8000 w7991 =>
              pO (pkO v7985 (.bool true) x8000) fun v8001 =>
              cnd v8001 (
                R (.bool false) w7991) (
                cnd v7981 (
                  pO (arithO .add x7229.2 (.int .i64 1)) fun v8004 =>
                  sv PR (Instr.buildSlice 31 1 #[(0, v8004)]) w7991 fun v8005 w8006 =>
                  sv PR (Builtin.append_ #[31, 31] 31 #[x7229.1, v8005]) w8006 fun v8007 w8008 =>
                  K7299 v8007 w8008) (
                  K7299 x7229.1 w7991)))))) (
        loopV (X := Value × Value) (x7229.1, (.int .i64 0)) w4404 (fun K8452 x8451 w8070 => ∀ _ : Env,
          pO (lenO x8451.1) fun v8455 =>
          pO (arithO .lss x8451.2 v8455) fun v8456 =>
          cnd v8456 (
            pO (ixsO 1 x8451.1 x8451.2) fun v8459 =>
            l1 v8459 w8070 fun v8460 =>
            Ret PR 15 #[v4332, v8460] w8070 fun v8461 w8462 =>
            pO (exO v8461 0) fun v8463 =>
            pO (exO v8461 1) fun v8464 =>
            pO (cmpO true (eqlO v8464 (.int .i64 0))) fun v8467 =>
            cnd v8467 (
              R (.bool false) w8462) (
              loopV (X := Value × Value) (x8451.1, (.int .i64 0)) w8462 (fun K8593 x8592 w8501 => ∀ _ : Env,
                pO (lenO v8463) fun v8596 =>
                pO (arithO .lss x8592.2 v8596) fun v8597 =>
                cnd v8597 (
                  pO (ixsO 1 v8463 x8592.2) fun v8601 =>
                  l1 v8601 w8501 fun v8602 =>
                  Ret PR 14 #[x8592.1, v8602] w8501 fun v8603 w8604 =>
                  gB (X := Value) v8603 false undef (fun K8632 =>
                    pO (ixsO 1 v8463 x8592.2) fun v8633 =>
                    l1 v8633 w8604 fun v8634 =>
                    Ret PR 16 #[v4332, v8634] w8604 fun v8635 w8636 =>
                    pO (unO .not v8635) fun v8637 =>
                    K8632 v8637 w8636) w8604 fun x8622 w8612 =>
                  pO (pkO v8603 (.bool true) x8622) fun v8623 =>
                  cnd v8623 (
                    R (.bool false) w8612) (
                    pO (ixsO 1 v8463 x8592.2) fun v8625 =>
                    l1 v8625 w8612 fun v8626 =>
                    sv PR (Instr.buildSlice 31 1 #[(0, v8626)]) w8612 fun v8627 w8628 =>
                    sv PR (Builtin.append_ #[31, 31] 31 #[x8592.1, v8627]) w8628 fun v8629 w8630 =>
                    pO (arithO .add x8592.2 (.int .i64 1)) fun v8631 =>
                    K8593 (v8629, v8631) w8630)) (
                  pO (arithO .add x8451.2 (.int .i64 1)) fun v8638 =>
                  K8452 (x8592.1, v8638) w8501)))) (
            pO (lenO x8451.1) fun v8640 =>
            pO (lenO x0) fun v8641 =>
            pO (cmpO false (eqlO v8640 v8641)) fun v8642 =>
            R v8642 w8070)))))
def a5 : Ann := (.two .nil (.two (.two .nil (.two (.two .nil .nil) .nil)) (.two .nil (.two .nil (.two (.two .nil (.loop [23, 24, 25, 26, 6, 7, 29, 30, 31, 32, 33, 34, 35, 36, 37, 38, 39, 40, 41, 42, 43, 46, 47, 48, 49, 50, 51, 52, 53, 54, 55, 56, 57, 58, 59, 44, 45, 61, 62, 63, 64, 65, 60, 66, 67, 8, 9, 68, 69, 70, 71, 72, 73, 74, 75, 76, 2, 77, 78, 79, 80, 81, 82, 4, 27, 28, 5] [4, 5] (.two (.two .nil (.two .nil .nil)) (.join [6, 7, 29, 30, 31, 32, 33, 34, 35, 36, 37, 38, 39, 40, 41, 42, 43, 46, 47, 48, 49, 50, 51, 52, 53, 54, 55, 56, 57, 58, 59, 44, 45, 61, 62, 63, 64, 65, 60, 66, 67, 8, 9, 68, 69, 70, 71, 72, 73, 74, 75, 76, 2, 77, 78, 79, 80, 81, 82, 4] [4] (.two .nil (.two (.two .nil (.loop [29, 30, 31, 32, 33, 34, 35, 36, 37, 38, 39, 40, 41, 42, 43, 46, 47, 48, 49, 50, 51, 52, 53, 54, 55, 56, 57, 58, 59, 6, 44, 45, 7] [6, 7] (.two (.two .nil (.two .nil .nil)) (.two .nil .nil)))) (.two .nil (.two (.two .nil (.two (.two .nil .nil) .nil)) (.two .nil (.two .nil .nil)))))) .nil)))) (.two (.two .nil (.loop [83, 84, 85, 86, 90, 91, 92, 93, 94, 95, 89, 96, 97, 11, 12, 98, 99, 2, 13, 100, 101, 102, 103, 106, 107, 108, 109, 110, 111, 112, 113, 114, 115, 116, 117, 118, 119, 120, 121, 122, 123, 124, 125, 126, 127, 4, 104, 105, 87, 88, 10] [4, 10] (.two (.two .nil (.two .nil .nil)) (.two (.two .nil (.two (.two .nil (.two (.two .nil .nil) .nil)) (.two .nil (.loop [100, 101, 102, 103, 106, 107, 108, 109, 110, 111, 112, 113, 114, 115, 116, 117, 118, 119, 120, 2, 121, 122, 123, 124, 125, 126, 127, 4, 104, 105, 13] [4, 13] (.two (.two .nil (.two .nil .nil)) (.two (.two (.two .nil (.two (.two .nil .nil) .nil)) .nil) .nil)))))) .nil)))) (.two .nil .nil)))))))
theorem f5_ret {x0 : Value} {w0 : World} {R : Kv} (h : f5 x0 w0 R) : Ret PR 5 #[x0] w0 R :=
  ret_of_vc (fn := Try.f5) (c := body Try.f5) (x := a5) (args := [x0]) follows Try.func5 (body_eq (by kernel_rfl)) (by kernel_rfl) (Nat.le_of_ble_eq_true (by kernel_rfl))
    (Eq.mp (show f5 x0 w0 R = vcF PR Try.f5.results.toList (body Try.f5) a5 [x0] w0 R by kernel_rfl) h)

/-- drover/droverlaw12.DagFails -/
def f6 (x0 x1 : Value) (w0 : World) (R : Kv) : Prop :=
  Ret PR 9 #[] w0 fun v3 w4 =>
  pO (unO .not v3) fun v5 =>
  gB (X := Value) v5 false undef (fun K22889 =>
    pO (lenO x0) fun v22890 =>
    pO (arithO .gtr v22890 (.int .i64 100)) fun v22891 =>
    K22889 v22891 w4) w4 fun x11449 w9 =>
  pO (pkO v5 (.bool true) x11449) fun v11450 =>
  gB (X := Value) v11450 false undef (fun K22886 =>
    pO (lenO x0) fun v22887 =>
    pO (cmpO false (eqlO v22887 (.int .i64 0))) fun v22888 =>
    K22886 v22888 w9) w9 fun x17170 w11454 =>
  pO (pkO v11450 (.bool true) x17170) fun v17171 =>
  cnd v17171 (
    Ret PR 9 #[] w11454 fun v17173 w17174 =>
    R v17173 w17174) (
    Ret PR 10 #[] w11454 fun v17176 w17177 =>
    loopV (X := Value) (.int .i64 0) w17177 (fun K20999 x20998 w17225 => ∀ _ : Env,
      pO (lenO x0) fun v21002 =>
      pO (arithO .lss x20998 v21002) fun v21003 =>
      cnd v21003 (
        loopV (X := Value × Value) ((.slice none 0 0), (.int .i64 0)) w17225 (fun K21239 x21238 w21041 => ∀ _ : Env,
          pO (ixsO 1 x0 x20998) fun v21242 =>
          l1 v21242 w21041 fun v21243 =>
          pO (lenO v21243) fun v21244 =>
          pO (arithO .lss x21238.2 v21244) fun v21245 =>
          gB (X := Value) v21245 true undef (fun K21336 =>
            pO (arithO .lss x21238.2 (.int .i64 5)) fun v21337 =>
            K21336 v21337 w21041) w21041 fun x21292 w21248 =>
          pO (pkO v21245 x21292 (.bool false)) fun v21293 =>
          gB (X := Value) v21293 true undef (fun K21334 =>
            pO (arithO .gtr x20998 (.int .i64 0)) fun v21335 =>
            K21334 v21335 w21248) w21248 fun x21315 w21296 =>
          pO (pkO v21293 x21315 (.bool false)) fun v21316 =>
          cnd v21316 (
            pO (ixsO 1 x0 x20998) fun v21318 =>
            l1 v21318 w21296 fun v21319 =>
            pO (ixsO 1 v21319 x21238.2) fun v21320 =>
            l1 v21320 w21296 fun v21321 =>
            pO (cviO .i64 v21321) fun v21322 =>
            pO (arithO .rem v21322 x20998) fun v21323 =>
            pO (arithO .add (.int .i64 1) v21323) fun v21324 =>
            sv PR (Instr.buildSlice 31 1 #[(0, v21324)]) w21296 fun v21325 w21326 =>
            sv PR (Builtin.append_ #[31, 31] 31 #[x21238.1, v21325]) w21326 fun v21327 w21328 =>
            pO (arithO .add x21238.2 (.int .i64 1)) fun v21329 =>
            K21239 (v21327, v21329) w21328) (
            pO (arithO .add x20998 (.int .i64 1)) fun v21330 =>
            Ret PR 11 #[v17176, v21330, x21238.1] w21296 fun v21331 w21332 =>
            pO (arithO .add x20998 (.int .i64 1)) fun v21333 =>
            K20999 v21333 w21332))) (
        pO (cviO .i64 x1) fun v21339 =>
        pO (lenO x0) fun v21340 =>
        pO (arithO .rem v21339 v21340) fun v21341 =>
        pO (arithO .add (.int .i64 1) v21341) fun v21342 =>
        Ret PR 17 #[v17176, v21342] w17225 fun v21344 w21345 =>
        pO (exO v21344 0) fun v21346 =>
        pO (exO v21344 1) fun v21347 =>
        pO (cmpO true (eqlO v21347 (.int .i64 0))) fun v21350 =>
        cnd v21350 (
          R (.bool false) w21345) (
          sv PR (Instr.buildSlice 31 1 #[(0, v21342)]) w21345 fun v21353 w21354 =>
          loopV (X := Value × Value) (v21353, (.int .i64 0)) w21354 (fun K22389 x22388 w21395 => ∀ _ : Env,
            pO (lenO v21346) fun v22392 =>
            pO (arithO .lss x22388.2 v22392) fun v22393 =>
            cnd v22393 (
              pO (arithO .gtr x22388.2 (.int .i64 0)) fun v22397 =>
              gd v22397 true (fun K22398 =>
                K22398 v21346 w21395.drew) w21395.drew fun v22399 w22400 =>
              gd v22397 true (fun K22401 =>
                K22401 x22388.2 w22400) w22400 fun v22402 w22403 =>
              gd v22397 true (fun K22404 =>
                pO (arithO .sub v22402 (.int .i64 1)) fun v22405 =>
                K22404 v22405 w22403) w22403 fun v22406 w22407 =>
              gd v22397 true (fun K22408 =>
                pO (ixsO 1 v22399 v22406) fun v22409 =>
                K22408 v22409 w22407) w22407 fun v22410 w22411 =>
              gd v22397 true (fun K22412 =>
                K22412 v21346 w22411) w22411 fun v22413 w22414 =>
              gd v22397 true (fun K22415 =>
                K22415 x22388.2 w22414) w22414 fun v22416 w22417 =>
              gd v22397 true (fun K22418 =>
                pO (ixsO 1 v22413 v22416) fun v22419 =>
                K22418 v22419 w22417) w22417 fun v22420 w22421 =>
              gd v22397 true (fun K22422 =>
                l1 v22410 w22421 fun v22423 =>
                K22422 v22423 w22421) w22421 fun v22424 w22425 =>
              gd v22397 true (fun K22426 =>
                l1 v22420 w22425 fun v22427 =>
                K22426 v22427 w22425) w22425 fun v22428 w22429 =>
              gd v22397 true (fun K22430 =>
                pO (arithO .geq v22424 v22428) fun v22431 =>
                K22430 v22431 w22429) w22429 fun v22432 w22433 =>
              pO (pkO v22397 v22432 (.bool false)) fun v22434 =>
              gd v22434 false (fun K22435 =>
                K22435 v21346 w22433) w22433 fun v22436 w22437 =>
              gd v22434 false (fun K22438 =>
                K22438 x22388.2 w22437) w22437 fun v22439 w22440 =>
              gd v22434 false (fun K22441 =>
                pO (ixsO 1 v22436 v22439) fun v22442 =>
                K22441 v22442 w22440) w22440 fun v22443 w22444 =>
              gd v22434 false (fun K22445 =>
                K22445 v21342 w22444) w22444 fun v22446 w22447 =>
              gd v22434 false (fun K22448 =>
                l1 v22443 w22447 fun v22449 =>
                K22448 v22449 w22447) w22447 fun v22450 w22451 =>
              gd v22434 false (fun K22452 =>
                pO (cmpO false (eqlO v22450 v22446)) fun v22453 =>
                K22452 v22453 w22451) w22451 fun v22454 w22455 =>
              pO (pkO v22434 (.bool true) v22454) fun v22456 =>
              cnd v22456 (
                R (.bool false) w22455) (
                pO (ixsO 1 v21346 x22388.2) fun v22458 =>
                l1 v22458 w22455 fun v22459 =>
                sv PR (Instr.buildSlice 31 1 #[(0, v22459)]) w22455 fun v22460 w22461 =>
                sv PR (Builtin.append_ #[31, 31] 31 #[x22388.1, v22460]) w22461 fun v22462 w22463 =>
                pO (arithO .add x22388.2 (.int .i64 1)) fun v22464 =>
                K22389 (v22462, v22464) w22463)) (
              loopV (X := Value) (.int .i64 1) w21395 (fun K22760 x22759 w22508 => ∀ _ : Env,
                pO (lenO x0) fun v22763 =>
                pO (arithO .leq x22759 v22763) fun v22764 =>
                cnd v22764 (
                  Ret PR 13 #[v17176, x22759] w22508 fun v22767 w22768 =>
                  pO (exO v22767 0) fun v22769 =>
                  pO (exO v22767 1) fun v22770 =>
                  pO (cmpO false (eqlO x22759 v21342)) fun v22772 =>
                  loopV (X := Value × Value) (v22772, (.int .i64 0)) w22768 (fun K22850 x22849 w22792 => ∀ _ : Env,
                    pO (lenO v22769) fun v22853 =>
                    pO (arithO .lss x22849.2 v22853) fun v22854 =>
                    cnd v22854 (
                      gB (X := Value) x22849.1 false undef (fun K22868 =>
                        pO (ixsO 1 v22769 x22849.2) fun v22869 =>
                        l1 v22869 w22792 fun v22870 =>
                        Ret PR 14 #[x22388.1, v22870] w22792 fun v22871 w22872 =>
                        K22868 v22871 w22872) w22792 fun x22865 w22862 =>
                      pO (pkO x22849.1 (.bool true) x22865) fun v22866 =>
                      pO (arithO .add x22849.2 (.int .i64 1)) fun v22867 =>
                      K22850 (v22866, v22867) w22862) (
                      Ret PR 14 #[x22388.1, x22759] w22792 fun v22874 w22875 =>
                      pO (cmpO true (eqbO x22849.1 v22874)) fun v22876 =>
                      cnd v22876 (
                        R (.bool false) w22875) (
                        pO (arithO .add x22759 (.int .i64 1)) fun v22878 =>
                        K22760 v22878 w22875)))) (
                  Ret PR 17 #[v17176, v21342] w22508 fun v22880 w22881 =>
                  pO (exO v22880 0) fun v22882 =>
                  pO (exO v22880 1) fun v22883 =>
                  pO (cmpO false (eqlO v22883 (.int .i64 10))) fun v22885 =>
                  R v22885 w22881))))))))
def a6 : Ann := (.two .nil (.two (.two .nil (.two (.two .nil .nil) .nil)) (.two .nil (.two (.two .nil (.loop [35, 36, 37, 38, 7, 8, 41, 42, 43, 44, 45, 46, 47, 48, 49, 50, 51, 52, 53, 54, 55, 58, 59, 60, 61, 62, 63, 64, 65, 66, 67, 68, 69, 70, 71, 56, 57, 72, 73, 74, 75, 76, 39, 40, 6] [6] (.two (.two .nil (.two .nil .nil)) (.two (.two .nil (.two (.two .nil (.loop [41, 42, 43, 44, 45, 46, 47, 48, 49, 50, 51, 52, 53, 54, 55, 58, 59, 60, 61, 62, 63, 64, 65, 66, 67, 68, 69, 70, 71, 7, 56, 57, 8] [7, 8] (.two (.two .nil (.two .nil .nil)) (.two .nil .nil)))) .nil)) .nil)))) (.two .nil (.two .nil (.two (.two .nil (.two (.two .nil .nil) .nil)) (.two .nil (.two (.two .nil (.loop [93, 94, 95, 96, 99, 100, 101, 102, 103, 104, 105, 106, 107, 108, 109, 110, 111, 112, 113, 114, 115, 116, 117, 118, 119, 120, 4, 121, 122, 123, 124, 125, 126, 127, 12, 97, 98, 13] [12, 13] (.two (.two .nil (.two .nil .nil)) (.two (.two (.two (.planA [(0, .pure), (1, .pure), (2, .pure), (3, .pure), (4, .pure), (5, .pure), (6, .pure), (8, .pure), (9, .pure), (10, .pure), (7, .load), (11, .load), (12, .pure), (13, .pure), (14, .pure), (15, .pure), (16, .pure), (17, .pure), (19, .pure), (18, .load), (20, .pure), (21, .pure)]) (.two (.two .nil .nil) .nil)) .nil) .nil)))) (.two (.two .nil (.loop [128, 129, 130, 131, 135, 136, 137, 134, 138, 139, 15, 16, 140, 141, 142, 17, 18, 143, 144, 145, 146, 149, 150, 151, 152, 153, 154, 155, 156, 157, 147, 148, 158, 159, 160, 161, 162, 4, 132, 133, 14] [14] (.two (.two .nil (.two .nil .nil)) (.two (.two .nil (.two .nil (.two (.two .nil (.loop [143, 144, 145, 146, 149, 150, 151, 152, 153, 154, 155, 156, 157, 17, 147, 148, 18] [17, 18] (.two (.two .nil (.two .nil .nil)) (.two .nil .nil)))) (.two .nil (.two (.two .nil .nil) .nil))))) .nil)))) (.two .nil (.two .nil .nil))))))))))))
theorem f6_ret {x0 x1 : Value} {w0 : World} {R : Kv} (h : f6 x0 x1 w0 R) : Ret PR 6 #[x0, x1] w0 R :=
  ret_of_vc (fn := Try.f6) (c := body Try.f6) (x := a6) (args := [x0, x1]) follows Try.func6 (body_eq (by kernel_rfl)) (by kernel_rfl) (Nat.le_of_ble_eq_true (by kernel_rfl))
    (Eq.mp (show f6 x0 x1 w0 R = vcF PR Try.f6.results.toList (body Try.f6) a6 [x0, x1] w0 R by kernel_rfl) h)

/-- drover/droverlaw12.DagPlays -/
def f7 (x0 : Value) (w0 : World) (R : Kv) : Prop :=
  Ret PR 9 #[] w0 fun v3 w4 =>
  pO (unO .not v3) fun v5 =>
  gB (X := Value) v5 false undef (fun K497 =>
    Ret PR 12 #[x0] w4 fun v498 w499 =>
    pO (unO .not v498) fun v500 =>
    K497 v500 w499) w4 fun x253 w9 =>
  pO (pkO v5 (.bool true) x253) fun v254 =>
  cnd v254 (
    Ret PR 9 #[] w9 fun v256 w257 =>
    R v256 w257) (
    Ret PR 10 #[] w9 fun v259 w260 =>
    sv PR (Instr.build 45 #[]) w260 fun v262 w263 =>
    bx 45 v262 w263 fun v264 w265 =>
    loopV (X := Value) (.int .i64 0) w265 (fun K426 x425 w284 => ∀ _ : Env,
      pO (lenO x0) fun v429 =>
      pO (arithO .lss x425 v429) fun v430 =>
      cnd v430 (
        pO (ixsO 3 x0 x425) fun v433 =>
        lN 3 v433 w284 fun v434 =>
        Ret PR 18 #[v259, v264, v434] w284 fun v435 w436 =>
        pO (unO .not v435) fun v437 =>
        cnd v437 (
          R (.bool false) w436) (
          pO (arithO .add x425 (.int .i64 1)) fun v439 =>
          K426 v439 w436)) (
        loopV (X := Value) (.int .i64 0) w284 (fun K483 x482 w455 => ∀ _ : Env,
          pO (arithO .leq x482 (.int .i64 101)) fun v486 =>
          cnd v486 (
            Ret PR 16 #[v259, x482] w455 fun v489 w490 =>
            Ret PR 19 #[v264, x482] w490 fun v491 w492 =>
            pO (cmpO true (eqbO v489 v491)) fun v493 =>
            cnd v493 (
              R (.bool false) w492) (
              pO (arithO .add x482 (.int .i64 1)) fun v495 =>
              K483 v495 w492)) (
            R (.bool true) w455)))))
def a7 : Ann := (.two .nil (.two (.two .nil (.two (.two .nil .nil) .nil)) (.two .nil (.two .nil (.two (.two .nil (.loop [18, 19, 20, 21, 24, 25, 26, 27, 28, 29, 30, 31, 2, 22, 23, 5] [5] (.two (.two .nil (.two .nil .nil)) (.two (.two .nil (.two (.two .nil .nil) .nil)) .nil)))) (.two (.two .nil (.loop [32, 33, 36, 37, 38, 39, 40, 41, 42, 2, 34, 35, 6] [6] (.two (.two .nil (.two .nil .nil)) (.two (.two .nil (.two (.two .nil .nil) .nil)) .nil)))) (.two .nil .nil)))))))
theorem f7_ret {x0 : Value} {w0 : World} {R : Kv} (h : f7 x0 w0 R) : Ret PR 7 #[x0] w0 R :=
  ret_of_vc (fn := Try.f7) (c := body Try.f7) (x := a7) (args := [x0]) follows Try.func7 (body_eq (by kernel_rfl)) (by kernel_rfl) (Nat.le_of_ble_eq_true (by kernel_rfl))
    (Eq.mp (show f7 x0 w0 R = vcF PR Try.f7.results.toList (body Try.f7) a7 [x0] w0 R by kernel_rfl) h)

/-- drover/droverlaw12.DagNil -/
def f8 (x0 x1 : Value) (w0 : World) (R : Kv) : Prop :=
  Ret PR 9 #[] w0 fun v3 w4 =>
  pO (unO .not v3) fun v5 =>
  gB (X := Value) v5 false undef (fun K24753 =>
    pO (lenO x1) fun v24754 =>
    pO (arithO .gtr v24754 (.int .i64 300)) fun v24755 =>
    K24753 v24755 w4) w4 fun x12381 w9 =>
  pO (pkO v5 (.bool true) x12381) fun v12382 =>
  cnd v12382 (
    Ret PR 9 #[] w9 fun v12384 w12385 =>
    R v12384 w12385) (
    Ret PR 11 #[(.pointer none), x0, x1] w9 fun v12388 w12389 =>
    pO (exO v12388 0) fun v12390 =>
    pO (exO v12388 1) fun v12391 =>
    Ret PR 13 #[(.pointer none), x0] w12389 fun v12393 w12394 =>
    pO (exO v12393 0) fun v12395 =>
    pO (exO v12393 1) fun v12396 =>
    Ret PR 15 #[(.pointer none), x0] w12394 fun v12398 w12399 =>
    pO (exO v12398 0) fun v12400 =>
    pO (exO v12398 1) fun v12401 =>
    Ret PR 17 #[(.pointer none), x0] w12399 fun v12403 w12404 =>
    pO (exO v12403 0) fun v12405 =>
    pO (exO v12403 1) fun v12406 =>
    gB (X := Value) v12390 false undef (fun K24751 =>
      pO (cmpO true (eqlO v12391 (.int .i64 10))) fun v24752 =>
      K24751 v24752 w12404) w12404 fun x18581 w12411 =>
    pO (pkO v12390 (.bool true) x18581) fun v18582 =>
    gB (X := Value) v18582 false undef (fun K24749 =>
      pO (cmpO true (eqlO v12396 (.int .i64 3))) fun v24750 =>
      K24749 v24750 w12411) w12411 fun x21667 w18585 =>
    pO (pkO v18582 (.bool true) x21667) fun v21668 =>
    gB (X := Value) v21668 false undef (fun K24747 =>
      pO (cmpO true (eqlO v12401 (.int .i64 3))) fun v24748 =>
      K24747 v24748 w18585) w18585 fun x23209 w21671 =>
    pO (pkO v21668 (.bool true) x23209) fun v23210 =>
    gB (X := Value) v23210 false undef (fun K24745 =>
      pO (cmpO true (eqlO v12406 (.int .i64 3))) fun v24746 =>
      K24745 v24746 w21671) w21671 fun x23979 w23213 =>
    pO (pkO v23210 (.bool true) x23979) fun v23980 =>
    gB (X := Value) v23980 false undef (fun K24742 =>
      Ret PR 16 #[(.pointer none), x0] w23213 fun v24743 w24744 =>
      K24742 v24743 w24744) w23213 fun x24363 w23984 =>
    pO (pkO v23980 (.bool true) x24363) fun v24364 =>
    cnd v24364 (
      R (.bool false) w23984) (
      sv PR (Instr.build 51 #[]) w23984 fun v24367 w24368 =>
      bx 51 v24367 w24368 fun v24369 w24370 =>
      sv PR (Instr.build 45 #[]) w24370 fun v24372 w24373 =>
      bx 45 v24372 w24373 fun v24374 w24375 =>
      sv PR (Builtin.append_ #[31, 31] 31 #[(.slice none 0 0), x1]) w24375 fun v24378 w24379 =>
      Ret PR 11 #[v24369, x0, v24378] w24379 fun v24381 w24382 =>
      pO (exO v24381 0) fun v24383 =>
      pO (exO v24381 1) fun v24384 =>
      Ret PR 20 #[v24374, x0, x1] w24382 fun v24386 w24387 =>
      pO (exO v24386 0) fun v24388 =>
      pO (exO v24386 1) fun v24389 =>
      pO (cmpO true (eqbO v24383 v24388)) fun v24392 =>
      gB (X := Value) v24392 false undef (fun K24740 =>
        pO (cmpO true (eqlO v24384 v24389)) fun v24741 =>
        K24740 v24741 w24387) w24387 fun x24568 w24396 =>
      pO (pkO v24392 (.bool true) x24568) fun v24569 =>
      gB (X := Value) v24569 false undef (fun K24736 =>
        Ret PR 21 #[v24378, x1] w24396 fun v24737 w24738 =>
        pO (unO .not v24737) fun v24739 =>
        K24736 v24739 w24738) w24396 fun x24655 w24574 =>
      pO (pkO v24569 (.bool true) x24655) fun v24656 =>
      cnd v24656 (
        R (.bool false) w24574) (
        loopV (X := Value) (.int .i64 0) w24574 (fun K24714 x24713 w24670 => ∀ _ : Env,
          pO (lenO v24378) fun v24717 =>
          pO (arithO .lss x24713 v24717) fun v24718 =>
          cnd v24718 (
            pO (ixsO 1 v24378 x24713) fun v24720 =>
            stW 1 v24720 (.int .i64 0) w24670 fun w24721 =>
            pO (arithO .add x24713 (.int .i64 1)) fun v24722 =>
            K24714 v24722 w24721) (
            Ret PR 13 #[v24369, x0] w24670 fun v24724 w24725 =>
            pO (exO v24724 0) fun v24726 =>
            pO (exO v24724 1) fun v24727 =>
            Ret PR 22 #[v24374, x0] w24725 fun v24729 w24730 =>
            pO (exO v24729 0) fun v24731 =>
            pO (exO v24729 1) fun v24732 =>
            Ret PR 21 #[v24726, v24731] w24730 fun v24734 w24735 =>
            R v24734 w24735)))))
def a8 : Ann := (.two .nil (.two (.two .nil (.two (.two .nil .nil) .nil)) (.two .nil (.two .nil (.two .nil (.two .nil (.two .nil (.two (.two .nil (.two (.two .nil .nil) .nil)) (.two .nil (.two .nil (.two .nil (.two .nil (.two .nil (.two .nil (.two (.two .nil (.two (.two .nil .nil) .nil)) (.two (.two .nil (.loop [116, 117, 118, 119, 122, 123, 124, 120, 121, 21] [21] (.two (.two .nil (.two .nil .nil)) (.two .nil .nil)))) (.two .nil (.two .nil (.two .nil .nil)))))))))))))))))))
theorem f8_ret {x0 x1 : Value} {w0 : World} {R : Kv} (h : f8 x0 x1 w0 R) : Ret PR 8 #[x0, x1] w0 R :=
  ret_of_vc (fn := Try.f8) (c := body Try.f8) (x := a8) (args := [x0, x1]) follows Try.func8 (body_eq (by kernel_rfl)) (by kernel_rfl) (Nat.le_of_ble_eq_true (by kernel_rfl))
    (Eq.mp (show f8 x0 x1 w0 R = vcF PR Try.f8.results.toList (body Try.f8) a8 [x0, x1] w0 R by kernel_rfl) h)

/-- drover/droverlaw12.awake -/
def f9 (w0 : World) (R : Kv) : Prop :=
  Ret PR 10 #[] w0 fun v2 w3 =>
  pO (cmpO false (eqpO v2 (.pointer none))) fun v6 =>
  cnd v6 (
    R (.bool false) w3) (
    Ret PR 11 #[v2, (.int .i64 1), (.slice none 0 0)] w3 fun v9 w10 =>
    pO (exO v9 0) fun v11 =>
    pO (exO v9 1) fun v12 =>
    gB (X := Value) v11 true undef (fun K38 =>
      pO (cmpO false (eqlO v12 (.int .i64 0))) fun v39 =>
      K38 v39 w10) w10 fun x27 w16 =>
    pO (pkO v11 x27 (.bool false)) fun v28 =>
    gB (X := Value) v28 true undef (fun K35 =>
      Ret PR 16 #[v2, (.int .i64 1)] w16 fun v36 w37 =>
      K35 v36 w37) w16 fun x33 w31 =>
    pO (pkO v28 x33 (.bool false)) fun v34 =>
    R v34 w31)
def a9 : Ann := (.two .nil (.two .nil (.two (.two .nil (.two (.two .nil .nil) .nil)) (.two .nil (.two .nil .nil)))))
theorem f9_ret {w0 : World} {R : Kv} (h : f9 w0 R) : Ret PR 9 #[] w0 R :=
  ret_of_vc (fn := Try.f9) (c := body Try.f9) (x := a9) (args := []) follows Try.func9 (body_eq (by kernel_rfl)) (by kernel_rfl) (Nat.le_of_ble_eq_true (by kernel_rfl))
    (Eq.mp (show f9 w0 R = vcF PR Try.f9.results.toList (body Try.f9) a9 [] w0 R by kernel_rfl) h)

/-- drover/dag.New -/
def f10 (w0 : World) (R : Kv) : Prop :=
  sv PR (Instr.build 51 #[]) w0 fun v2 w3 =>
  bx 51 v2 w3 fun v4 w5 =>
  R v4 w5
def a10 : Ann := (.two .nil (.two .nil .nil))
theorem f10_ret {w0 : World} {R : Kv} (h : f10 w0 R) : Ret PR 10 #[] w0 R :=
  ret_of_vc (fn := Try.f10) (c := body Try.f10) (x := a10) (args := []) follows Try.func10 (body_eq (by kernel_rfl)) (by kernel_rfl) (Nat.le_of_ble_eq_true (by kernel_rfl))
    (Eq.mp (show f10 w0 R = vcF PR Try.f10.results.toList (body Try.f10) a10 [] w0 R by kernel_rfl) h)

/-- (*drover/dag.Graph).Add -/
def f11 (x0 x1 x2 : Value) (w0 : World) (R : Kv) : Prop :=
  pO (cmpO false (eqpO x0 (.pointer none))) fun v3 =>
  cnd v3 (
    R (.tuple #[(.bool false), (.int .i64 10)]) w0) (
    sv PR (Instr.buildSlice 31 1 #[(0, x1)]) w0 fun v6 w7 =>
    Ret PR 23 #[v6] w7 fun v8 w9 =>
    pO (unO .not v8) fun v10 =>
    gB (X := Value) v10 false undef (fun K3854 =>
      Ret PR 23 #[x2] w9 fun v3855 w3856 =>
      pO (unO .not v3855) fun v3857 =>
      K3854 v3857 w3856) w9 fun x1934 w14 =>
    pO (pkO v10 (.bool true) x1934) fun v1935 =>
    cnd v1935 (
      R (.tuple #[(.bool false), (.int .i64 2)]) w14) (
      pO (ncO x0) fun v1938 =>
      pO (faO 0 v1938) fun v1939 =>
      pO (ixaO 101 4 v1939 x1) fun v1940 =>
      pO (faO 0 v1940) fun v1941 =>
      l1 v1941 w14 fun v1942 =>
      pO (cmpO true (eqlO v1942 (.int .i64 0))) fun v1943 =>
      cnd v1943 (
        R (.tuple #[(.bool false), (.int .i64 5)]) w14) (
        Ret PR 24 #[x2] w14 fun v1946 w1947 =>
        Ret PR 25 #[v1946] w1947 fun v1949 w1950 =>
        Ret PR 26 #[v1946] w1950 fun v1952 w1953 =>
        Ret PR 27 #[x0, x1] w1953 fun v1955 w1956 =>
        pO (lenO v1952) fun v1959 =>
        loopV (X := Value) (.int .i64 0) w1956 (fun K3230 x3229 w1982 => ∀ _ : Env,
          pO (arithO .lss x3229 v1959) fun v3232 =>
          cnd v3232 (
            pO (ixsO 1 v1952 x3229) fun v3236 =>
            l1 v3236 w1982 fun v3237 =>
            Ret PR 28 #[v1955, v3237] w1982 fun v3239 w3240 =>
            pO (exO v3239 0) fun v3241 =>
            pO (exO v3239 1) fun v3242 =>
            gB (X := Value) v3242 false undef (fun K3255 =>
              pO (cmpO false (eqlO v3237 x1)) fun v3256 =>
              K3255 v3256 w3240) w3240 fun x3251 w3247 =>
            pO (pkO v3242 (.bool true) x3251) fun v3252 =>
            cnd v3252 (
              R (.tuple #[(.bool false), (.int .i64 8)]) w3247) (
              pO (arithO .add x3229 (.int .i64 1)) fun v3254 =>
              K3230 v3254 w3247)) (
            pO (ncO x0) fun v3258 =>
            pO (faO 0 v3258) fun v3259 =>
            pO (ixaO 101 4 v3259 x1) fun v3260 =>
            pO (faO 2 v3260) fun v3261 =>
            l1 v3261 w1982 fun v3262 =>
            sv PR (Instr.build 48 #[(0, (.int .i64 1)), (1, v1952), (2, v3262)]) w1982 fun v3263 w3264 =>
            sv PR (Instr.alloc 48 true (.tuple #[])) w3264 fun v3265 w3266 =>
            stW 4 v3265 v3263 w3266 fun w3267 =>
            pO (lenO v1952) fun v3270 =>
            loopV (X := Value) (.int .i64 0) w3267 (fun K3669 x3668 w3299 => ∀ _ : Env,
              pO (arithO .lss x3668 v3270) fun v3671 =>
              cnd v3671 (
                join (X := Unit) (fun x3700 w3698 => ∀ _ : Env,
                  pO (arithO .add x3668 (.int .i64 1)) fun v3701 =>
                  K3669 v3701 w3698)
                (fun K3702 =>
                  pO (ixsO 1 v1952 x3668) fun v3704 =>
                  l1 v3704 w3299 fun v3705 =>
                  pO (ncO x0) fun v3708 =>
                  pO (faO 0 v3708) fun v3709 =>
                  pO (ixaO 101 4 v3709 v3705) fun v3710 =>
                  pO (faO 0 v3710) fun v3711 =>
                  l1 v3711 w3299 fun v3712 =>
                  pO (cmpO false (eqlO v3712 (.int .i64 3))) fun v3713 =>
                  cnd v3713 (
                    R (.tuple #[(.bool false), (.int .i64 10)]) w3299) (
                    pO (ncO x0) fun v3716 =>
                    pO (faO 0 v3716) fun v3717 =>
                    pO (ixaO 101 4 v3717 v3705) fun v3718 =>
                    pO (faO 0 v3718) fun v3719 =>
                    l1 v3719 w3299 fun v3720 =>
                    pO (cmpO true (eqlO v3720 (.int .i64 2))) fun v3721 =>
                    cnd v3721 (
                      pO (faO 3 v3265) fun v3722 =>
                      l1 v3722 w3299 fun v3723 =>
                      pO (arithO .add v3723 (.int .i64 1)) fun v3724 =>
                      pO (faO 3 v3265) fun v3725 =>
                      stW 1 v3725 v3724 w3299 fun w3726 =>
                      K3702 () w3726) (
                      K3702 () w3299)))) (
                pO (lenO v1952) fun v3729 =>
                loopV (X := Value) (.int .i64 0) w3299 (fun K3820 x3819 w3752 => ∀ _ : Env,
                  pO (arithO .lss x3819 v3729) fun v3822 =>
                  cnd v3822 (
                    pO (ixsO 1 v1952 x3819) fun v3826 =>
                    l1 v3826 w3752 fun v3827 =>
                    ∃ C3828 : World → Prop, C3828 w3752.drew ∧
                    pO (ncO x0) fun v3829 =>
                    pO (faO 0 v3829) fun v3830 =>
                    pO (ixaO 101 4 v3830 v3827) fun v3831 =>
                    pO (faO 2 v3831) fun v3832 =>
                    pO (ncO x0) fun v3833 =>
                    pO (faO 0 v3833) fun v3834 =>
                    l1C C3828 v3832 fun v3835 =>
                    sv PR (Instr.buildSlice 31 1 #[(0, x1)]) w3752.drew fun v3836 w3837 =>
                    C3828 w3837 ∧
                    sv PR (Builtin.append_ #[31, 31] 31 #[v3835, v3836]) w3837 fun v3838 w3839 =>
                    pO (ixaO 101 4 v3834 v3827) fun v3840 =>
                    pO (faO 2 v3840) fun v3841 =>
                    stW 1 v3841 v3838 w3839 fun w3842 =>
                    pO (arithO .add x3819 (.int .i64 1)) fun v3843 =>
                    K3820 v3843 w3842) (
                    pO (ncO x0) fun v3845 =>
                    pO (faO 0 v3845) fun v3846 =>
                    lN 4 v3265 w3752.drew fun v3847 =>
                    pO (ixaO 101 4 v3846 x1) fun v3848 =>
                    stW 4 v3848 v3847 w3752.drew fun w3849 =>
                    pO (faO 3 v3265) fun v3851 =>
                    l1 v3851 w3849 fun v3852 =>
                    pO (cmpO false (eqlO v3852 (.int .i64 0))) fun v3853 =>
                    R (.tuple #[v3853, (.int .i64 0)]) w3849)))))))))
def a11 : Ann := (.two .nil (.two (.two .nil (.two (.two .nil .nil) (.two .nil (.two (.two .nil .nil) (.two .nil (.two (.two .nil .nil) .nil)))))) (.two .nil (.two .nil (.two .nil (.two .nil (.two (.two .nil (.loop [53, 54, 55, 11, 57, 58, 59, 56, 60, 61, 12, 13, 62, 63, 64, 65, 66, 67, 6, 7, 68, 52] [52] (.two .nil (.two (.two .nil .nil) (.two (.two .nil (.two .nil (.two .nil (.two (.two .nil .nil) .nil)))) .nil))))) (.two .nil (.two (.two .nil (.loop [81, 82, 83, 16, 84, 85, 86, 87, 88, 89, 90, 91, 6, 7, 92, 93, 94, 95, 96, 97, 98, 99, 100, 101, 102, 103, 104, 80] [80] (.two .nil (.two (.two .nil .nil) (.join [82, 83, 16, 84, 85, 86, 87, 88, 89, 90, 91, 6, 7, 92, 93, 94, 95, 96, 97, 98, 99, 100, 101, 102, 103] [] (.two .nil (.two (.two .nil (.two (.two .nil .nil) .nil)) (.two .nil (.two .nil .nil)))) .nil))))) (.two (.two .nil (.loop [108, 109, 110, 18, 111, 112, 113, 114, 115, 116, 117, 118, 119, 120, 121, 122, 123, 124, 125, 126, 127, 107] [107] (.two .nil (.two (.two .nil .nil) (.two (.two .nil (.planB [(0, .pure), (1, .pure), (2, .pure), (3, .pure), (4, .pure), (5, .pure), (6, .pure), (7, .pure), (9, .pure), (12, .pure), (13, .pure), (8, .load), (10, .hardF), (11, .hard), (14, .pure), (15, .pure), (16, .hard)])) .nil))))) (.two (.planA [(0, .pure), (1, .pure), (3, .pure), (4, .pure), (2, .load), (5, .pure), (6, .hard)]) (.two .nil .nil))))))))))))
theorem f11_ret {x0 x1 x2 : Value} {w0 : World} {R : Kv} (h : f11 x0 x1 x2 w0 R) : Ret PR 11 #[x0, x1, x2] w0 R :=
  ret_of_vc (fn := Try.f11) (c := body Try.f11) (x := a11) (args := [x0, x1, x2]) follows Try.func11 (body_eq (by kernel_rfl)) (by kernel_rfl) (Nat.le_of_ble_eq_true (by kernel_rfl))
    (Eq.mp (show f11 x0 x1 x2 w0 R = vcF PR Try.f11.results.toList (body Try.f11) a11 [x0, x1, x2] w0 R by kernel_rfl) h)

/-- drover/droverlaw12.few -/
def f12 (x0 : Value) (w0 : World) (R : Kv) : Prop :=
  loopV (X := Value) (.int .i64 0) w0 (fun K52 x51 w18 => ∀ _ : Env,
    pO (lenO x0) fun v55 =>
    pO (arithO .lss x51 v55) fun v56 =>
    cnd v56 (
      pO (ixsO 3 x0 x51) fun v59 =>
      pO (faO 2 v59) fun v60 =>
      l1 v60 w18 fun v61 =>
      pO (lenO v61) fun v62 =>
      pO (arithO .gtr v62 (.int .i64 300)) fun v63 =>
      cnd v63 (
        R (.bool false) w18) (
        pO (arithO .add x51 (.int .i64 1)) fun v65 =>
        K52 v65 w18)) (
      pO (lenO x0) fun v67 =>
      pO (arithO .leq v67 (.int .i64 150)) fun v68 =>
      R v68 w18))
def a12 : Ann := (.two .nil (.two (.two .nil (.loop [4, 5, 6, 7, 10, 11, 12, 13, 14, 15, 16, 2, 8, 9, 3] [3] (.two (.two .nil (.two .nil .nil)) (.two (.two .nil (.two (.two .nil .nil) .nil)) .nil)))) (.two .nil .nil)))
theorem f12_ret {x0 : Value} {w0 : World} {R : Kv} (h : f12 x0 w0 R) : Ret PR 12 #[x0] w0 R :=
  ret_of_vc (fn := Try.f12) (c := body Try.f12) (x := a12) (args := [x0]) follows Try.func12 (body_eq (by kernel_rfl)) (by kernel_rfl) (Nat.le_of_ble_eq_true (by kernel_rfl))
    (Eq.mp (show f12 x0 w0 R = vcF PR Try.f12.results.toList (body Try.f12) a12 [x0] w0 R by kernel_rfl) h)

/-- (*drover/dag.Graph).Parents -/
def f13 (x0 x1 : Value) (w0 : World) (R : Kv) : Prop :=
  Ret PR 29 #[x0, x1] w0 fun v2 w3 =>
  pO (cmpO false (eqpO v2 (.pointer none))) fun v6 =>
  cnd v6 (
    R (.tuple #[(.slice none 0 0), (.int .i64 3)]) w3) (
    pO (ncO v2) fun v9 =>
    pO (faO 1 v9) fun v10 =>
    l1 v10 w3 fun v11 =>
    Ret PR 24 #[v11] w3 fun v12 w13 =>
    R (.tuple #[v12, (.int .i64 0)]) w13)
def a13 : Ann := (.two .nil (.two .nil (.two (.two .nil (.two (.two .nil .nil) .nil)) (.two .nil .nil))))
theorem f13_ret {x0 x1 : Value} {w0 : World} {R : Kv} (h : f13 x0 x1 w0 R) : Ret PR 13 #[x0, x1] w0 R :=
  ret_of_vc (fn := Try.f13) (c := body Try.f13) (x := a13) (args := [x0, x1]) follows Try.func13 (body_eq (by kernel_rfl)) (by kernel_rfl) (Nat.le_of_ble_eq_true (by kernel_rfl))
    (Eq.mp (show f13 x0 x1 w0 R = vcF PR Try.f13.results.toList (body Try.f13) a13 [x0, x1] w0 R by kernel_rfl) h)

/-- drover/droverref12.In -/
def f14 (x0 x1 : Value) (w0 : World) (R : Kv) : Prop :=
  loopV (X := Value) (.int .i64 0) w0 (fun K43 x42 w17 => ∀ _ : Env,
    pO (lenO x0) fun v46 =>
    pO (arithO .lss x42 v46) fun v47 =>
    cnd v47 (
      pO (ixsO 1 x0 x42) fun v50 =>
      l1 v50 w17 fun v51 =>
      pO (cmpO false (eqlO v51 x1)) fun v52 =>
      cnd v52 (
        R (.bool true) w17) (
        pO (arithO .add x42 (.int .i64 1)) fun v54 =>
        K43 v54 w17)) (
      R (.bool false) w17))
def a14 : Ann := (.two .nil (.two (.two .nil (.loop [6, 7, 8, 9, 12, 13, 14, 15, 16, 17, 4, 10, 11, 5] [5] (.two (.two .nil (.two .nil .nil)) (.two (.two .nil (.two (.two .nil .nil) .nil)) .nil)))) (.two .nil .nil)))
theorem f14_ret {x0 x1 : Value} {w0 : World} {R : Kv} (h : f14 x0 x1 w0 R) : Ret PR 14 #[x0, x1] w0 R :=
  ret_of_vc (fn := Try.f14) (c := body Try.f14) (x := a14) (args := [x0, x1]) follows Try.func14 (body_eq (by kernel_rfl)) (by kernel_rfl) (Nat.le_of_ble_eq_true (by kernel_rfl))
    (Eq.mp (show f14 x0 x1 w0 R = vcF PR Try.f14.results.toList (body Try.f14) a14 [x0, x1] w0 R by kernel_rfl) h)

/-- (*drover/dag.Graph).Done -/
def f15 (x0 x1 : Value) (w0 : World) (R : Kv) : Prop :=
  Ret PR 29 #[x0, x1] w0 fun v2 w3 =>
  pO (cmpO false (eqpO v2 (.pointer none))) fun v6 =>
  cnd v6 (
    R (.tuple #[(.slice none 0 0), (.int .i64 3)]) w3) (
    Ret PR 16 #[x0, x1] w3 fun v10 w11 =>
    pO (unO .not v10) fun v12 =>
    cnd v12 (
      R (.tuple #[(.slice none 0 0), (.int .i64 10)]) w11) (
      pO (ncO v2) fun v15 =>
      pO (faO 0 v15) fun v16 =>
      stW 1 v16 (.int .i64 2) w11 fun w17 =>
      pO (ncO v2) fun v21 =>
      pO (faO 2 v21) fun v22 =>
      l1 v22 w17 fun v23 =>
      pO (lenO v23) fun v24 =>
      loopV (X := Value × Value) ((.slice none 0 0), (.int .i64 0)) w17 (fun K167 x166 w51 => ∀ _ : Env,
        pO (arithO .lss x166.2 v24) fun v169 =>
        cnd v169 (
          join (X := Value) (fun x196 w194 => ∀ _ : Env,
            pO (arithO .add x166.2 (.int .i64 1)) fun v197 =>
            K167 (x196, v197) w194)
          (fun K198 =>
            pO (ixsO 1 v23 x166.2) fun v200 =>
            l1 v200 w51 fun v201 =>
            pO (ncO x0) fun v203 =>
            pO (faO 0 v203) fun v204 =>
            pO (ixaO 101 4 v204 v201) fun v205 =>
            pO (faO 3 v205) fun v206 =>
            pO (ncO x0) fun v207 =>
            pO (faO 0 v207) fun v208 =>
            l1 v206 w51.drew fun v209 =>
            pO (arithO .sub v209 (.int .i64 1)) fun v210 =>
            pO (ixaO 101 4 v208 v201) fun v211 =>
            pO (faO 3 v211) fun v212 =>
            stW 1 v212 v210 w51.drew fun w213 =>
            Ret PR 16 #[x0, v201] w213 fun v215 w216 =>
            cnd v215 (
              sv PR (Instr.buildSlice 31 1 #[(0, v201)]) w216 fun v217 w218 =>
              sv PR (Builtin.append_ #[31, 31] 31 #[x166.1, v217]) w218 fun v219 w220 =>
              K198 v219 w220) (
              K198 x166.1 w216))) (
          Ret PR 25 #[x166.1] w51 fun v222 w223 =>
          R (.tuple #[x166.1, (.int .i64 0)]) w223))))
def a15 : Ann := (.two .nil (.two .nil (.two (.two .nil (.two (.two .nil .nil) .nil)) (.two (.two .nil (.two (.two .nil .nil) .nil)) (.two .nil (.two .nil (.two (.two .nil (.loop [28, 29, 30, 9, 31, 32, 33, 34, 35, 36, 37, 38, 39, 40, 41, 42, 43, 44, 45, 46, 47, 48, 49, 7, 50, 27] [7, 27] (.two .nil (.two (.two .nil .nil) (.join [29, 30, 9, 31, 32, 33, 34, 35, 36, 37, 38, 39, 40, 41, 42, 43, 44, 45, 46, 47, 48, 49, 7] [7] (.two .nil (.two (.planA [(0, .pure), (1, .pure), (2, .pure), (3, .pure), (4, .pure), (5, .pure), (8, .pure), (9, .pure), (6, .load), (7, .pure), (10, .pure), (11, .pure), (12, .hard)]) (.two .nil (.two .nil .nil)))) .nil))))) (.two .nil (.two .nil .nil)))))))))
theorem f15_ret {x0 x1 : Value} {w0 : World} {R : Kv} (h : f15 x0 x1 w0 R) : Ret PR 15 #[x0, x1] w0 R :=
  ret_of_vc (fn := Try.f15) (c := body Try.f15) (x := a15) (args := [x0, x1]) follows Try.func15 (body_eq (by kernel_rfl)) (by kernel_rfl) (Nat.le_of_ble_eq_true (by kernel_rfl))
    (Eq.mp (show f15 x0 x1 w0 R = vcF PR Try.f15.results.toList (body Try.f15) a15 [x0, x1] w0 R by kernel_rfl) h)

/-- (*drover/dag.Graph).Free -/
def f16 (x0 x1 : Value) (w0 : World) (R : Kv) : Prop :=
  Ret PR 29 #[x0, x1] w0 fun v2 w3 =>
  pO (cmpO true (eqpO v2 (.pointer none))) fun v5 =>
  gB (X := Value) v5 true undef (fun K43 =>
    pO (ncO v2) fun v44 =>
    pO (faO 0 v44) fun v45 =>
    l1 v45 w3 fun v46 =>
    pO (cmpO false (eqlO v46 (.int .i64 1))) fun v47 =>
    K43 v47 w3) w3 fun x27 w11 =>
  pO (pkO v5 x27 (.bool false)) fun v28 =>
  gB (X := Value) v28 true undef (fun K38 =>
    pO (ncO v2) fun v39 =>
    pO (faO 3 v39) fun v40 =>
    l1 v40 w11 fun v41 =>
    pO (cmpO false (eqlO v41 (.int .i64 0))) fun v42 =>
    K38 v42 w11) w11 fun x36 w34 =>
  pO (pkO v28 x36 (.bool false)) fun v37 =>
  R v37 w34
def a16 : Ann := (.two .nil (.two .nil (.two .nil .nil)))
theorem f16_ret {x0 x1 : Value} {w0 : World} {R : Kv} (h : f16 x0 x1 w0 R) : Ret PR 16 #[x0, x1] w0 R :=
  ret_of_vc (fn := Try.f16) (c := body Try.f16) (x := a16) (args := [x0, x1]) follows Try.func16 (body_eq (by kernel_rfl)) (by kernel_rfl) (Nat.le_of_ble_eq_true (by kernel_rfl))
    (Eq.mp (show f16 x0 x1 w0 R = vcF PR Try.f16.results.toList (body Try.f16) a16 [x0, x1] w0 R by kernel_rfl) h)

/-- (*drover/dag.Graph).Fail -/
def f17 (x0 x1 : Value) (w0 : World) (R : Kv) : Prop :=
  Ret PR 29 #[x0, x1] w0 fun v2 w3 =>
  pO (cmpO false (eqpO v2 (.pointer none))) fun v6 =>
  cnd v6 (
    R (.tuple #[(.slice none 0 0), (.int .i64 3)]) w3) (
    pO (ncO v2) fun v10 =>
    pO (faO 0 v10) fun v11 =>
    l1 v11 w3 fun v12 =>
    pO (cmpO true (eqlO v12 (.int .i64 1))) fun v13 =>
    cnd v13 (
      R (.tuple #[(.slice none 0 0), (.int .i64 10)]) w3) (
      pO (ncO v2) fun v16 =>
      pO (faO 0 v16) fun v17 =>
      stW 1 v17 (.int .i64 3) w3 fun w18 =>
      Ret PR 27 #[x0, x1] w18 fun v22 w23 =>
      pO (lenO v22) fun v24 =>
      loopV (X := Value × Value) ((.slice none 0 0), (.int .i64 0)) w23 (fun K154 x153 w50 => ∀ _ : Env,
        pO (arithO .lss x153.2 v24) fun v156 =>
        cnd v156 (
          join (X := Value) (fun x182 w180 => ∀ _ : Env,
            pO (arithO .add x153.2 (.int .i64 1)) fun v183 =>
            K154 (x182, v183) w180)
          (fun K184 =>
            pO (ixsO 1 v22 x153.2) fun v186 =>
            l1 v186 w50 fun v187 =>
            pO (ncO x0) fun v189 =>
            pO (faO 0 v189) fun v190 =>
            pO (ixaO 101 4 v190 v187) fun v191 =>
            pO (faO 0 v191) fun v192 =>
            l1 v192 w50 fun v193 =>
            pO (cmpO false (eqlO v193 (.int .i64 1))) fun v194 =>
            cnd v194 (
              pO (ncO x0) fun v196 =>
              pO (faO 0 v196) fun v197 =>
              pO (ixaO 101 4 v197 v187) fun v198 =>
              pO (faO 0 v198) fun v199 =>
              stW 1 v199 (.int .i64 3) w50 fun w200 =>
              sv PR (Instr.buildSlice 31 1 #[(0, v187)]) w200 fun v201 w202 =>
              sv PR (Builtin.append_ #[31, 31] 31 #[x153.1, v201]) w202 fun v203 w204 =>
              K184 v203 w204) (
              K184 x153.1 w50))) (
          R (.tuple #[x153.1, (.int .i64 0)]) w50))))
def a17 : Ann := (.two .nil (.two .nil (.two (.two .nil (.two (.two .nil .nil) .nil)) (.two (.two .nil (.two (.two .nil .nil) .nil)) (.two .nil (.two .nil (.two (.two .nil (.loop [28, 29, 30, 9, 31, 32, 33, 34, 35, 36, 37, 38, 39, 40, 41, 42, 43, 44, 45, 46, 47, 48, 7, 49, 27] [7, 27] (.two .nil (.two (.two .nil .nil) (.join [29, 30, 9, 31, 32, 33, 34, 35, 36, 37, 38, 39, 40, 41, 42, 43, 44, 45, 46, 47, 48, 7] [7] (.two .nil (.two .nil (.two (.two .nil .nil) .nil))) .nil))))) (.two .nil .nil))))))))
theorem f17_ret {x0 x1 : Value} {w0 : World} {R : Kv} (h : f17 x0 x1 w0 R) : Ret PR 17 #[x0, x1] w0 R :=
  ret_of_vc (fn := Try.f17) (c := body Try.f17) (x := a17) (args := [x0, x1]) follows Try.func17 (body_eq (by kernel_rfl)) (by kernel_rfl) (Nat.le_of_ble_eq_true (by kernel_rfl))
    (Eq.mp (show f17 x0 x1 w0 R = vcF PR Try.f17.results.toList (body Try.f17) a17 [x0, x1] w0 R by kernel_rfl) h)

/-- drover/droverlaw12.step -/
def f18 (x0 x1 x2 : Value) (w0 : World) (R : Kv) : Prop :=
  bx 33 x2 w0 fun v1 w2 =>
  pO (faO 0 v1) fun v5 =>
  l1 v5 w2 fun v6 =>
  pO (cmpO false (eqlO v6 (.int .i64 1))) fun v8 =>
  cnd v8 (
    pO (faO 1 v1) fun v10 =>
    l1 v10 w2 fun v11 =>
    pO (faO 2 v1) fun v12 =>
    l1 v12 w2 fun v13 =>
    Ret PR 11 #[x0, v11, v13] w2 fun v14 w15 =>
    pO (exO v14 0) fun v16 =>
    pO (exO v14 1) fun v17 =>
    pO (faO 1 v1) fun v19 =>
    l1 v19 w15 fun v20 =>
    pO (faO 2 v1) fun v21 =>
    l1 v21 w15 fun v22 =>
    Ret PR 20 #[x1, v20, v22] w15 fun v23 w24 =>
    pO (exO v23 0) fun v25 =>
    pO (exO v23 1) fun v26 =>
    pO (cmpO false (eqbO v16 v25)) fun v28 =>
    gB (X := Value) v28 true undef (fun K36 =>
      pO (cmpO false (eqlO v17 v26)) fun v37 =>
      K36 v37 w24) w24 fun x34 w32 =>
    pO (pkO v28 x34 (.bool false)) fun v35 =>
    R v35 w32) (
    pO (cmpO false (eqlO v6 (.int .i64 2))) fun v39 =>
    cnd v39 (
      pO (faO 1 v1) fun v41 =>
      l1 v41 w2 fun v42 =>
      Ret PR 13 #[x0, v42] w2 fun v43 w44 =>
      pO (exO v43 0) fun v45 =>
      pO (exO v43 1) fun v46 =>
      pO (faO 1 v1) fun v48 =>
      l1 v48 w44 fun v49 =>
      Ret PR 22 #[x1, v49] w44 fun v50 w51 =>
      pO (exO v50 0) fun v52 =>
      pO (exO v50 1) fun v53 =>
      pO (cmpO false (eqlO v46 v53)) fun v55 =>
      gB (X := Value) v55 true undef (fun K63 =>
        Ret PR 21 #[v45, v52] w51 fun v64 w65 =>
        K63 v64 w65) w51 fun x61 w59 =>
      pO (pkO v55 x61 (.bool false)) fun v62 =>
      R v62 w59) (
      pO (cmpO false (eqlO v6 (.int .i64 3))) fun v67 =>
      cnd v67 (
        ∃ C69 : World → Prop, C69 w2.drew ∧
        pO (faO 1 v1) fun v70 =>
        pO (faO 1 v1) fun v71 =>
        l1C C69 v70 fun v72 =>
        l1C C69 v71 fun v73 =>
        Ret PR 16 #[x0, v72] w2.drew fun v74 w75 =>
        C69 w75 ∧
        Ret PR 19 #[x1, v73] w75 fun v76 w77 =>
        pO (cmpO false (eqbO v74 v76)) fun v78 =>
        R v78 w77) (
        pO (cmpO false (eqlO v6 (.int .i64 4))) fun v80 =>
        cnd v80 (
          pO (faO 1 v1) fun v82 =>
          l1 v82 w2 fun v83 =>
          Ret PR 15 #[x0, v83] w2 fun v84 w85 =>
          pO (exO v84 0) fun v86 =>
          pO (exO v84 1) fun v87 =>
          pO (faO 1 v1) fun v89 =>
          l1 v89 w85 fun v90 =>
          Ret PR 30 #[x1, v90] w85 fun v91 w92 =>
          pO (exO v91 0) fun v93 =>
          pO (exO v91 1) fun v94 =>
          pO (cmpO false (eqlO v87 v94)) fun v96 =>
          gB (X := Value) v96 true undef (fun K104 =>
            Ret PR 21 #[v86, v93] w92 fun v105 w106 =>
            K104 v105 w106) w92 fun x102 w100 =>
          pO (pkO v96 x102 (.bool false)) fun v103 =>
          R v103 w100) (
          pO (cmpO false (eqlO v6 (.int .i64 5))) fun v108 =>
          cnd v108 (
            pO (faO 1 v1) fun v110 =>
            l1 v110 w2 fun v111 =>
            Ret PR 17 #[x0, v111] w2 fun v112 w113 =>
            pO (exO v112 0) fun v114 =>
            pO (exO v112 1) fun v115 =>
            pO (faO 1 v1) fun v117 =>
            l1 v117 w113 fun v118 =>
            Ret PR 31 #[x1, v118] w113 fun v119 w120 =>
            pO (exO v119 0) fun v121 =>
            pO (exO v119 1) fun v122 =>
            pO (cmpO false (eqlO v115 v122)) fun v124 =>
            gB (X := Value) v124 true undef (fun K132 =>
              Ret PR 21 #[v114, v121] w120 fun v133 w134 =>
              K132 v133 w134) w120 fun x130 w128 =>
            pO (pkO v124 x130 (.bool false)) fun v131 =>
            R v131 w128) (
            R (.bool true) w2)))))
def a18 : Ann := (.two .nil (.two (.two .nil (.two .nil (.two (.two .nil (.two .nil (.two .nil .nil))) (.two .nil (.two (.two .nil (.two .nil (.two .nil .nil))) (.two .nil (.two (.two (.planB [(0, .pure), (1, .pure), (4, .pure), (5, .pure), (2, .load), (6, .load), (3, .hardF), (7, .hard), (8, .pure), (9, .pure)]) .nil) (.two .nil (.two (.two .nil (.two .nil (.two .nil .nil))) (.two .nil (.two (.two .nil (.two .nil (.two .nil .nil))) .nil))))))))))) (.two .nil .nil)))
theorem f18_ret {x0 x1 x2 : Value} {w0 : World} {R : Kv} (h : f18 x0 x1 x2 w0 R) : Ret PR 18 #[x0, x1, x2] w0 R :=
  ret_of_vc (fn := Try.f18) (c := body Try.f18) (x := a18) (args := [x0, x1, x2]) follows Try.func18 (body_eq (by kernel_rfl)) (by kernel_rfl) (Nat.le_of_ble_eq_true (by kernel_rfl))
    (Eq.mp (show f18 x0 x1 x2 w0 R = vcF PR Try.f18.results.toList (body Try.f18) a18 [x0, x1, x2] w0 R by kernel_rfl) h)

/-- (*drover/droverref12.Graph).Free -/
def f19 (x0 x1 : Value) (w0 : World) (R : Kv) : Prop :=
  Ret PR 32 #[x0, x1] w0 fun v2 w3 =>
  pO (arithO .lss v2 (.int .i64 0)) fun v6 =>
  gB (X := Value) v6 false undef (fun K416 =>
    pO (ncO x0) fun v417 =>
    pO (faO 0 v417) fun v418 =>
    l1 v418 w3 fun v419 =>
    pO (ixsO 3 v419 v2) fun v420 =>
    pO (faO 2 v420) fun v421 =>
    l1 v421 w3 fun v422 =>
    pO (cmpO true (eqlO v422 (.int .i64 1))) fun v423 =>
    K416 v423 w3) w3 fun x216 w16 =>
  pO (pkO v6 (.bool true) x216) fun v217 =>
  cnd v217 (
    R (.bool false) w16) (
    loopV (X := Value) (.int .i64 0) w16 (fun K365 x364 w263 => ∀ _ : Env,
      pO (ncO x0) fun v368 =>
      pO (faO 0 v368) fun v369 =>
      l1 v369 w263 fun v370 =>
      pO (ixsO 3 v370 v2) fun v371 =>
      pO (faO 1 v371) fun v372 =>
      l1 v372 w263 fun v373 =>
      pO (lenO v373) fun v374 =>
      pO (arithO .lss x364 v374) fun v375 =>
      cnd v375 (
        pO (ncO x0) fun v378 =>
        pO (faO 0 v378) fun v379 =>
        l1 v379 w263 fun v380 =>
        pO (ixsO 3 v380 v2) fun v381 =>
        pO (faO 1 v381) fun v382 =>
        l1 v382 w263 fun v383 =>
        pO (ixsO 1 v383 x364) fun v384 =>
        l1 v384 w263 fun v385 =>
        Ret PR 32 #[x0, v385] w263 fun v386 w387 =>
        pO (arithO .lss v386 (.int .i64 0)) fun v389 =>
        gB (X := Value) v389 false undef (fun K407 =>
          pO (ncO x0) fun v408 =>
          pO (faO 0 v408) fun v409 =>
          l1 v409 w387 fun v410 =>
          pO (ixsO 3 v410 v386) fun v411 =>
          pO (faO 2 v411) fun v412 =>
          l1 v412 w387 fun v413 =>
          pO (cmpO true (eqlO v413 (.int .i64 2))) fun v414 =>
          K407 v414 w387) w387 fun x403 w399 =>
        pO (pkO v389 (.bool true) x403) fun v404 =>
        cnd v404 (
          R (.bool false) w399) (
          pO (arithO .add x364 (.int .i64 1)) fun v406 =>
          K365 v406 w399)) (
        R (.bool true) w263)))
def a19 : Ann := (.two .nil (.two .nil (.two (.two .nil (.two (.two .nil .nil) .nil)) (.two (.two .nil (.loop [24, 25, 26, 27, 28, 29, 30, 31, 32, 33, 34, 37, 38, 39, 40, 41, 42, 43, 44, 45, 46, 47, 48, 49, 7, 50, 51, 52, 53, 54, 55, 56, 57, 58, 59, 60, 61, 62, 4, 35, 36, 6] [6] (.two (.two .nil (.two .nil .nil)) (.two (.two .nil (.two .nil (.two (.two .nil .nil) .nil))) .nil)))) (.two .nil .nil)))))
theorem f19_ret {x0 x1 : Value} {w0 : World} {R : Kv} (h : f19 x0 x1 w0 R) : Ret PR 19 #[x0, x1] w0 R :=
  ret_of_vc (fn := Try.f19) (c := body Try.f19) (x := a19) (args := [x0, x1]) follows Try.func19 (body_eq (by kernel_rfl)) (by kernel_rfl) (Nat.le_of_ble_eq_true (by kernel_rfl))
    (Eq.mp (show f19 x0 x1 w0 R = vcF PR Try.f19.results.toList (body Try.f19) a19 [x0, x1] w0 R by kernel_rfl) h)

/-- (*drover/droverref12.Graph).Add -/
def f20 (x0 x1 x2 : Value) (w0 : World) (R : Kv) : Prop :=
  pO (arithO .geq x1 (.int .i64 1)) fun v2 =>
  gB (X := Value) v2 true undef (fun K6717 =>
    pO (arithO .leq x1 (.int .i64 100)) fun v6718 =>
    K6717 v6718 w0) w0 fun x3361 w5 =>
  pO (pkO v2 x3361 (.bool false)) fun v3362 =>
  loopV (X := Value × Value × Value) (v3362, (.slice none 0 0), (.int .i64 0)) w5 (fun K5611 x5610 w3399 => ∀ _ : Env,
    pO (lenO x2) fun v5614 =>
    pO (arithO .lss x5610.2.2 v5614) fun v5615 =>
    cnd v5615 (
      join (X := Value × Value) (fun x5644 w5642 => ∀ _ : Env,
        pO (arithO .add x5610.2.2 (.int .i64 1)) fun v5645 =>
        K5611 (x5644.1, x5644.2, v5645) w5642)
      (fun K5646 =>
        gB (X := Value) x5610.1 true undef (fun K5711 =>
          pO (ixsO 1 x2 x5610.2.2) fun v5712 =>
          l1 v5712 w3399 fun v5713 =>
          pO (arithO .geq v5713 (.int .i64 1)) fun v5714 =>
          K5711 v5714 w3399) w3399 fun x5682 w5653 =>
        pO (pkO x5610.1 x5682 (.bool false)) fun v5683 =>
        gB (X := Value) v5683 true undef (fun K5707 =>
          pO (ixsO 1 x2 x5610.2.2) fun v5708 =>
          l1 v5708 w5653 fun v5709 =>
          pO (arithO .leq v5709 (.int .i64 100)) fun v5710 =>
          K5707 v5710 w5653) w5653 fun x5698 w5689 =>
        pO (pkO v5683 x5698 (.bool false)) fun v5699 =>
        pO (lenO x5610.2.1) fun v5701 =>
        pO (arithO .lss v5701 (.int .i64 100)) fun v5702 =>
        cnd v5702 (
          pO (ixsO 1 x2 x5610.2.2) fun v5703 =>
          l1 v5703 w5689 fun v5704 =>
          Ret PR 33 #[x5610.2.1, v5704] w5689 fun v5705 w5706 =>
          K5646 (v5699, v5705) w5706) (
          K5646 (v5699, x5610.2.1) w5689))) (
      pO (unO .not x5610.1) fun v5717 =>
      cnd v5717 (
        R (.tuple #[(.bool false), (.int .i64 2)]) w3399) (
        Ret PR 32 #[x0, x1] w3399 fun v5721 w5722 =>
        pO (arithO .geq v5721 (.int .i64 0)) fun v5723 =>
        cnd v5723 (
          R (.tuple #[(.bool false), (.int .i64 5)]) w5722) (
          Ret PR 34 #[x0, x5610.2.1] w5722 fun v5727 w5728 =>
          Ret PR 14 #[v5727, x1] w5728 fun v5729 w5730 =>
          cnd v5729 (
            R (.tuple #[(.bool false), (.int .i64 8)]) w5730) (
            loopV (X := Value) (.int .i64 0) w5730 (fun K6399 x6398 w5763 => ∀ _ : Env,
              pO (lenO x5610.2.1) fun v6402 =>
              pO (arithO .lss x6398 v6402) fun v6403 =>
              cnd v6403 (
                pO (ixsO 1 x5610.2.1 x6398) fun v6406 =>
                l1 v6406 w5763 fun v6407 =>
                Ret PR 32 #[x0, v6407] w5763 fun v6408 w6409 =>
                pO (arithO .geq v6408 (.int .i64 0)) fun v6411 =>
                gB (X := Value) v6411 true undef (fun K6429 =>
                  pO (ncO x0) fun v6430 =>
                  pO (faO 0 v6430) fun v6431 =>
                  l1 v6431 w6409 fun v6432 =>
                  pO (ixsO 3 v6432 v6408) fun v6433 =>
                  pO (faO 2 v6433) fun v6434 =>
                  l1 v6434 w6409 fun v6435 =>
                  pO (cmpO false (eqlO v6435 (.int .i64 3))) fun v6436 =>
                  K6429 v6436 w6409) w6409 fun x6425 w6421 =>
                pO (pkO v6411 x6425 (.bool false)) fun v6426 =>
                cnd v6426 (
                  R (.tuple #[(.bool false), (.int .i64 10)]) w6421) (
                  pO (arithO .add x6398 (.int .i64 1)) fun v6428 =>
                  K6399 v6428 w6421)) (
                sv PR (Instr.build 65 #[(0, x1), (1, x5610.2.1), (2, (.int .i64 1))]) w5763 fun v6438 w6439 =>
                sv PR (Instr.alloc 65 true (.tuple #[])) w6439 fun v6440 w6441 =>
                stW 3 v6440 v6438 w6441 fun w6442 =>
                ∃ C6444 : World → Prop, C6444 w6442.drew ∧
                pO (ncO x0) fun v6445 =>
                pO (faO 0 v6445) fun v6446 =>
                l1C C6444 v6446 fun v6447 =>
                lNC C6444 3 v6440 fun v6448 =>
                sv PR (Instr.buildSlice 43 1 #[(0, v6448)]) w6442.drew fun v6449 w6450 =>
                C6444 w6450 ∧
                sv PR (Builtin.append_ #[43, 43] 43 #[v6447, v6449]) w6450 fun v6451 w6452 =>
                pO (ncO x0) fun v6453 =>
                pO (faO 0 v6453) fun v6454 =>
                stW 1 v6454 v6451 w6452 fun w6455 =>
                pO (ncO x0) fun v6457 =>
                pO (faO 0 v6457) fun v6458 =>
                l1 v6458 w6455 fun v6459 =>
                pO (lenO v6459) fun v6460 =>
                pO (arithO .sub v6460 (.int .i64 1)) fun v6461 =>
                loopV (X := Value) v6461 w6455 (fun K6643 x6642 w6495 => ∀ _ : Env,
                  pO (arithO .gtr x6642 (.int .i64 0)) fun v6646 =>
                  gB (X := Value) v6646 true undef (fun K6708 =>
                    pO (ncO x0) fun v6709 =>
                    pO (faO 0 v6709) fun v6710 =>
                    l1 v6710 w6495 fun v6711 =>
                    pO (arithO .sub x6642 (.int .i64 1)) fun v6712 =>
                    pO (ixsO 3 v6711 v6712) fun v6713 =>
                    pO (faO 0 v6713) fun v6714 =>
                    l1 v6714 w6495 fun v6715 =>
                    pO (arithO .gtr v6715 x1) fun v6716 =>
                    K6708 v6716 w6495) w6495 fun x6683 w6658 =>
                  pO (pkO v6646 x6683 (.bool false)) fun v6684 =>
                  cnd v6684 (
                    pO (ncO x0) fun v6686 =>
                    pO (faO 0 v6686) fun v6687 =>
                    pO (ncO x0) fun v6688 =>
                    pO (faO 0 v6688) fun v6689 =>
                    pO (arithO .sub x6642 (.int .i64 1)) fun v6690 =>
                    l1 v6687 w6658.drew fun v6691 =>
                    l1 v6689 w6658.drew fun v6692 =>
                    pO (ixsO 3 v6692 v6690) fun v6693 =>
                    lN 3 v6693 w6658.drew fun v6694 =>
                    pO (ixsO 3 v6691 x6642) fun v6695 =>
                    stW 3 v6695 v6694 w6658.drew fun w6696 =>
                    pO (arithO .sub x6642 (.int .i64 1)) fun v6697 =>
                    K6643 v6697 w6696) (
                    pO (ncO x0) fun v6699 =>
                    pO (faO 0 v6699) fun v6700 =>
                    l1 v6700 w6658.drew fun v6701 =>
                    lN 3 v6440 w6658.drew fun v6702 =>
                    pO (ixsO 3 v6701 x6642) fun v6703 =>
                    stW 3 v6703 v6702 w6658.drew fun w6704 =>
                    Ret PR 19 #[x0, x1] w6704 fun v6706 w6707 =>
                    R (.tuple #[v6706, (.int .i64 0)]) w6707)))))))))
def a20 : Ann := (.two .nil (.two .nil (.two .nil (.two (.two .nil (.loop [21, 22, 23, 24, 27, 28, 29, 30, 31, 32, 33, 34, 35, 36, 37, 38, 39, 40, 41, 8, 42, 43, 44, 45, 46, 47, 48, 49, 50, 9, 25, 26, 10] [8, 9, 10] (.two (.two .nil (.two .nil .nil)) (.join [27, 28, 29, 30, 31, 32, 33, 34, 35, 36, 37, 38, 39, 40, 41, 8, 42, 43, 44, 45, 46, 47, 48, 49, 50, 9] [8, 9] (.two .nil (.two .nil (.two .nil .nil))) .nil)))) (.two (.two .nil (.two (.two .nil .nil) .nil)) (.two (.two .nil (.two (.two .nil .nil) .nil)) (.two (.two .nil (.two (.two .nil .nil) .nil)) (.two (.two .nil (.loop [62, 63, 64, 65, 68, 69, 70, 71, 72, 73, 12, 74, 75, 76, 77, 78, 79, 80, 81, 82, 83, 84, 85, 86, 6, 7, 66, 67, 11] [11] (.two (.two .nil (.two .nil .nil)) (.two (.two .nil (.two .nil (.two (.two .nil .nil) .nil))) .nil)))) (.two .nil (.two (.planB [(0, .pure), (1, .pure), (2, .pure), (3, .pure), (4, .load), (5, .load), (6, .hardF), (7, .hard), (8, .pure), (9, .pure), (10, .hard)]) (.two .nil (.two (.loop [106, 107, 108, 109, 110, 111, 112, 113, 114, 115, 116, 117, 118, 119, 120, 121, 122, 123, 124, 125, 126, 127, 128, 129, 130, 131, 132, 133, 134, 135, 136, 14] [14] (.two (.two .nil (.two .nil .nil)) (.two (.planA [(0, .pure), (1, .pure), (2, .pure), (4, .pure), (5, .pure), (6, .pure), (7, .pure), (9, .pure), (10, .pure), (3, .load), (8, .load), (11, .pureF), (12, .load), (13, .pure), (14, .hard)]) .nil))) (.two (.planA [(0, .pure), (1, .pure), (2, .pure), (4, .pure), (3, .load), (5, .load), (6, .pure), (7, .hard)]) (.two .nil .nil))))))))))))))
theorem f20_ret {x0 x1 x2 : Value} {w0 : World} {R : Kv} (h : f20 x0 x1 x2 w0 R) : Ret PR 20 #[x0, x1, x2] w0 R :=
  ret_of_vc (fn := Try.f20) (c := body Try.f20) (x := a20) (args := [x0, x1, x2]) follows Try.func20 (body_eq (by kernel_rfl)) (by kernel_rfl) (Nat.le_of_ble_eq_true (by kernel_rfl))
    (Eq.mp (show f20 x0 x1 x2 w0 R = vcF PR Try.f20.results.toList (body Try.f20) a20 [x0, x1, x2] w0 R by kernel_rfl) h)

/-- drover/droverref04.SameInts -/
def f21 (x0 x1 : Value) (w0 : World) (R : Kv) : Prop :=
  pO (lenO x0) fun v3 =>
  pO (lenO x1) fun v4 =>
  pO (cmpO true (eqlO v3 v4)) fun v5 =>
  cnd v5 (
    R (.bool false) w0) (
    loopV (X := Value) (.int .i64 0) w0 (fun K56 x55 w26 => ∀ _ : Env,
      pO (lenO x0) fun v59 =>
      pO (arithO .lss x55 v59) fun v60 =>
      cnd v60 (
        pO (ixsO 1 x0 x55) fun v63 =>
        pO (ixsO 1 x1 x55) fun v64 =>
        l1 v63 w26.drew fun v65 =>
        l1 v64 w26.drew fun v66 =>
        pO (cmpO true (eqlO v65 v66)) fun v67 =>
        cnd v67 (
          R (.bool false) w26.drew) (
          pO (arithO .add x55 (.int .i64 1)) fun v69 =>
          K56 v69 w26.drew)) (
        R (.bool true) w26)))
def a21 : Ann := (.two .nil (.two (.two .nil (.two (.two .nil .nil) .nil)) (.two (.two .nil (.loop [11, 12, 13, 14, 17, 18, 19, 20, 21, 22, 23, 24, 25, 4, 15, 16, 5] [5] (.two (.two .nil (.two .nil .nil)) (.two (.two (.planA [(0, .pure), (1, .pure), (2, .pure), (4, .pure), (5, .pure), (6, .pure), (3, .load), (7, .load), (8, .pure)]) (.two (.two .nil .nil) .nil)) .nil)))) (.two .nil .nil))))
theorem f21_ret {x0 x1 : Value} {w0 : World} {R : Kv} (h : f21 x0 x1 w0 R) : Ret PR 21 #[x0, x1] w0 R :=
  ret_of_vc (fn := Try.f21) (c := body Try.f21) (x := a21) (args := [x0, x1]) follows Try.func21 (body_eq (by kernel_rfl)) (by kernel_rfl) (Nat.le_of_ble_eq_true (by kernel_rfl))
    (Eq.mp (show f21 x0 x1 w0 R = vcF PR Try.f21.results.toList (body Try.f21) a21 [x0, x1] w0 R by kernel_rfl) h)

/-- (*drover/droverref12.Graph).Parents -/
def f22 (x0 x1 : Value) (w0 : World) (R : Kv) : Prop :=
  Ret PR 32 #[x0, x1] w0 fun v2 w3 =>
  pO (arithO .lss v2 (.int .i64 0)) fun v6 =>
  cnd v6 (
    R (.tuple #[(.slice none 0 0), (.int .i64 3)]) w3) (
    pO (ncO x0) fun v9 =>
    pO (faO 0 v9) fun v10 =>
    l1 v10 w3 fun v11 =>
    pO (ixsO 3 v11 v2) fun v12 =>
    pO (faO 1 v12) fun v13 =>
    l1 v13 w3 fun v14 =>
    R (.tuple #[v14, (.int .i64 0)]) w3)
def a22 : Ann := (.two .nil (.two .nil (.two (.two .nil (.two (.two .nil .nil) .nil)) (.two .nil .nil))))
theorem f22_ret {x0 x1 : Value} {w0 : World} {R : Kv} (h : f22 x0 x1 w0 R) : Ret PR 22 #[x0, x1] w0 R :=
  ret_of_vc (fn := Try.f22) (c := body Try.f22) (x := a22) (args := [x0, x1]) follows Try.func22 (body_eq (by kernel_rfl)) (by kernel_rfl) (Nat.le_of_ble_eq_true (by kernel_rfl))
    (Eq.mp (show f22 x0 x1 w0 R = vcF PR Try.f22.results.toList (body Try.f22) a22 [x0, x1] w0 R by kernel_rfl) h)

/-- drover/dag.right -/
def f23 (x0 : Value) (w0 : World) (R : Kv) : Prop :=
  pO (lenO x0) fun v3 =>
  loopV (X := Value) (.int .i64 0) w0 (fun K63 x62 w17 => ∀ _ : Env,
    pO (arithO .lss x62 v3) fun v65 =>
    cnd v65 (
      pO (ixsO 1 x0 x62) fun v69 =>
      l1 v69 w17 fun v70 =>
      pO (arithO .lss v70 (.int .i64 1)) fun v72 =>
      gB (X := Value) v72 false undef (fun K83 =>
        pO (arithO .gtr v70 (.int .i64 100)) fun v84 =>
        K83 v84 w17) w17 fun x79 w75 =>
      pO (pkO v72 (.bool true) x79) fun v80 =>
      cnd v80 (
        R (.bool false) w75) (
        pO (arithO .add x62 (.int .i64 1)) fun v82 =>
        K63 v82 w75)) (
      R (.bool true) w17))
def a23 : Ann := (.two .nil (.two (.two .nil (.loop [8, 9, 10, 4, 11, 12, 13, 14, 15, 16, 2, 17, 7] [7] (.two .nil (.two (.two .nil .nil) (.two (.two .nil (.two .nil (.two (.two .nil .nil) .nil))) .nil))))) (.two .nil .nil)))
theorem f23_ret {x0 : Value} {w0 : World} {R : Kv} (h : f23 x0 w0 R) : Ret PR 23 #[x0] w0 R :=
  ret_of_vc (fn := Try.f23) (c := body Try.f23) (x := a23) (args := [x0]) follows Try.func23 (body_eq (by kernel_rfl)) (by kernel_rfl) (Nat.le_of_ble_eq_true (by kernel_rfl))
    (Eq.mp (show f23 x0 w0 R = vcF PR Try.f23.results.toList (body Try.f23) a23 [x0] w0 R by kernel_rfl) h)

/-- slices.Clone[[]int64,int64] -/
def f24 (x0 : Value) (w0 : World) (R : Kv) : Prop :=
  pO (cmpO false (eqsO x0 (.slice none 0 0))) fun v3 =>
  cnd v3 (
    R (.slice none 0 0) w0) (
    sv PR (Instr.buildSlice 31 0 #[]) w0 fun v6 w7 =>
    sv PR (Builtin.append_ #[31, 31] 31 #[v6, x0]) w7 fun v8 w9 =>
    R v8 w9)
def a24 : Ann := (.two .nil (.two (.two .nil (.two (.two .nil .nil) .nil)) (.two .nil .nil)))
theorem f24_ret {x0 : Value} {w0 : World} {R : Kv} (h : f24 x0 w0 R) : Ret PR 24 #[x0] w0 R :=
  ret_of_vc (fn := Try.f24) (c := body Try.f24) (x := a24) (args := [x0]) follows Try.func24 (body_eq (by kernel_rfl)) (by kernel_rfl) (Nat.le_of_ble_eq_true (by kernel_rfl))
    (Eq.mp (show f24 x0 w0 R = vcF PR Try.f24.results.toList (body Try.f24) a24 [x0] w0 R by kernel_rfl) h)

/-- slices.Sort[[]int64,int64] -/
def f25 (x0 : Value) (w0 : World) (R : Kv) : Prop :=
  pO (lenO x0) fun v1 =>
  pO (cviO .u64 v1) fun v2 =>
  Ret PR 36 #[v2] w0 fun v3 w4 =>
  Ret PR 35 #[x0, (.int .i64 0), v1, v3] w4 fun v5 w6 =>
  R (.tuple #[]) w6
def a25 : Ann := (.two .nil .nil)
theorem f25_ret {x0 : Value} {w0 : World} {R : Kv} (h : f25 x0 w0 R) : Ret PR 25 #[x0] w0 R :=
  ret_of_vc (fn := Try.f25) (c := body Try.f25) (x := a25) (args := [x0]) follows Try.func25 (body_eq (by kernel_rfl)) (by kernel_rfl) (Nat.le_of_ble_eq_true (by kernel_rfl))
    (Eq.mp (show f25 x0 w0 R = vcF PR Try.f25.results.toList (body Try.f25) a25 [x0] w0 R by kernel_rfl) h)

/-- slices.Compact[[]int64,int64] -/
def f26 (x0 : Value) (w0 : World) (R : Kv) : Prop :=
  pO (lenO x0) fun v3 =>
  pO (arithO .lss v3 (.int .i64 2)) fun v4 =>
  cnd v4 (
    R x0 w0) (
    loopV (X := Value) (.int .i64 1) w0 (fun K448 x447 w62 => ∀ _ : Env,
      pO (lenO x0) fun v451 =>
      pO (arithO .lss x447 v451) fun v452 =>
      cnd v452 (
        pO (ixsO 1 x0 x447) fun v455 =>
        pO (arithO .sub x447 (.int .i64 1)) fun v456 =>
        pO (ixsO 1 x0 v456) fun v457 =>
        l1 v455 w62.drew fun v458 =>
        l1 v457 w62.drew fun v459 =>
        pO (cmpO false (eqlO v458 v459)) fun v460 =>
        cnd v460 (
          pO (cutO 1 x0 (some x447) none) fun v462 =>
          loopV (X := Value × Value) (x447, (.int .i64 1)) w62.drew (fun K590 x589 w492 => ∀ _ : Env,
            pO (lenO v462) fun v593 =>
            pO (arithO .lss x589.2 v593) fun v594 =>
            cnd v594 (
              join (X := Value) (fun x617 w615 => ∀ _ : Env,
                pO (arithO .add x589.2 (.int .i64 1)) fun v618 =>
                K590 (x617, v618) w615)
              (fun K619 =>
                pO (ixsO 1 v462 x589.2) fun v621 =>
                pO (arithO .sub x589.2 (.int .i64 1)) fun v622 =>
                pO (ixsO 1 v462 v622) fun v623 =>
                l1 v621 w492.drew fun v624 =>
                l1 v623 w492.drew fun v625 =>
                pO (cmpO true (eqlO v624 v625)) fun v626 =>
                cnd v626 (
                  pO (ixsO 1 v462 x589.2) fun v628 =>
                  l1 v628 w492.drew fun v629 =>
                  pO (ixsO 1 x0 x589.1) fun v630 =>
                  stW 1 v630 v629 w492.drew fun w631 =>
                  pO (arithO .add x589.1 (.int .i64 1)) fun v632 =>
                  K619 v632 w631) (
                  K619 x589.1 w492.drew))) (
              pO (cutO 1 x0 (some x589.1) none) fun v634 =>
              sv PR (Builtin.clear_ #[31] 0 #[v634]) w492 fun v635 w636 =>
              pO (cutO 1 x0 none (some x589.1)) fun v638 =>
              R v638 w636))) (
          pO (arithO .add x447 (.int .i64 1)) fun v639 =>
          K448 v639 w62.drew)) (
        R x0 w62)))
def a26 : Ann := (.two .nil (.two (.two .nil (.two (.two .nil .nil) .nil)) (.two (.two .nil (.loop [10, 11, 12, 13, 16, 17, 18, 19, 20, 21, 22, 23, 24, 25, 26, 27, 28, 4, 5, 29, 30, 31, 32, 35, 36, 37, 38, 39, 40, 41, 42, 43, 44, 45, 46, 47, 48, 49, 50, 51, 52, 53, 3, 33, 34, 54, 55, 56, 57, 58, 59, 2, 14, 15] [3] (.two (.two .nil (.two .nil .nil)) (.two (.two (.planA [(0, .pure), (1, .pure), (2, .pure), (4, .pure), (5, .pure), (6, .pure), (7, .pure), (3, .load), (8, .load), (9, .pure)]) (.two (.two .nil (.two (.two .nil (.loop [29, 30, 31, 32, 35, 36, 37, 38, 39, 40, 41, 42, 43, 44, 45, 46, 47, 48, 49, 50, 51, 52, 53, 3, 33, 34, 5] [3, 5] (.two (.two .nil (.two .nil .nil)) (.join [35, 36, 37, 38, 39, 40, 41, 42, 43, 44, 45, 46, 47, 48, 49, 50, 51, 52, 53, 3] [3] (.two (.planA [(0, .pure), (1, .pure), (2, .pure), (4, .pure), (5, .pure), (6, .pure), (7, .pure), (3, .load), (8, .load), (9, .pure)]) (.two (.two .nil .nil) .nil)) .nil)))) (.two .nil (.two .nil .nil)))) .nil)) .nil)))) (.two .nil .nil))))
theorem f26_ret {x0 : Value} {w0 : World} {R : Kv} (h : f26 x0 w0 R) : Ret PR 26 #[x0] w0 R :=
  ret_of_vc (fn := Try.f26) (c := body Try.f26) (x := a26) (args := [x0]) follows Try.func26 (body_eq (by kernel_rfl)) (by kernel_rfl) (Nat.le_of_ble_eq_true (by kernel_rfl))
    (Eq.mp (show f26 x0 w0 R = vcF PR Try.f26.results.toList (body Try.f26) a26 [x0] w0 R by kernel_rfl) h)

/-- (*drover/dag.Graph).below -/
def f27 (x0 x1 : Value) (w0 : World) (R : Kv) : Prop :=
  sv PR (Instr.alloc 70 true (.tuple #[])) w0 fun v2 w3 =>
  pO (ncO x0) fun v6 =>
  pO (faO 0 v6) fun v7 =>
  pO (ixaO 101 4 v7 x1) fun v8 =>
  pO (faO 2 v8) fun v9 =>
  l1 v9 w3 fun v10 =>
  Ret PR 24 #[v10] w3 fun v11 w12 =>
  loopV (X := Value × Value) (v11, (.slice none 0 0)) w12 (fun K123 x122 w49 => ∀ _ : Env,
    pO (lenO x122.1) fun v126 =>
    pO (arithO .gtr v126 (.int .i64 0)) fun v127 =>
    cnd v127 (
      pO (lenO x122.1) fun v129 =>
      pO (arithO .sub v129 (.int .i64 1)) fun v130 =>
      pO (ixsO 1 x122.1 v130) fun v131 =>
      l1 v131 w49 fun v132 =>
      pO (lenO x122.1) fun v134 =>
      pO (arithO .sub v134 (.int .i64 1)) fun v135 =>
      pO (cutO 1 x122.1 none (some v135)) fun v136 =>
      pO (ixaO 101 1 v2 v132) fun v139 =>
      l1 v139 w49 fun v140 =>
      cnd v140 (
        K123 (v136, x122.2) w49) (
        pO (ixaO 101 1 v2 v132) fun v142 =>
        stW 1 v142 (.bool true) w49 fun w143 =>
        sv PR (Instr.buildSlice 31 1 #[(0, v132)]) w143 fun v145 w146 =>
        sv PR (Builtin.append_ #[31, 31] 31 #[x122.2, v145]) w146 fun v147 w148 =>
        pO (ncO x0) fun v149 =>
        pO (faO 0 v149) fun v150 =>
        pO (ixaO 101 4 v150 v132) fun v151 =>
        pO (faO 2 v151) fun v152 =>
        l1 v152 w148 fun v153 =>
        sv PR (Builtin.append_ #[31, 31] 31 #[v136, v153]) w148 fun v154 w155 =>
        K123 (v154, v147) w155)) (
      Ret PR 25 #[x122.2] w49 fun v157 w158 =>
      R x122.2 w158))
def a27 : Ann := (.two .nil (.two .nil (.two .nil (.two .nil (.two (.loop [17, 18, 19, 20, 21, 22, 23, 24, 25, 8, 26, 27, 28, 29, 30, 7, 31, 32, 33, 34, 35, 36, 37, 38, 39, 6, 40, 41, 42, 43, 44, 45, 46, 47, 48] [7, 6] (.two (.two .nil (.two .nil .nil)) (.two .nil (.two .nil (.two (.two .nil (.two .nil .nil)) (.two .nil (.two .nil .nil))))))) (.two .nil (.two .nil .nil)))))))
theorem f27_ret {x0 x1 : Value} {w0 : World} {R : Kv} (h : f27 x0 x1 w0 R) : Ret PR 27 #[x0, x1] w0 R :=
  ret_of_vc (fn := Try.f27) (c := body Try.f27) (x := a27) (args := [x0, x1]) follows Try.func27 (body_eq (by kernel_rfl)) (by kernel_rfl) (Nat.le_of_ble_eq_true (by kernel_rfl))
    (Eq.mp (show f27 x0 x1 w0 R = vcF PR Try.f27.results.toList (body Try.f27) a27 [x0, x1] w0 R by kernel_rfl) h)

/-- slices.BinarySearch[[]int64,int64] -/
def f28 (x0 x1 : Value) (w0 : World) (R : Kv) : Prop :=
  pO (lenO x0) fun v2 =>
  loopV (X := Value × Value) ((.int .i64 0), v2) w0 (fun K498 x497 w26 => ∀ _ : Env,
    pO (arithO .lss x497.1 x497.2) fun v501 =>
    cnd v501 (
      pO (arithO .add x497.1 x497.2) fun v503 =>
      pO (cviO .u64 v503) fun v504 =>
      pO (arithO .shr v504 (.int .u64 1)) fun v505 =>
      pO (cviO .i64 v505) fun v506 =>
      pO (ixsO 1 x0 v506) fun v508 =>
      l1 v508 w26 fun v509 =>
      Ret PR 37 #[v509, x1] w26 fun v510 w511 =>
      cnd v510 (
        pO (arithO .add v506 (.int .i64 1)) fun v512 =>
        K498 (v512, x497.2) w511) (
        K498 (x497.1, v506) w511)) (
      pO (arithO .lss x497.1 v2) fun v514 =>
      gB (X := Value) v514 true undef (fun K730 =>
        pO (ixsO 1 x0 x497.1) fun v731 =>
        l1 v731 w26 fun v732 =>
        pO (cmpO false (eqlO v732 x1)) fun v733 =>
        K730 v733 w26) w26 fun x626 w522 =>
      gB (X := Value) x626 false undef (fun K725 =>
        pO (ixsO 1 x0 x497.1) fun v726 =>
        l1 v726 w522 fun v727 =>
        Ret PR 38 #[v727] w522 fun v728 w729 =>
        K725 v728 w729) w522 fun x679 w633 =>
      gB (X := Value) x679 true undef (fun K722 =>
        Ret PR 38 #[x1] w633 fun v723 w724 =>
        K722 v723 w724) w633 fun x702 w682 =>
      gB (X := Value) x626 false undef (fun K720 =>
        pO (pkO x679 x702 (.bool false)) fun v721 =>
        K720 v721 w682) w682 fun x712 w704 =>
      gB (X := Value) v514 true undef (fun K718 =>
        pO (pkO x626 (.bool true) x712) fun v719 =>
        K718 v719 w704) w704 fun x716 w714 =>
      pO (pkO v514 x716 (.bool false)) fun v717 =>
      R (.tuple #[x497.1, v717]) w714))
def a28 : Ann := (.two .nil (.two .nil (.two .nil (.two (.loop [13, 14, 15, 16, 17, 18, 19, 20, 21, 9, 22, 23, 24, 25, 26, 27, 28, 29, 7, 30, 8] [7, 8] (.two (.two .nil (.two .nil .nil)) (.two .nil (.two .nil (.two .nil .nil))))) (.two .nil .nil)))))
theorem f28_ret {x0 x1 : Value} {w0 : World} {R : Kv} (h : f28 x0 x1 w0 R) : Ret PR 28 #[x0, x1] w0 R :=
  ret_of_vc (fn := Try.f28) (c := body Try.f28) (x := a28) (args := [x0, x1]) follows Try.func28 (body_eq (by kernel_rfl)) (by kernel_rfl) (Nat.le_of_ble_eq_true (by kernel_rfl))
    (Eq.mp (show f28 x0 x1 w0 R = vcF PR Try.f28.results.toList (body Try.f28) a28 [x0, x1] w0 R by kernel_rfl) h)

/-- (*drover/dag.Graph).at -/
def f29 (x0 x1 : Value) (w0 : World) (R : Kv) : Prop :=
  pO (cmpO false (eqpO x0 (.pointer none))) fun v3 =>
  gB (X := Value) v3 false undef (fun K70 =>
    sv PR (Instr.buildSlice 31 1 #[(0, x1)]) w0 fun v71 w72 =>
    Ret PR 23 #[v71] w72 fun v73 w74 =>
    pO (unO .not v73) fun v75 =>
    K70 v75 w74) w0 fun x39 w8 =>
  pO (pkO v3 (.bool true) x39) fun v40 =>
  gB (X := Value) v40 false undef (fun K63 =>
    pO (ncO x0) fun v64 =>
    pO (faO 0 v64) fun v65 =>
    pO (ixaO 101 4 v65 x1) fun v66 =>
    pO (faO 0 v66) fun v67 =>
    l1 v67 w8 fun v68 =>
    pO (cmpO false (eqlO v68 (.int .i64 0))) fun v69 =>
    K63 v69 w8) w8 fun x56 w49 =>
  pO (pkO v40 (.bool true) x56) fun v57 =>
  cnd v57 (
    R (.pointer none) w49) (
    pO (ncO x0) fun v60 =>
    pO (faO 0 v60) fun v61 =>
    pO (ixaO 101 4 v61 x1) fun v62 =>
    R v62 w49)
def a29 : Ann := (.two .nil (.two (.two .nil (.two (.two .nil .nil) .nil)) (.two .nil .nil)))
theorem f29_ret {x0 x1 : Value} {w0 : World} {R : Kv} (h : f29 x0 x1 w0 R) : Ret PR 29 #[x0, x1] w0 R :=
  ret_of_vc (fn := Try.f29) (c := body Try.f29) (x := a29) (args := [x0, x1]) follows Try.func29 (body_eq (by kernel_rfl)) (by kernel_rfl) (Nat.le_of_ble_eq_true (by kernel_rfl))
    (Eq.mp (show f29 x0 x1 w0 R = vcF PR Try.f29.results.toList (body Try.f29) a29 [x0, x1] w0 R by kernel_rfl) h)

/-- (*drover/droverref12.Graph).Done -/
def f30 (x0 x1 : Value) (w0 : World) (R : Kv) : Prop :=
  Ret PR 32 #[x0, x1] w0 fun v2 w3 =>
  pO (arithO .lss v2 (.int .i64 0)) fun v6 =>
  cnd v6 (
    R (.tuple #[(.slice none 0 0), (.int .i64 3)]) w3) (
    Ret PR 19 #[x0, x1] w3 fun v10 w11 =>
    pO (unO .not v10) fun v12 =>
    cnd v12 (
      R (.tuple #[(.slice none 0 0), (.int .i64 10)]) w11) (
      loopV (X := Value × Value) ((.slice none 0 0), (.int .i64 0)) w11 (fun K320 x319 w78 => ∀ _ : Env,
        pO (ncO x0) fun v323 =>
        pO (faO 0 v323) fun v324 =>
        l1 v324 w78 fun v325 =>
        pO (lenO v325) fun v326 =>
        pO (arithO .lss x319.2 v326) fun v327 =>
        cnd v327 (
          pO (ncO x0) fun v330 =>
          pO (faO 0 v330) fun v331 =>
          l1 v331 w78 fun v332 =>
          pO (ixsO 3 v332 x319.2) fun v333 =>
          pO (faO 0 v333) fun v334 =>
          l1 v334 w78 fun v335 =>
          Ret PR 19 #[x0, v335] w78 fun v336 w337 =>
          pO (ncO x0) fun v339 =>
          pO (faO 0 v339) fun v340 =>
          l1 v340 w337 fun v341 =>
          pO (ixsO 3 v341 v2) fun v342 =>
          pO (faO 2 v342) fun v343 =>
          stW 1 v343 (.int .i64 2) w337 fun w344 =>
          join (X := Value) (fun x379 w371 => ∀ _ : Env,
            pO (ncO x0) fun v380 =>
            pO (faO 0 v380) fun v381 =>
            l1 v381 w371 fun v382 =>
            pO (ixsO 3 v382 v2) fun v383 =>
            pO (faO 2 v383) fun v384 =>
            stW 1 v384 (.int .i64 1) w371 fun w385 =>
            pO (arithO .add x319.2 (.int .i64 1)) fun v386 =>
            K320 (x379, v386) w385)
          (fun K387 =>
            pO (unO .not v336) fun v389 =>
            gB (X := Value) v389 true undef (fun K424 =>
              pO (ncO x0) fun v425 =>
              pO (faO 0 v425) fun v426 =>
              l1 v426 w344 fun v427 =>
              pO (ixsO 3 v427 x319.2) fun v428 =>
              pO (faO 0 v428) fun v429 =>
              l1 v429 w344 fun v430 =>
              Ret PR 19 #[x0, v430] w344 fun v431 w432 =>
              K424 v431 w432) w344 fun x412 w400 =>
            pO (pkO v389 x412 (.bool false)) fun v413 =>
            cnd v413 (
              pO (ncO x0) fun v414 =>
              pO (faO 0 v414) fun v415 =>
              l1 v415 w400 fun v416 =>
              pO (ixsO 3 v416 x319.2) fun v417 =>
              pO (faO 0 v417) fun v418 =>
              l1 v418 w400 fun v419 =>
              sv PR (Instr.buildSlice 31 1 #[(0, v419)]) w400 fun v420 w421 =>
              sv PR (Builtin.append_ #[31, 31] 31 #[x319.1, v420]) w421 fun v422 w423 =>
              K387 v422 w423) (
              K387 x319.1 w400))) (
          pO (ncO x0) fun v434 =>
          pO (faO 0 v434) fun v435 =>
          l1 v435 w78 fun v436 =>
          pO (ixsO 3 v436 v2) fun v437 =>
          pO (faO 2 v437) fun v438 =>
          stW 1 v438 (.int .i64 2) w78 fun w439 =>
          R (.tuple #[x319.1, (.int .i64 0)]) w439))))
def a30 : Ann := (.two .nil (.two .nil (.two (.two .nil (.two (.two .nil .nil) .nil)) (.two (.two .nil (.two (.two .nil .nil) .nil)) (.two .nil (.two (.two .nil (.loop [19, 20, 21, 22, 23, 24, 25, 28, 29, 30, 31, 32, 33, 34, 35, 36, 37, 9, 38, 39, 40, 41, 42, 43, 44, 45, 46, 47, 48, 49, 50, 51, 52, 53, 54, 55, 56, 57, 58, 59, 60, 61, 62, 63, 64, 65, 66, 67, 68, 69, 7, 70, 71, 72, 73, 74, 75, 76, 26, 27, 8] [7, 8] (.two (.two .nil (.two .nil .nil)) (.two (.two .nil (.two .nil (.join [45, 46, 47, 48, 49, 50, 51, 52, 53, 54, 55, 56, 57, 58, 59, 60, 61, 62, 63, 64, 65, 66, 67, 68, 69, 7] [7] (.two .nil (.two .nil .nil)) .nil))) .nil)))) (.two .nil (.two .nil .nil))))))))
theorem f30_ret {x0 x1 : Value} {w0 : World} {R : Kv} (h : f30 x0 x1 w0 R) : Ret PR 30 #[x0, x1] w0 R :=
  ret_of_vc (fn := Try.f30) (c := body Try.f30) (x := a30) (args := [x0, x1]) follows Try.func30 (body_eq (by kernel_rfl)) (by kernel_rfl) (Nat.le_of_ble_eq_true (by kernel_rfl))
    (Eq.mp (show f30 x0 x1 w0 R = vcF PR Try.f30.results.toList (body Try.f30) a30 [x0, x1] w0 R by kernel_rfl) h)

/-- (*drover/droverref12.Graph).Fail -/
def f31 (x0 x1 : Value) (w0 : World) (R : Kv) : Prop :=
  Ret PR 32 #[x0, x1] w0 fun v2 w3 =>
  pO (arithO .lss v2 (.int .i64 0)) fun v6 =>
  cnd v6 (
    R (.tuple #[(.slice none 0 0), (.int .i64 3)]) w3) (
    pO (ncO x0) fun v10 =>
    pO (faO 0 v10) fun v11 =>
    l1 v11 w3 fun v12 =>
    pO (ixsO 3 v12 v2) fun v13 =>
    pO (faO 2 v13) fun v14 =>
    l1 v14 w3 fun v15 =>
    pO (cmpO true (eqlO v15 (.int .i64 1))) fun v16 =>
    cnd v16 (
      R (.tuple #[(.slice none 0 0), (.int .i64 10)]) w3) (
      loopV (X := Value × Value) ((.slice none 0 0), (.int .i64 0)) w3 (fun K581 x580 w71 => ∀ _ : Env,
        pO (ncO x0) fun v584 =>
        pO (faO 0 v584) fun v585 =>
        l1 v585 w71 fun v586 =>
        pO (lenO v586) fun v587 =>
        pO (arithO .lss x580.2 v587) fun v588 =>
        cnd v588 (
          join (X := Value) (fun x631 w629 => ∀ _ : Env,
            pO (arithO .add x580.2 (.int .i64 1)) fun v632 =>
            K581 (x631, v632) w629)
          (fun K633 =>
            pO (cmpO true (eqlO x580.2 v2)) fun v635 =>
            gB (X := Value) v635 true undef (fun K743 =>
              pO (ncO x0) fun v744 =>
              pO (faO 0 v744) fun v745 =>
              l1 v745 w71 fun v746 =>
              pO (ixsO 3 v746 x580.2) fun v747 =>
              pO (faO 2 v747) fun v748 =>
              l1 v748 w71 fun v749 =>
              pO (cmpO false (eqlO v749 (.int .i64 1))) fun v750 =>
              K743 v750 w71) w71 fun x694 w645 =>
            pO (pkO v635 x694 (.bool false)) fun v695 =>
            gB (X := Value) v695 true undef (fun K732 =>
              pO (ncO x0) fun v733 =>
              pO (faO 0 v733) fun v734 =>
              l1 v734 w645 fun v735 =>
              pO (ixsO 3 v735 x580.2) fun v736 =>
              pO (faO 1 v736) fun v737 =>
              l1 v737 w645 fun v738 =>
              Ret PR 34 #[x0, v738] w645 fun v739 w740 =>
              Ret PR 14 #[v739, x1] w740 fun v741 w742 =>
              K732 v741 w742) w645 fun x720 w708 =>
            pO (pkO v695 x720 (.bool false)) fun v721 =>
            cnd v721 (
              pO (ncO x0) fun v722 =>
              pO (faO 0 v722) fun v723 =>
              l1 v723 w708 fun v724 =>
              pO (ixsO 3 v724 x580.2) fun v725 =>
              pO (faO 0 v725) fun v726 =>
              l1 v726 w708 fun v727 =>
              sv PR (Instr.buildSlice 31 1 #[(0, v727)]) w708 fun v728 w729 =>
              sv PR (Builtin.append_ #[31, 31] 31 #[x580.1, v728]) w729 fun v730 w731 =>
              K633 v730 w731) (
              K633 x580.1 w708))) (
          pO (ncO x0) fun v752 =>
          pO (faO 0 v752) fun v753 =>
          l1 v753 w71 fun v754 =>
          pO (ixsO 3 v754 v2) fun v755 =>
          pO (faO 2 v755) fun v756 =>
          stW 1 v756 (.int .i64 3) w71 fun w757 =>
          loopV (X := Value) (.int .i64 0) w757 (fun K817 x816 w779 => ∀ _ : Env,
            pO (lenO x580.1) fun v820 =>
            pO (arithO .lss x816 v820) fun v821 =>
            cnd v821 (
              ∃ C823 : World → Prop, C823 w779.drew ∧
              pO (ncO x0) fun v824 =>
              pO (faO 0 v824) fun v825 =>
              pO (ixsO 1 x580.1 x816) fun v826 =>
              l1C C823 v825 fun v827 =>
              l1C C823 v826 fun v828 =>
              Ret PR 32 #[x0, v828] w779.drew fun v829 w830 =>
              C823 w830 ∧
              pO (ixsO 3 v827 v829) fun v831 =>
              pO (faO 2 v831) fun v832 =>
              stW 1 v832 (.int .i64 3) w830 fun w833 =>
              pO (arithO .add x816 (.int .i64 1)) fun v834 =>
              K817 v834 w833) (
              R (.tuple #[x580.1, (.int .i64 0)]) w779))))))
def a31 : Ann := (.two .nil (.two .nil (.two (.two .nil (.two (.two .nil .nil) .nil)) (.two (.two .nil (.two (.two .nil .nil) .nil)) (.two .nil (.two (.two .nil (.loop [24, 25, 26, 27, 28, 29, 30, 33, 34, 35, 36, 37, 38, 39, 40, 41, 42, 43, 44, 45, 46, 47, 48, 49, 50, 51, 52, 53, 54, 55, 56, 57, 58, 59, 60, 61, 62, 63, 64, 65, 66, 67, 68, 69, 70, 71, 7, 31, 32, 8] [7, 8] (.two (.two .nil (.two .nil .nil)) (.join [33, 34, 35, 36, 37, 38, 39, 40, 41, 42, 43, 44, 45, 46, 47, 48, 49, 50, 51, 52, 53, 54, 55, 56, 57, 58, 59, 60, 61, 62, 63, 64, 65, 66, 67, 68, 69, 70, 71, 7] [7] (.two .nil (.two .nil .nil)) .nil)))) (.two .nil (.two (.two .nil (.loop [79, 80, 81, 82, 85, 86, 87, 88, 89, 90, 91, 92, 93, 94, 95, 96, 83, 84, 9] [9] (.two (.two .nil (.two .nil .nil)) (.two (.planB [(0, .pure), (1, .pure), (2, .pure), (4, .pure), (5, .pure), (6, .pure), (7, .pure), (3, .load), (8, .load), (9, .hardF), (10, .pure), (11, .pure), (12, .hard)]) .nil)))) (.two .nil .nil)))))))))
theorem f31_ret {x0 x1 : Value} {w0 : World} {R : Kv} (h : f31 x0 x1 w0 R) : Ret PR 31 #[x0, x1] w0 R :=
  ret_of_vc (fn := Try.f31) (c := body Try.f31) (x := a31) (args := [x0, x1]) follows Try.func31 (body_eq (by kernel_rfl)) (by kernel_rfl) (Nat.le_of_ble_eq_true (by kernel_rfl))
    (Eq.mp (show f31 x0 x1 w0 R = vcF PR Try.f31.results.toList (body Try.f31) a31 [x0, x1] w0 R by kernel_rfl) h)

/-- (*drover/droverref12.Graph).find -/
def f32 (x0 x1 : Value) (w0 : World) (R : Kv) : Prop :=
  loopV (X := Value) (.int .i64 0) w0 (fun K65 x64 w25 => ∀ _ : Env,
    pO (ncO x0) fun v68 =>
    pO (faO 0 v68) fun v69 =>
    l1 v69 w25 fun v70 =>
    pO (lenO v70) fun v71 =>
    pO (arithO .lss x64 v71) fun v72 =>
    cnd v72 (
      pO (ncO x0) fun v75 =>
      pO (faO 0 v75) fun v76 =>
      l1 v76 w25 fun v77 =>
      pO (ixsO 3 v77 x64) fun v78 =>
      pO (faO 0 v78) fun v79 =>
      l1 v79 w25 fun v80 =>
      pO (cmpO false (eqlO v80 x1)) fun v81 =>
      cnd v81 (
        R x64 w25) (
        pO (arithO .add x64 (.int .i64 1)) fun v83 =>
        K65 v83 w25)) (
      R (.int .i64 (-1)) w25))
def a32 : Ann := (.two .nil (.two (.two .nil (.loop [6, 7, 8, 9, 10, 11, 12, 15, 16, 17, 18, 19, 20, 21, 22, 23, 24, 25, 4, 13, 14, 5] [5] (.two (.two .nil (.two .nil .nil)) (.two (.two .nil (.two (.two .nil .nil) .nil)) .nil)))) (.two .nil .nil)))
theorem f32_ret {x0 x1 : Value} {w0 : World} {R : Kv} (h : f32 x0 x1 w0 R) : Ret PR 32 #[x0, x1] w0 R :=
  ret_of_vc (fn := Try.f32) (c := body Try.f32) (x := a32) (args := [x0, x1]) follows Try.func32 (body_eq (by kernel_rfl)) (by kernel_rfl) (Nat.le_of_ble_eq_true (by kernel_rfl))
    (Eq.mp (show f32 x0 x1 w0 R = vcF PR Try.f32.results.toList (body Try.f32) a32 [x0, x1] w0 R by kernel_rfl) h)

/-- drover/droverref12.Put -/
def f33 (x0 x1 : Value) (w0 : World) (R : Kv) : Prop :=
  Ret PR 14 #[x0, x1] w0 fun v3 w4 =>
  cnd v3 (
    R x0 w4) (
    sv PR (Instr.buildSlice 31 1 #[(0, x1)]) w4 fun v7 w8 =>
    sv PR (Builtin.append_ #[31, 31] 31 #[x0, v7]) w8 fun v9 w10 =>
    pO (lenO v9) fun v12 =>
    pO (arithO .sub v12 (.int .i64 1)) fun v13 =>
    loopV (X := Value) v13 w10 (fun K121 x120 w37 => ∀ _ : Env,
      pO (arithO .gtr x120 (.int .i64 0)) fun v124 =>
      gB (X := Value) v124 true undef (fun K158 =>
        pO (arithO .sub x120 (.int .i64 1)) fun v159 =>
        pO (ixsO 1 v9 v159) fun v160 =>
        l1 v160 w37 fun v161 =>
        pO (arithO .gtr v161 x1) fun v162 =>
        K158 v162 w37) w37 fun x145 w132 =>
      pO (pkO v124 x145 (.bool false)) fun v146 =>
      cnd v146 (
        pO (arithO .sub x120 (.int .i64 1)) fun v148 =>
        pO (ixsO 1 v9 v148) fun v149 =>
        l1 v149 w132 fun v150 =>
        pO (ixsO 1 v9 x120) fun v151 =>
        stW 1 v151 v150 w132 fun w152 =>
        pO (arithO .sub x120 (.int .i64 1)) fun v153 =>
        K121 v153 w152) (
        pO (ixsO 1 v9 x120) fun v155 =>
        stW 1 v155 x1 w132 fun w156 =>
        R v9 w156)))
def a33 : Ann := (.two .nil (.two (.two .nil (.two (.two .nil .nil) .nil)) (.two .nil (.two .nil (.two (.loop [17, 18, 19, 20, 21, 22, 23, 24, 25, 26, 27, 28, 29, 30, 31, 32, 33, 34, 35, 36, 37, 5] [5] (.two (.two .nil (.two .nil .nil)) (.two .nil .nil))) (.two .nil (.two .nil .nil)))))))
theorem f33_ret {x0 x1 : Value} {w0 : World} {R : Kv} (h : f33 x0 x1 w0 R) : Ret PR 33 #[x0, x1] w0 R :=
  ret_of_vc (fn := Try.f33) (c := body Try.f33) (x := a33) (args := [x0, x1]) follows Try.func33 (body_eq (by kernel_rfl)) (by kernel_rfl) (Nat.le_of_ble_eq_true (by kernel_rfl))
    (Eq.mp (show f33 x0 x1 w0 R = vcF PR Try.f33.results.toList (body Try.f33) a33 [x0, x1] w0 R by kernel_rfl) h)

/-- (*drover/droverref12.Graph).Above -/
def f34 (x0 x1 : Value) (w0 : World) (R : Kv) : Prop :=
  loopV (X := Value × Value) ((.slice none 0 0), (.int .i64 0)) w0 (fun K3214 x3213 w26 => ∀ _ : Env,
    pO (lenO x1) fun v3217 =>
    pO (arithO .lss x3213.2 v3217) fun v3218 =>
    cnd v3218 (
      join (X := Value) (fun x3236 w3234 => ∀ _ : Env,
        pO (arithO .add x3213.2 (.int .i64 1)) fun v3237 =>
        K3214 (x3236, v3237) w3234)
      (fun K3238 =>
        pO (ixsO 1 x1 x3213.2) fun v3240 =>
        l1 v3240 w26 fun v3241 =>
        Ret PR 14 #[x3213.1, v3241] w26 fun v3242 w3243 =>
        pO (unO .not v3242) fun v3244 =>
        cnd v3244 (
          pO (ixsO 1 x1 x3213.2) fun v3245 =>
          l1 v3245 w3243 fun v3246 =>
          sv PR (Instr.buildSlice 31 1 #[(0, v3246)]) w3243 fun v3247 w3248 =>
          sv PR (Builtin.append_ #[31, 31] 31 #[x3213.1, v3247]) w3248 fun v3249 w3250 =>
          K3238 v3249 w3250) (
          K3238 x3213.1 w3243))) (
      loopV (X := Value × Value) (x3213.1, (.int .i64 0)) w26 (fun K4310 x4309 w3314 => ∀ _ : Env,
        pO (lenO x4309.1) fun v4313 =>
        pO (arithO .lss x4309.2 v4313) fun v4314 =>
        cnd v4314 (
          pO (ixsO 1 x4309.1 x4309.2) fun v4317 =>
          l1 v4317 w3314 fun v4318 =>
          Ret PR 32 #[x0, v4318] w3314 fun v4319 w4320 =>
          loopV (X := Value × Value) (x4309.1, (.int .i64 0)) w4320 (fun K4661 x4660 w4369 => ∀ _ : Env,
            pO (arithO .geq v4319 (.int .i64 0)) fun v4664 =>
            gB (X := Value) v4664 true undef (fun K4798 =>
              pO (ncO x0) fun v4799 =>
              pO (faO 0 v4799) fun v4800 =>
              l1 v4800 w4369 fun v4801 =>
              pO (ixsO 3 v4801 v4319) fun v4802 =>
              pO (faO 1 v4802) fun v4803 =>
              l1 v4803 w4369 fun v4804 =>
              pO (lenO v4804) fun v4805 =>
              pO (arithO .lss x4660.2 v4805) fun v4806 =>
              K4798 v4806 w4369) w4369 fun x4737 w4676 =>
            pO (pkO v4664 x4737 (.bool false)) fun v4738 =>
            cnd v4738 (
              join (X := Value) (fun x4770 w4768 => ∀ _ : Env,
                pO (arithO .add x4660.2 (.int .i64 1)) fun v4771 =>
                K4661 (x4770, v4771) w4768)
              (fun K4772 =>
                pO (ncO x0) fun v4774 =>
                pO (faO 0 v4774) fun v4775 =>
                l1 v4775 w4676 fun v4776 =>
                pO (ixsO 3 v4776 v4319) fun v4777 =>
                pO (faO 1 v4777) fun v4778 =>
                l1 v4778 w4676 fun v4779 =>
                pO (ixsO 1 v4779 x4660.2) fun v4780 =>
                l1 v4780 w4676 fun v4781 =>
                Ret PR 14 #[x4660.1, v4781] w4676 fun v4782 w4783 =>
                pO (unO .not v4782) fun v4784 =>
                cnd v4784 (
                  pO (ncO x0) fun v4785 =>
                  pO (faO 0 v4785) fun v4786 =>
                  l1 v4786 w4783 fun v4787 =>
                  pO (ixsO 3 v4787 v4319) fun v4788 =>
                  pO (faO 1 v4788) fun v4789 =>
                  l1 v4789 w4783 fun v4790 =>
                  pO (ixsO 1 v4790 x4660.2) fun v4791 =>
                  l1 v4791 w4783 fun v4792 =>
                  sv PR (Instr.buildSlice 31 1 #[(0, v4792)]) w4783 fun v4793 w4794 =>
                  sv PR (Builtin.append_ #[31, 31] 31 #[x4660.1, v4793]) w4794 fun v4795 w4796 =>
                  K4772 v4795 w4796) (
                  K4772 x4660.1 w4783))) (
              pO (arithO .add x4309.2 (.int .i64 1)) fun v4797 =>
              K4310 (x4660.1, v4797) w4676))) (
          R x4309.1 w3314))))
def a34 : Ann := (.two .nil (.two .nil (.two (.two .nil (.loop [10, 11, 12, 13, 16, 17, 18, 19, 20, 21, 22, 23, 24, 25, 26, 27, 28, 29, 5, 14, 15, 6] [5, 6] (.two (.two .nil (.two .nil .nil)) (.join [16, 17, 18, 19, 20, 21, 22, 23, 24, 25, 26, 27, 28, 29, 5] [5] (.two .nil (.two .nil .nil)) .nil)))) (.two (.two .nil (.loop [30, 31, 32, 33, 36, 37, 38, 39, 40, 41, 8, 9, 42, 43, 44, 45, 46, 47, 48, 49, 50, 51, 52, 53, 54, 55, 56, 59, 60, 61, 62, 63, 64, 65, 66, 67, 68, 69, 70, 71, 72, 73, 74, 75, 76, 77, 78, 79, 80, 81, 82, 83, 84, 85, 86, 5, 57, 58, 34, 35, 7] [5, 7] (.two (.two .nil (.two .nil .nil)) (.two (.two .nil (.two .nil (.loop [42, 43, 44, 45, 46, 47, 48, 49, 50, 51, 52, 53, 54, 55, 56, 59, 60, 61, 62, 63, 64, 65, 66, 67, 68, 69, 70, 71, 72, 73, 74, 75, 76, 77, 78, 79, 80, 81, 82, 83, 84, 85, 86, 5, 57, 58, 9] [5, 9] (.two (.two .nil (.two .nil .nil)) (.join [59, 60, 61, 62, 63, 64, 65, 66, 67, 68, 69, 70, 71, 72, 73, 74, 75, 76, 77, 78, 79, 80, 81, 82, 83, 84, 85, 86, 5] [5] (.two .nil (.two .nil .nil)) .nil))))) .nil)))) (.two .nil .nil)))))
theorem f34_ret {x0 x1 : Value} {w0 : World} {R : Kv} (h : f34 x0 x1 w0 R) : Ret PR 34 #[x0, x1] w0 R :=
  ret_of_vc (fn := Try.f34) (c := body Try.f34) (x := a34) (args := [x0, x1]) follows Try.func34 (body_eq (by kernel_rfl)) (by kernel_rfl) (Nat.le_of_ble_eq_true (by kernel_rfl))
    (Eq.mp (show f34 x0 x1 w0 R = vcF PR Try.f34.results.toList (body Try.f34) a34 [x0, x1] w0 R by kernel_rfl) h)

/-- slices.pdqsortOrdered[int64] -/
def f35 (x0 x1 x2 x3 : Value) (w0 : World) (R : Kv) : Prop :=
  loopV (X := Value × Value × Value × Value × Value) (x3, x1, (.bool true), (.bool true), x2) w0 (fun K1905 x1904 w131 => ∀ _ : Env,
    pO (arithO .sub x1904.2.2.2.2 x1904.2.1) fun v1907 =>
    pO (arithO .leq v1907 (.int .i64 12)) fun v1910 =>
    cnd v1910 (
      Ret PR 39 #[x0, x1904.2.1, x1904.2.2.2.2] w131 fun v1912 w1913 =>
      R (.tuple #[]) w1913) (
      pO (cmpO false (eqlO x1904.1 (.int .i64 0))) fun v1916 =>
      cnd v1916 (
        Ret PR 40 #[x0, x1904.2.1, x1904.2.2.2.2] w131 fun v1918 w1919 =>
        R (.tuple #[]) w1919) (
        join (X := Value) (fun x2357 w1929 => ∀ _ : Env,
          Ret PR 42 #[x0, x1904.2.1, x1904.2.2.2.2] w1929 fun v2359 w2360 =>
          pO (exO v2359 0) fun v2361 =>
          pO (exO v2359 1) fun v2362 =>
          join (X := Value × Value) (fun x2576 w2377 => ∀ _ : Env,
            join (X := Unit) (fun x2664 w2589 => ∀ _ : Env,
              pO (arithO .gtr x1904.2.1 (.int .i64 0)) fun v2667 =>
              gd v2667 true (fun K2668 =>
                K2668 x0 w2589.drew) w2589.drew fun v2669 w2670 =>
              gd v2667 true (fun K2671 =>
                K2671 x1904.2.1 w2670) w2670 fun v2672 w2673 =>
              gd v2667 true (fun K2674 =>
                pO (arithO .sub v2672 (.int .i64 1)) fun v2675 =>
                K2674 v2675 w2673) w2673 fun v2676 w2677 =>
              gd v2667 true (fun K2678 =>
                pO (ixsO 1 v2669 v2676) fun v2679 =>
                K2678 v2679 w2677) w2677 fun v2680 w2681 =>
              gd v2667 true (fun K2682 =>
                K2682 x0 w2681) w2681 fun v2683 w2684 =>
              gd v2667 true (fun K2685 =>
                K2685 x2576.1 w2684) w2684 fun v2686 w2687 =>
              gd v2667 true (fun K2688 =>
                pO (ixsO 1 v2683 v2686) fun v2689 =>
                K2688 v2689 w2687) w2687 fun v2690 w2691 =>
              gd v2667 true (fun K2692 =>
                l1 v2680 w2691 fun v2693 =>
                K2692 v2693 w2691) w2691 fun v2694 w2695 =>
              gd v2667 true (fun K2696 =>
                l1 v2690 w2695 fun v2697 =>
                K2696 v2697 w2695) w2695 fun v2698 w2699 =>
              gd v2667 true (fun K2700 =>
                Ret PR 37 #[v2694, v2698] w2699 fun v2701 w2702 =>
                K2700 v2701 w2702) w2699 fun v2703 w2704 =>
              gd v2667 true (fun K2705 =>
                pO (unO .not v2703) fun v2706 =>
                K2705 v2706 w2704) w2704 fun v2707 w2708 =>
              pO (pkO v2667 v2707 (.bool false)) fun v2709 =>
              cnd v2709 (
                Ret PR 45 #[x0, x1904.2.1, x1904.2.2.2.2, x2576.1] w2708 fun v2711 w2712 =>
                K1905 (x2357, v2711, x1904.2.2.1, x1904.2.2.2.1, x1904.2.2.2.2) w2712) (
                Ret PR 46 #[x0, x1904.2.1, x1904.2.2.2.2, x2576.1] w2708 fun v2715 w2716 =>
                pO (exO v2715 0) fun v2717 =>
                pO (exO v2715 1) fun v2718 =>
                pO (arithO .sub v2717 x1904.2.1) fun v2721 =>
                pO (arithO .sub x1904.2.2.2.2 v2717) fun v2722 =>
                pO (arithO .quo v1907 (.int .i64 8)) fun v2724 =>
                pO (arithO .lss v2721 v2722) fun v2726 =>
                cnd v2726 (
                  pO (arithO .geq v2721 v2724) fun v2728 =>
                  Ret PR 35 #[x0, x1904.2.1, v2717, x2357] w2716 fun v2730 w2731 =>
                  pO (arithO .add v2717 (.int .i64 1)) fun v2732 =>
                  K1905 (x2357, v2732, v2718, v2728, x1904.2.2.2.2) w2731) (
                  pO (arithO .geq v2722 v2724) fun v2734 =>
                  pO (arithO .add v2717 (.int .i64 1)) fun v2736 =>
                  Ret PR 35 #[x0, v2736, x1904.2.2.2.2, x2357] w2716 fun v2737 w2738 =>
                  K1905 (x2357, x1904.2.1, v2718, v2734, v2717) w2738)))
            (fun K2739 =>
              gB (X := Value) x1904.2.2.2.1 true undef (fun K2774 =>
                K2774 x1904.2.2.1 w2377) w2377 fun x2758 w2742 =>
              pO (pkO x1904.2.2.2.1 x2758 (.bool false)) fun v2759 =>
              gB (X := Value) v2759 true undef (fun K2772 =>
                pO (cmpO false (eqlO x2576.2 (.int .i64 1))) fun v2773 =>
                K2772 v2773 w2742) w2742 fun x2767 w2762 =>
              pO (pkO v2759 x2767 (.bool false)) fun v2768 =>
              cnd v2768 (
                Ret PR 44 #[x0, x1904.2.1, x1904.2.2.2.2] w2762 fun v2770 w2771 =>
                cnd v2770 (
                  R (.tuple #[]) w2771) (
                  K2739 () w2771)) (
                K2739 () w2762)))
          (fun K2775 =>
            pO (cmpO false (eqlO v2362 (.int .i64 2))) fun v2777 =>
            cnd v2777 (
              Ret PR 43 #[x0, x1904.2.1, x1904.2.2.2.2] w2360 fun v2779 w2780 =>
              pO (arithO .sub x1904.2.2.2.2 (.int .i64 1)) fun v2782 =>
              pO (arithO .sub v2361 x1904.2.1) fun v2783 =>
              pO (arithO .sub v2782 v2783) fun v2784 =>
              K2775 (v2784, (.int .i64 1)) w2780) (
              K2775 (v2361, v2362) w2360)))
        (fun K2785 =>
          pO (unO .not x1904.2.2.2.1) fun v2787 =>
          cnd v2787 (
            Ret PR 41 #[x0, x1904.2.1, x1904.2.2.2.2] w131 fun v2789 w2790 =>
            pO (arithO .sub x1904.1 (.int .i64 1)) fun v2791 =>
            K2785 v2791 w2790) (
            K2785 x1904.1 w131)))))
def a35 : Ann := (.two .nil (.two .nil (.loop [19, 20, 21, 10, 22, 23, 24, 25, 26, 27, 28, 29, 30, 31, 32, 33, 34, 35, 36, 37, 38, 39, 40, 41, 3, 43, 44, 45, 46, 42, 47, 48, 11, 12, 49, 50, 51, 52, 53, 54, 55, 56, 57, 58, 59, 60, 61, 62, 63, 64, 65, 66, 67, 68, 69, 70, 71, 72, 73, 74, 75, 76, 77, 78, 79, 80, 81, 82, 83, 84, 85, 86, 87, 88, 89, 90, 91, 92, 13, 93, 1, 95, 96, 97, 98, 99, 94, 100, 101, 14, 15, 102, 9, 103, 104, 105, 106, 107, 108, 16, 17, 109, 110, 18, 111, 112, 113, 114, 115, 116, 8, 117, 118, 119, 120, 121, 122, 123, 124, 125, 126, 127, 128, 129, 130, 131, 132, 133, 2] [3, 1, 9, 8, 2] (.two .nil (.two (.two .nil (.two (.two .nil .nil) .nil)) (.two (.two .nil (.two (.two .nil .nil) .nil)) (.join [34, 35, 36, 37, 38, 39, 40, 41, 3] [3] (.two .nil (.two (.two .nil .nil) .nil)) (.two .nil (.join [49, 50, 51, 52, 53, 54, 55, 56, 57, 58, 59, 60, 11, 12] [11, 12] (.two .nil (.two (.two .nil (.two .nil .nil)) .nil)) (.join [61, 62, 63, 64, 65, 66, 67, 68, 69, 70, 71, 72] [] (.two .nil (.two (.two .nil (.two .nil .nil)) .nil)) (.two (.two (.planA [(0, .pure), (1, .pure), (2, .pure), (3, .pure), (4, .pure), (5, .pure), (6, .pure), (8, .pure), (9, .pure), (10, .pure), (7, .load), (11, .load), (12, .hard), (13, .pure), (14, .pure)]) (.two (.two .nil (.two .nil .nil)) .nil)) (.two .nil (.two .nil (.two .nil (.two .nil (.two .nil (.two (.two .nil (.two .nil .nil)) (.two .nil (.two .nil .nil)))))))))))))))))))
theorem f35_ret {x0 x1 x2 x3 : Value} {w0 : World} {R : Kv} (h : f35 x0 x1 x2 x3 w0 R) : Ret PR 35 #[x0, x1, x2, x3] w0 R :=
  ret_of_vc (fn := Try.f35) (c := body Try.f35) (x := a35) (args := [x0, x1, x2, x3]) follows Try.func35 (body_eq (by kernel_rfl)) (by kernel_rfl) (Nat.le_of_ble_eq_true (by kernel_rfl))
    (Eq.mp (show f35 x0 x1 x2 x3 w0 R = vcF PR Try.f35.results.toList (body Try.f35) a35 [x0, x1, x2, x3] w0 R by kernel_rfl) h)

/-- math/bits.Len -/
def f36 (x0 : Value) (w0 : World) (R : Kv) : Prop :=
  cnd (.bool false) (
    pO (cviO .u32 x0) fun v3 =>
    Ret PR 47 #[v3] w0 fun v4 w5 =>
    R v4 w5) (
    Ret PR 48 #[x0] w0 fun v7 w8 =>
    R v7 w8)
def a36 : Ann := (.two .nil (.two (.two (.two .nil .nil) .nil) (.two .nil .nil)))
theorem f36_ret {x0 : Value} {w0 : World} {R : Kv} (h : f36 x0 w0 R) : Ret PR 36 #[x0] w0 R :=
  ret_of_vc (fn := Try.f36) (c := body Try.f36) (x := a36) (args := [x0]) follows Try.func36 (body_eq (by kernel_rfl)) (by kernel_rfl) (Nat.le_of_ble_eq_true (by kernel_rfl))
    (Eq.mp (show f36 x0 w0 R = vcF PR Try.f36.results.toList (body Try.f36) a36 [x0] w0 R by kernel_rfl) h)

/-- cmp.Less[int64] -/
def f37 (x0 x1 : Value) (w0 : World) (R : Kv) : Prop :=
  Ret PR 49 #[x0] w0 fun v2 w3 =>
  gB (X := Value) v2 true undef (fun K29 =>
    Ret PR 49 #[x1] w3 fun v30 w31 =>
    pO (unO .not v30) fun v32 =>
    K29 v32 w31) w3 fun x18 w7 =>
  pO (pkO v2 x18 (.bool false)) fun v19 =>
  gB (X := Value) v19 false undef (fun K27 =>
    pO (arithO .lss x0 x1) fun v28 =>
    K27 v28 w7) w7 fun x25 w23 =>
  pO (pkO v19 (.bool true) x25) fun v26 =>
  R v26 w23
def a37 : Ann := (.two .nil (.two .nil .nil))
theorem f37_ret {x0 x1 : Value} {w0 : World} {R : Kv} (h : f37 x0 x1 w0 R) : Ret PR 37 #[x0, x1] w0 R :=
  ret_of_vc (fn := Try.f37) (c := body Try.f37) (x := a37) (args := [x0, x1]) follows Try.func37 (body_eq (by kernel_rfl)) (by kernel_rfl) (Nat.le_of_ble_eq_true (by kernel_rfl))
    (Eq.mp (show f37 x0 x1 w0 R = vcF PR Try.f37.results.toList (body Try.f37) a37 [x0, x1] w0 R by kernel_rfl) h)

/-- slices.isNaN[int64] -/
def f38 (x0 : Value) (w0 : World) (R : Kv) : Prop :=
  pO (cmpO true (eqlO x0 x0)) fun v2 =>
  R v2 w0
def a38 : Ann := (.two .nil (.two .nil .nil))
theorem f38_ret {x0 : Value} {w0 : World} {R : Kv} (h : f38 x0 w0 R) : Ret PR 38 #[x0] w0 R :=
  ret_of_vc (fn := Try.f38) (c := body Try.f38) (x := a38) (args := [x0]) follows Try.func38 (body_eq (by kernel_rfl)) (by kernel_rfl) (Nat.le_of_ble_eq_true (by kernel_rfl))
    (Eq.mp (show f38 x0 w0 R = vcF PR Try.f38.results.toList (body Try.f38) a38 [x0] w0 R by kernel_rfl) h)

/-- slices.insertionSortOrdered[int64] -/
def f39 (x0 x1 x2 : Value) (w0 : World) (R : Kv) : Prop :=
  pO (arithO .add x1 (.int .i64 1)) fun v1 =>
  loopV (X := Value) v1 w0 (fun K453 x452 w43 => ∀ _ : Env,
    pO (arithO .lss x452 x2) fun v456 =>
    cnd v456 (
      loopV (X := Value) x452 w43 (fun K603 x602 w493 => ∀ _ : Env,
        pO (arithO .gtr x602 x1) fun v606 =>
        gd v606 true (fun K607 =>
          K607 x0 w493.drew) w493.drew fun v608 w609 =>
        gd v606 true (fun K610 =>
          K610 x602 w609) w609 fun v611 w612 =>
        gd v606 true (fun K613 =>
          pO (ixsO 1 v608 v611) fun v614 =>
          K613 v614 w612) w612 fun v615 w616 =>
        gd v606 true (fun K617 =>
          K617 x0 w616) w616 fun v618 w619 =>
        gd v606 true (fun K620 =>
          K620 x602 w619) w619 fun v621 w622 =>
        gd v606 true (fun K623 =>
          pO (arithO .sub v621 (.int .i64 1)) fun v624 =>
          K623 v624 w622) w622 fun v625 w626 =>
        gd v606 true (fun K627 =>
          pO (ixsO 1 v618 v625) fun v628 =>
          K627 v628 w626) w626 fun v629 w630 =>
        gd v606 true (fun K631 =>
          l1 v615 w630 fun v632 =>
          K631 v632 w630) w630 fun v633 w634 =>
        gd v606 true (fun K635 =>
          l1 v629 w634 fun v636 =>
          K635 v636 w634) w634 fun v637 w638 =>
        gd v606 true (fun K639 =>
          Ret PR 37 #[v633, v637] w638 fun v640 w641 =>
          K639 v640 w641) w638 fun v642 w643 =>
        pO (pkO v606 v642 (.bool false)) fun v644 =>
        cnd v644 (
          pO (arithO .sub x602 (.int .i64 1)) fun v646 =>
          pO (arithO .sub x602 (.int .i64 1)) fun v647 =>
          pO (ixsO 1 x0 v647) fun v648 =>
          pO (ixsO 1 x0 x602) fun v649 =>
          l1 v648 w643.drew fun v650 =>
          l1 v649 w643.drew fun v651 =>
          pO (ixsO 1 x0 x602) fun v652 =>
          stW 1 v652 v650 w643.drew fun w653 =>
          pO (ixsO 1 x0 v646) fun v654 =>
          stW 1 v654 v651 w653 fun w655 =>
          pO (arithO .sub x602 (.int .i64 1)) fun v656 =>
          K603 v656 w655) (
          pO (arithO .add x452 (.int .i64 1)) fun v657 =>
          K453 v657 w643))) (
      R (.tuple #[]) w43))
def a39 : Ann := (.two .nil (.loop [10, 11, 12, 15, 7, 16, 17, 18, 19, 20, 21, 22, 23, 24, 25, 26, 27, 28, 29, 30, 33, 34, 35, 36, 37, 38, 39, 40, 41, 42, 43, 44, 45, 46, 47, 48, 31, 32, 13, 14, 6] [6] (.two (.two .nil (.two .nil .nil)) (.two (.two .nil (.loop [16, 17, 18, 19, 20, 21, 22, 23, 24, 25, 26, 27, 28, 29, 30, 33, 34, 35, 36, 37, 38, 39, 40, 41, 42, 43, 44, 45, 46, 47, 48, 31, 32, 7] [7] (.two (.two (.planA [(0, .pure), (1, .pure), (2, .pure), (3, .pure), (4, .pure), (5, .pure), (6, .pure), (8, .pure), (9, .pure), (10, .pure), (11, .pure), (7, .load), (12, .load), (13, .hard), (14, .pure)]) (.two .nil .nil)) (.two (.planA [(0, .pure), (1, .pure), (2, .pure), (3, .pure), (4, .pure), (5, .pure), (6, .pure), (7, .pure), (8, .pure), (10, .pure), (11, .pure), (12, .pure), (9, .load), (13, .load), (14, .pure), (15, .hard), (16, .pure), (17, .hard)]) .nil)))) .nil))))
theorem f39_ret {x0 x1 x2 : Value} {w0 : World} {R : Kv} (h : f39 x0 x1 x2 w0 R) : Ret PR 39 #[x0, x1, x2] w0 R :=
  ret_of_vc (fn := Try.f39) (c := body Try.f39) (x := a39) (args := [x0, x1, x2]) follows Try.func39 (body_eq (by kernel_rfl)) (by kernel_rfl) (Nat.le_of_ble_eq_true (by kernel_rfl))
    (Eq.mp (show f39 x0 x1 x2 w0 R = vcF PR Try.f39.results.toList (body Try.f39) a39 [x0, x1, x2] w0 R by kernel_rfl) h)

/-- slices.heapSortOrdered[int64] -/
def f40 (x0 x1 x2 : Value) (w0 : World) (R : Kv) : Prop :=
  pO (arithO .sub x2 x1) fun v3 =>
  pO (arithO .sub v3 (.int .i64 1)) fun v6 =>
  pO (arithO .quo v6 (.int .i64 2)) fun v7 =>
  loopV (X := Value) v7 w0 (fun K208 x207 w18 => ∀ _ : Env,
    pO (arithO .geq x207 (.int .i64 0)) fun v211 =>
    cnd v211 (
      Ret PR 50 #[x0, x207, v3, x1] w18 fun v213 w214 =>
      pO (arithO .sub x207 (.int .i64 1)) fun v215 =>
      K208 v215 w214) (
      pO (arithO .sub v3 (.int .i64 1)) fun v217 =>
      loopV (X := Value) v217 w18 (fun K284 x283 w246 => ∀ _ : Env,
        pO (arithO .geq x283 (.int .i64 0)) fun v287 =>
        cnd v287 (
          pO (arithO .add x1 x283) fun v290 =>
          pO (arithO .add x1 x283) fun v291 =>
          pO (ixsO 1 x0 v291) fun v292 =>
          pO (ixsO 1 x0 x1) fun v293 =>
          l1 v292 w246.drew fun v294 =>
          l1 v293 w246.drew fun v295 =>
          pO (ixsO 1 x0 x1) fun v296 =>
          stW 1 v296 v294 w246.drew fun w297 =>
          pO (ixsO 1 x0 v290) fun v298 =>
          stW 1 v298 v295 w297 fun w299 =>
          Ret PR 50 #[x0, (.int .i64 0), x283, x1] w299 fun v300 w301 =>
          pO (arithO .sub x283 (.int .i64 1)) fun v302 =>
          K284 v302 w301) (
          R (.tuple #[]) w246))))
def a40 : Ann := (.two .nil (.two .nil (.two .nil (.two (.two .nil (.loop [18, 19, 22, 23, 24, 25, 26, 20, 21, 9] [9] (.two (.two .nil (.two .nil .nil)) (.two .nil .nil)))) (.two .nil (.loop [29, 30, 33, 34, 35, 36, 37, 38, 39, 40, 41, 42, 43, 44, 45, 46, 47, 48, 49, 50, 51, 52, 53, 54, 55, 31, 32, 10] [10] (.two (.two .nil (.two .nil .nil)) (.two (.two (.planA [(0, .pure), (1, .pure), (2, .pure), (3, .pure), (4, .pure), (5, .pure), (6, .pure), (7, .pure), (8, .pure), (9, .pure), (10, .pure), (12, .pure), (13, .pure), (14, .pure), (11, .load), (15, .load), (16, .pure), (17, .hard), (18, .pure), (19, .hard)]) .nil) .nil))))))))
theorem f40_ret {x0 x1 x2 : Value} {w0 : World} {R : Kv} (h : f40 x0 x1 x2 w0 R) : Ret PR 40 #[x0, x1, x2] w0 R :=
  ret_of_vc (fn := Try.f40) (c := body Try.f40) (x := a40) (args := [x0, x1, x2]) follows Try.func40 (body_eq (by kernel_rfl)) (by kernel_rfl) (Nat.le_of_ble_eq_true (by kernel_rfl))
    (Eq.mp (show f40 x0 x1 x2 w0 R = vcF PR Try.f40.results.toList (body Try.f40) a40 [x0, x1, x2] w0 R by kernel_rfl) h)

/-- slices.breakPatternsOrdered[int64] -/
def f41 (x0 x1 x2 : Value) (w0 : World) (R : Kv) : Prop :=
  pO (arithO .sub x2 x1) fun v1 =>
  pO (arithO .geq v1 (.int .i64 8)) fun v3 =>
  cnd v3 (
    pO (cviO .u64 v1) fun v5 =>
    sv PR (Instr.alloc 83 true (.tuple #[])) w0 fun v6 w7 =>
    stW 1 v6 v5 w7 fun w8 =>
    Ret PR 51 #[v1] w8 fun v10 w11 =>
    pO (arithO .quo v1 (.int .i64 4)) fun v13 =>
    pO (arithO .mul v13 (.int .i64 2)) fun v14 =>
    pO (arithO .add x1 v14) fun v15 =>
    pO (arithO .sub v15 (.int .i64 1)) fun v16 =>
    loopV (X := Value) v16 w11 (fun K158 x157 w58 => ∀ _ : Env,
      pO (arithO .quo v1 (.int .i64 4)) fun v161 =>
      pO (arithO .mul v161 (.int .i64 2)) fun v162 =>
      pO (arithO .add x1 v162) fun v163 =>
      pO (arithO .add v163 (.int .i64 1)) fun v164 =>
      pO (arithO .leq x157 v164) fun v165 =>
      cnd v165 (
        Ret PR 52 #[v6] w58 fun v168 w169 =>
        pO (arithO .sub v10 (.int .u64 1)) fun v170 =>
        pO (arithO .and v168 v170) fun v171 =>
        pO (cviO .i64 v171) fun v172 =>
        join (X := Value) (fun x192 w180 => ∀ _ : Env,
          pO (arithO .add x1 x192) fun v193 =>
          pO (arithO .add x1 x192) fun v194 =>
          pO (ixsO 1 x0 v194) fun v195 =>
          pO (ixsO 1 x0 x157) fun v196 =>
          l1 v195 w180.drew fun v197 =>
          l1 v196 w180.drew fun v198 =>
          pO (ixsO 1 x0 x157) fun v199 =>
          stW 1 v199 v197 w180.drew fun w200 =>
          pO (ixsO 1 x0 v193) fun v201 =>
          stW 1 v201 v198 w200 fun w202 =>
          pO (arithO .add x157 (.int .i64 1)) fun v203 =>
          K158 v203 w202)
        (fun K204 =>
          pO (arithO .geq v172 v1) fun v206 =>
          cnd v206 (
            pO (arithO .sub v172 v1) fun v207 =>
            K204 v207 w169) (
            K204 v172 w169))) (
        R (.tuple #[]) w58))) (
    R (.tuple #[]) w0)
def a41 : Ann := (.two .nil (.two .nil (.two (.two .nil (.two .nil (.two .nil (.loop [26, 27, 28, 29, 30, 31, 32, 33, 36, 37, 38, 39, 40, 10, 41, 42, 43, 44, 45, 46, 47, 48, 49, 50, 51, 52, 53, 54, 55, 56, 57, 58, 59, 60, 61, 62, 63, 64, 34, 35, 9] [9] (.two (.two .nil (.two .nil .nil)) (.two (.two .nil (.join [41, 42, 43, 44, 45, 46, 10] [10] (.two .nil (.two .nil .nil)) (.planA [(0, .pure), (1, .pure), (2, .pure), (3, .pure), (4, .pure), (5, .pure), (6, .pure), (7, .pure), (8, .pure), (9, .pure), (10, .pure), (12, .pure), (13, .pure), (14, .pure), (11, .load), (15, .load), (16, .pure), (17, .hard), (18, .pure), (19, .hard)]))) .nil)))))) .nil)))
theorem f41_ret {x0 x1 x2 : Value} {w0 : World} {R : Kv} (h : f41 x0 x1 x2 w0 R) : Ret PR 41 #[x0, x1, x2] w0 R :=
  ret_of_vc (fn := Try.f41) (c := body Try.f41) (x := a41) (args := [x0, x1, x2]) follows Try.func41 (body_eq (by kernel_rfl)) (by kernel_rfl) (Nat.le_of_ble_eq_true (by kernel_rfl))
    (Eq.mp (show f41 x0 x1 x2 w0 R = vcF PR Try.f41.results.toList (body Try.f41) a41 [x0, x1, x2] w0 R by kernel_rfl) h)

/-- slices.choosePivotOrdered[int64] -/
def f42 (x0 x1 x2 : Value) (w0 : World) (R : Kv) : Prop :=
  pO (arithO .sub x2 x1) fun v2 =>
  sv PR (Instr.alloc 3 true (.tuple #[])) w0 fun v4 w5 =>
  pO (arithO .quo v2 (.int .i64 4)) fun v7 =>
  pO (arithO .mul v7 (.int .i64 1)) fun v8 =>
  pO (arithO .add x1 v8) fun v9 =>
  pO (arithO .quo v2 (.int .i64 4)) fun v11 =>
  pO (arithO .mul v11 (.int .i64 2)) fun v12 =>
  pO (arithO .add x1 v12) fun v13 =>
  pO (arithO .quo v2 (.int .i64 4)) fun v15 =>
  pO (arithO .mul v15 (.int .i64 3)) fun v16 =>
  pO (arithO .add x1 v16) fun v17 =>
  join (X := Value) (fun x49 w39 => ∀ _ : Env,
    l1 v4 w39 fun v51 =>
    pO (cmpO false (eqlO v51 (.int .i64 0))) fun v53 =>
    cnd v53 (
      R (.tuple #[x49, (.int .i64 1)]) w39) (
      pO (cmpO false (eqlO v51 (.int .i64 12))) fun v56 =>
      cnd v56 (
        R (.tuple #[x49, (.int .i64 2)]) w39) (
        R (.tuple #[x49, (.int .i64 0)]) w39)))
  (fun K59 =>
    pO (arithO .geq v2 (.int .i64 8)) fun v61 =>
    cnd v61 (
      join (X := Value × Value × Value) (fun x79 w76 => ∀ _ : Env,
        Ret PR 54 #[x0, x79.1, x79.2.1, x79.2.2, v4] w76 fun v80 w81 =>
        K59 v80 w81)
      (fun K82 =>
        pO (arithO .geq v2 (.int .i64 50)) fun v84 =>
        cnd v84 (
          Ret PR 53 #[x0, v9, v4] w5 fun v86 w87 =>
          Ret PR 53 #[x0, v13, v4] w87 fun v89 w90 =>
          Ret PR 53 #[x0, v17, v4] w90 fun v91 w92 =>
          K82 (v86, v89, v91) w92) (
          K82 (v9, v13, v17) w5))) (
      K59 v13 w5))
def a42 : Ann := (.two .nil (.two .nil (.two .nil (.two .nil (.two .nil (.two .nil (.join [31, 32, 33, 34, 35, 36, 37, 10, 38, 39, 40, 11, 41, 42, 43, 12, 44, 45, 46, 47, 48] [11] (.two .nil (.two (.join [33, 34, 35, 36, 37, 10, 38, 39, 40, 11, 41, 42, 43, 12] [10, 11, 12] (.two .nil (.two (.two .nil (.two .nil .nil)) .nil)) .nil) .nil)) (.two .nil (.two .nil (.two (.two .nil .nil) (.two .nil (.two (.two .nil .nil) (.two .nil .nil)))))))))))))
theorem f42_ret {x0 x1 x2 : Value} {w0 : World} {R : Kv} (h : f42 x0 x1 x2 w0 R) : Ret PR 42 #[x0, x1, x2] w0 R :=
  ret_of_vc (fn := Try.f42) (c := body Try.f42) (x := a42) (args := [x0, x1, x2]) follows Try.func42 (body_eq (by kernel_rfl)) (by kernel_rfl) (Nat.le_of_ble_eq_true (by kernel_rfl))
    (Eq.mp (show f42 x0 x1 x2 w0 R = vcF PR Try.f42.results.toList (body Try.f42) a42 [x0, x1, x2] w0 R by kernel_rfl) h)

/-- slices.reverseRangeOrdered[int64] -/
def f43 (x0 x1 x2 : Value) (w0 : World) (R : Kv) : Prop :=
  pO (arithO .sub x2 (.int .i64 1)) fun v2 =>
  loopV (X := Value × Value) (x1, v2) w0 (fun K58 x57 w26 => ∀ _ : Env,
    pO (arithO .lss x57.1 x57.2) fun v61 =>
    cnd v61 (
      pO (ixsO 1 x0 x57.2) fun v63 =>
      pO (ixsO 1 x0 x57.1) fun v64 =>
      l1 v63 w26.drew fun v65 =>
      l1 v64 w26.drew fun v66 =>
      pO (ixsO 1 x0 x57.1) fun v67 =>
      stW 1 v67 v65 w26.drew fun w68 =>
      pO (ixsO 1 x0 x57.2) fun v69 =>
      stW 1 v69 v66 w68 fun w70 =>
      pO (arithO .add x57.1 (.int .i64 1)) fun v72 =>
      pO (arithO .sub x57.2 (.int .i64 1)) fun v73 =>
      K58 (v72, v73) w70) (
      R (.tuple #[]) w26))
def a43 : Ann := (.two .nil (.two .nil (.loop [11, 12, 13, 14, 15, 16, 17, 18, 19, 20, 21, 22, 23, 24, 25, 26, 27, 28, 29, 6, 30, 31, 7] [6, 7] (.two (.two .nil (.two .nil .nil)) (.two (.planA [(0, .pure), (1, .pure), (2, .pure), (3, .pure), (4, .pure), (5, .pure), (6, .pure), (8, .pure), (9, .pure), (10, .pure), (7, .load), (11, .load), (12, .pure), (13, .hard), (14, .pure), (15, .hard)]) (.two .nil .nil))))))
theorem f43_ret {x0 x1 x2 : Value} {w0 : World} {R : Kv} (h : f43 x0 x1 x2 w0 R) : Ret PR 43 #[x0, x1, x2] w0 R :=
  ret_of_vc (fn := Try.f43) (c := body Try.f43) (x := a43) (args := [x0, x1, x2]) follows Try.func43 (body_eq (by kernel_rfl)) (by kernel_rfl) (Nat.le_of_ble_eq_true (by kernel_rfl))
    (Eq.mp (show f43 x0 x1 x2 w0 R = vcF PR Try.f43.results.toList (body Try.f43) a43 [x0, x1, x2] w0 R by kernel_rfl) h)

/-- slices.partialInsertionSortOrdered[int64] -/
def f44 (x0 x1 x2 : Value) (w0 : World) (R : Kv) : Prop :=
  pO (arithO .add x1 (.int .i64 1)) fun v2 =>
  loopV (X := Value × Value) (v2, (.int .i64 0)) w0 (fun K3160 x3159 w130 => ∀ _ : Env,
    pO (arithO .lss x3159.2 (.int .i64 5)) fun v3163 =>
    cnd v3163 (
      join (X := Value) (fun x3286 w3284 => ∀ _ : Env,
        pO (arithO .add x3159.2 (.int .i64 1)) fun v3287 =>
        K3160 (x3286, v3287) w3284)
      (fun K3288 =>
        loopV (X := Value) x3159.1 w130 (fun K4219 x4218 w3309 => ∀ _ : Env,
          pO (arithO .lss x4218 x2) fun v4222 =>
          gd v4222 true (fun K4223 =>
            K4223 x0 w3309.drew) w3309.drew fun v4224 w4225 =>
          gd v4222 true (fun K4226 =>
            K4226 x4218 w4225) w4225 fun v4227 w4228 =>
          gd v4222 true (fun K4229 =>
            pO (ixsO 1 v4224 v4227) fun v4230 =>
            K4229 v4230 w4228) w4228 fun v4231 w4232 =>
          gd v4222 true (fun K4233 =>
            K4233 x0 w4232) w4232 fun v4234 w4235 =>
          gd v4222 true (fun K4236 =>
            K4236 x4218 w4235) w4235 fun v4237 w4238 =>
          gd v4222 true (fun K4239 =>
            pO (arithO .sub v4237 (.int .i64 1)) fun v4240 =>
            K4239 v4240 w4238) w4238 fun v4241 w4242 =>
          gd v4222 true (fun K4243 =>
            pO (ixsO 1 v4234 v4241) fun v4244 =>
            K4243 v4244 w4242) w4242 fun v4245 w4246 =>
          gd v4222 true (fun K4247 =>
            l1 v4231 w4246 fun v4248 =>
            K4247 v4248 w4246) w4246 fun v4249 w4250 =>
          gd v4222 true (fun K4251 =>
            l1 v4245 w4250 fun v4252 =>
            K4251 v4252 w4250) w4250 fun v4253 w4254 =>
          gd v4222 true (fun K4255 =>
            Ret PR 37 #[v4249, v4253] w4254 fun v4256 w4257 =>
            K4255 v4256 w4257) w4254 fun v4258 w4259 =>
          gd v4222 true (fun K4260 =>
            pO (unO .not v4258) fun v4261 =>
            K4260 v4261 w4259) w4259 fun v4262 w4263 =>
          pO (pkO v4222 v4262 (.bool false)) fun v4264 =>
          cnd v4264 (
            pO (arithO .add x4218 (.int .i64 1)) fun v4265 =>
            K4219 v4265 w4263) (
            pO (cmpO false (eqlO x4218 x2)) fun v4268 =>
            cnd v4268 (
              R (.bool true) w4263) (
              pO (arithO .sub x2 x1) fun v4272 =>
              pO (arithO .lss v4272 (.int .i64 50)) fun v4273 =>
              cnd v4273 (
                R (.bool false) w4263) (
                pO (arithO .sub x4218 (.int .i64 1)) fun v4276 =>
                pO (arithO .sub x4218 (.int .i64 1)) fun v4277 =>
                pO (ixsO 1 x0 v4277) fun v4278 =>
                pO (ixsO 1 x0 x4218) fun v4279 =>
                l1 v4278 w4263.drew fun v4280 =>
                l1 v4279 w4263.drew fun v4281 =>
                pO (ixsO 1 x0 x4218) fun v4282 =>
                stW 1 v4282 v4280 w4263.drew fun w4283 =>
                pO (ixsO 1 x0 v4276) fun v4284 =>
                stW 1 v4284 v4281 w4283 fun w4285 =>
                join (X := Unit) (fun x4441 w4324 => ∀ _ : Env,
                  pO (arithO .sub x2 x4218) fun v4443 =>
                  pO (arithO .geq v4443 (.int .i64 2)) fun v4444 =>
                  cnd v4444 (
                    pO (arithO .add x4218 (.int .i64 1)) fun v4446 =>
                    loopV (X := Value) v4446 w4324 (fun K4532 x4531 w4480 => ∀ _ : Env,
                      pO (arithO .lss x4531 x2) fun v4535 =>
                      cnd v4535 (
                        pO (ixsO 1 x0 x4531) fun v4539 =>
                        pO (arithO .sub x4531 (.int .i64 1)) fun v4540 =>
                        pO (ixsO 1 x0 v4540) fun v4541 =>
                        l1 v4539 w4480.drew fun v4542 =>
                        l1 v4541 w4480.drew fun v4543 =>
                        Ret PR 37 #[v4542, v4543] w4480.drew fun v4544 w4545 =>
                        pO (unO .not v4544) fun v4546 =>
                        cnd v4546 (
                          K3288 x4218 w4545) (
                          pO (arithO .sub x4531 (.int .i64 1)) fun v4547 =>
                          pO (arithO .sub x4531 (.int .i64 1)) fun v4548 =>
                          pO (ixsO 1 x0 v4548) fun v4549 =>
                          pO (ixsO 1 x0 x4531) fun v4550 =>
                          l1 v4549 w4545.drew fun v4551 =>
                          l1 v4550 w4545.drew fun v4552 =>
                          pO (ixsO 1 x0 x4531) fun v4553 =>
                          stW 1 v4553 v4551 w4545.drew fun w4554 =>
                          pO (ixsO 1 x0 v4547) fun v4555 =>
                          stW 1 v4555 v4552 w4554 fun w4556 =>
                          pO (arithO .add x4531 (.int .i64 1)) fun v4557 =>
                          K4532 v4557 w4556)) (
                        K3288 x4218 w4480))) (
                    K3288 x4218 w4324))
                (fun K4558 =>
                  pO (arithO .sub x4218 x1) fun v4560 =>
                  pO (arithO .geq v4560 (.int .i64 2)) fun v4561 =>
                  cnd v4561 (
                    pO (arithO .sub x4218 (.int .i64 1)) fun v4563 =>
                    loopV (X := Value) v4563 w4285 (fun K4648 x4647 w4596 => ∀ _ : Env,
                      pO (arithO .geq x4647 (.int .i64 1)) fun v4651 =>
                      cnd v4651 (
                        pO (ixsO 1 x0 x4647) fun v4655 =>
                        pO (arithO .sub x4647 (.int .i64 1)) fun v4656 =>
                        pO (ixsO 1 x0 v4656) fun v4657 =>
                        l1 v4655 w4596.drew fun v4658 =>
                        l1 v4657 w4596.drew fun v4659 =>
                        Ret PR 37 #[v4658, v4659] w4596.drew fun v4660 w4661 =>
                        pO (unO .not v4660) fun v4662 =>
                        cnd v4662 (
                          K4558 () w4661) (
                          pO (arithO .sub x4647 (.int .i64 1)) fun v4663 =>
                          pO (arithO .sub x4647 (.int .i64 1)) fun v4664 =>
                          pO (ixsO 1 x0 v4664) fun v4665 =>
                          pO (ixsO 1 x0 x4647) fun v4666 =>
                          l1 v4665 w4661.drew fun v4667 =>
                          l1 v4666 w4661.drew fun v4668 =>
                          pO (ixsO 1 x0 x4647) fun v4669 =>
                          stW 1 v4669 v4667 w4661.drew fun w4670 =>
                          pO (ixsO 1 x0 v4663) fun v4671 =>
                          stW 1 v4671 v4668 w4670 fun w4672 =>
                          pO (arithO .sub x4647 (.int .i64 1)) fun v4673 =>
                          K4648 v4673 w4672)) (
                        K4558 () w4596))) (
                    K4558 () w4285)))))))) (
      R (.bool false) w130))
def a44 : Ann := (.two .nil (.two .nil (.two (.two .nil (.loop [13, 14, 17, 18, 19, 20, 21, 22, 23, 24, 25, 26, 27, 28, 29, 30, 31, 32, 33, 34, 7, 35, 36, 37, 6, 38, 39, 40, 41, 42, 43, 44, 45, 46, 47, 48, 49, 50, 51, 52, 53, 54, 55, 56, 57, 58, 59, 60, 61, 62, 63, 9, 64, 65, 68, 69, 70, 71, 72, 73, 74, 75, 76, 77, 78, 79, 80, 81, 82, 83, 84, 85, 86, 87, 88, 89, 90, 91, 92, 93, 94, 66, 67, 95, 96, 97, 98, 99, 100, 10, 101, 102, 103, 106, 107, 108, 109, 110, 111, 112, 113, 114, 115, 116, 117, 118, 119, 120, 121, 122, 123, 124, 125, 126, 127, 128, 129, 130, 131, 132, 104, 105, 15, 16, 8] [7, 8] (.two (.two .nil (.two .nil .nil)) (.join [17, 18, 19, 20, 21, 22, 23, 24, 25, 26, 27, 28, 29, 30, 31, 32, 33, 34, 7, 35, 36, 37, 6, 38, 39, 40, 41, 42, 43, 44, 45, 46, 47, 48, 49, 50, 51, 52, 53, 54, 55, 56, 57, 58, 59, 60, 61, 62, 63, 9, 64, 65, 68, 69, 70, 71, 72, 73, 74, 75, 76, 77, 78, 79, 80, 81, 82, 83, 84, 85, 86, 87, 88, 89, 90, 91, 92, 93, 94, 66, 67, 95, 96, 97, 98, 99, 100, 10, 101, 102, 103, 106, 107, 108, 109, 110, 111, 112, 113, 114, 115, 116, 117, 118, 119, 120, 121, 122, 123, 124, 125, 126, 127, 128, 129, 130, 131, 132, 104, 105] [7] (.two (.loop [17, 18, 19, 20, 21, 22, 23, 24, 25, 26, 27, 28, 29, 30, 31, 32, 33, 34, 7] [7] (.two (.two (.planA [(0, .pure), (1, .pure), (2, .pure), (3, .pure), (4, .pure), (5, .pure), (6, .pure), (8, .pure), (9, .pure), (10, .pure), (11, .pure), (7, .load), (12, .load), (13, .hard), (14, .pure), (15, .pure)]) (.two .nil .nil)) .nil)) (.two (.two .nil (.two (.two .nil .nil) .nil)) (.two (.two .nil (.two (.two .nil .nil) .nil)) (.two (.planA [(0, .pure), (1, .pure), (2, .pure), (3, .pure), (4, .pure), (5, .pure), (6, .pure), (7, .pure), (8, .pure), (10, .pure), (11, .pure), (12, .pure), (9, .load), (13, .load), (14, .pure), (15, .hard), (16, .pure), (17, .hard)]) (.join [58, 59, 60, 61, 62, 63, 9, 64, 65, 68, 69, 70, 71, 72, 73, 74, 75, 76, 77, 78, 79, 80, 81, 82, 83, 84, 85, 86, 87, 88, 89, 90, 91, 92, 93, 94, 66, 67] [] (.two .nil (.two (.two .nil (.loop [64, 65, 68, 69, 70, 71, 72, 73, 74, 75, 76, 77, 78, 79, 80, 81, 82, 83, 84, 85, 86, 87, 88, 89, 90, 91, 92, 93, 94, 66, 67, 9] [9] (.two (.two .nil (.two .nil .nil)) (.two (.two (.two (.planA [(0, .pure), (1, .pure), (2, .pure), (4, .pure), (5, .pure), (6, .pure), (7, .pure), (3, .load), (8, .load), (9, .hard), (10, .pure)]) (.two .nil .nil)) (.planA [(0, .pure), (1, .pure), (2, .pure), (3, .pure), (4, .pure), (5, .pure), (6, .pure), (7, .pure), (8, .pure), (10, .pure), (11, .pure), (12, .pure), (9, .load), (13, .load), (14, .pure), (15, .hard), (16, .pure), (17, .hard)])) .nil)))) .nil)) (.two .nil (.two (.two .nil (.loop [101, 102, 103, 106, 107, 108, 109, 110, 111, 112, 113, 114, 115, 116, 117, 118, 119, 120, 121, 122, 123, 124, 125, 126, 127, 128, 129, 130, 131, 132, 104, 105, 10] [10] (.two (.two .nil (.two .nil .nil)) (.two (.two (.two (.planA [(0, .pure), (1, .pure), (2, .pure), (4, .pure), (5, .pure), (6, .pure), (7, .pure), (3, .load), (8, .load), (9, .hard), (10, .pure)]) (.two .nil .nil)) (.planA [(0, .pure), (1, .pure), (2, .pure), (3, .pure), (4, .pure), (5, .pure), (6, .pure), (7, .pure), (8, .pure), (10, .pure), (11, .pure), (12, .pure), (9, .load), (13, .load), (14, .pure), (15, .hard), (16, .pure), (17, .hard)])) .nil)))) .nil))))))) .nil)))) (.two .nil .nil))))
theorem f44_ret {x0 x1 x2 : Value} {w0 : World} {R : Kv} (h : f44 x0 x1 x2 w0 R) : Ret PR 44 #[x0, x1, x2] w0 R :=
  ret_of_vc (fn := Try.f44) (c := body Try.f44) (x := a44) (args := [x0, x1, x2]) follows Try.func44 (body_eq (by kernel_rfl)) (by kernel_rfl) (Nat.le_of_ble_eq_true (by kernel_rfl))
    (Eq.mp (show f44 x0 x1 x2 w0 R = vcF PR Try.f44.results.toList (body Try.f44) a44 [x0, x1, x2] w0 R by kernel_rfl) h)

/-- slices.partitionEqualOrdered[int64] -/
def f45 (x0 x1 x2 x3 : Value) (w0 : World) (R : Kv) : Prop :=
  pO (ixsO 1 x0 x3) fun v2 =>
  pO (ixsO 1 x0 x1) fun v3 =>
  l1 v2 w0.drew fun v4 =>
  l1 v3 w0.drew fun v5 =>
  pO (ixsO 1 x0 x1) fun v6 =>
  stW 1 v6 v4 w0.drew fun w7 =>
  pO (ixsO 1 x0 x3) fun v8 =>
  stW 1 v8 v5 w7 fun w9 =>
  pO (arithO .add x1 (.int .i64 1)) fun v11 =>
  pO (arithO .sub x2 (.int .i64 1)) fun v12 =>
  loopV (X := Value × Value) (v11, v12) w9 (fun K1466 x1465 w70 => ∀ _ : Env,
    loopV (X := Value) x1465.1 w70 (fun K1938 x1937 w1486 => ∀ _ : Env,
      pO (arithO .leq x1937 x1465.2) fun v1941 =>
      gd v1941 true (fun K1942 =>
        K1942 x0 w1486.drew) w1486.drew fun v1943 w1944 =>
      gd v1941 true (fun K1945 =>
        K1945 x1 w1944) w1944 fun v1946 w1947 =>
      gd v1941 true (fun K1948 =>
        pO (ixsO 1 v1943 v1946) fun v1949 =>
        K1948 v1949 w1947) w1947 fun v1950 w1951 =>
      gd v1941 true (fun K1952 =>
        K1952 x0 w1951) w1951 fun v1953 w1954 =>
      gd v1941 true (fun K1955 =>
        K1955 x1937 w1954) w1954 fun v1956 w1957 =>
      gd v1941 true (fun K1958 =>
        pO (ixsO 1 v1953 v1956) fun v1959 =>
        K1958 v1959 w1957) w1957 fun v1960 w1961 =>
      gd v1941 true (fun K1962 =>
        l1 v1950 w1961 fun v1963 =>
        K1962 v1963 w1961) w1961 fun v1964 w1965 =>
      gd v1941 true (fun K1966 =>
        l1 v1960 w1965 fun v1967 =>
        K1966 v1967 w1965) w1965 fun v1968 w1969 =>
      gd v1941 true (fun K1970 =>
        Ret PR 37 #[v1964, v1968] w1969 fun v1971 w1972 =>
        K1970 v1971 w1972) w1969 fun v1973 w1974 =>
      gd v1941 true (fun K1975 =>
        pO (unO .not v1973) fun v1976 =>
        K1975 v1976 w1974) w1974 fun v1977 w1978 =>
      pO (pkO v1941 v1977 (.bool false)) fun v1979 =>
      cnd v1979 (
        pO (arithO .add x1937 (.int .i64 1)) fun v1980 =>
        K1938 v1980 w1978) (
        loopV (X := Value) x1465.2 w1978 (fun K2109 x2108 w1999 => ∀ _ : Env,
          pO (arithO .leq x1937 x2108) fun v2112 =>
          gd v2112 true (fun K2113 =>
            K2113 x0 w1999.drew) w1999.drew fun v2114 w2115 =>
          gd v2112 true (fun K2116 =>
            K2116 x1 w2115) w2115 fun v2117 w2118 =>
          gd v2112 true (fun K2119 =>
            pO (ixsO 1 v2114 v2117) fun v2120 =>
            K2119 v2120 w2118) w2118 fun v2121 w2122 =>
          gd v2112 true (fun K2123 =>
            K2123 x0 w2122) w2122 fun v2124 w2125 =>
          gd v2112 true (fun K2126 =>
            K2126 x2108 w2125) w2125 fun v2127 w2128 =>
          gd v2112 true (fun K2129 =>
            pO (ixsO 1 v2124 v2127) fun v2130 =>
            K2129 v2130 w2128) w2128 fun v2131 w2132 =>
          gd v2112 true (fun K2133 =>
            l1 v2121 w2132 fun v2134 =>
            K2133 v2134 w2132) w2132 fun v2135 w2136 =>
          gd v2112 true (fun K2137 =>
            l1 v2131 w2136 fun v2138 =>
            K2137 v2138 w2136) w2136 fun v2139 w2140 =>
          gd v2112 true (fun K2141 =>
            Ret PR 37 #[v2135, v2139] w2140 fun v2142 w2143 =>
            K2141 v2142 w2143) w2140 fun v2144 w2145 =>
          pO (pkO v2112 v2144 (.bool false)) fun v2146 =>
          cnd v2146 (
            pO (arithO .sub x2108 (.int .i64 1)) fun v2147 =>
            K2109 v2147 w2145) (
            pO (arithO .gtr x1937 x2108) fun v2150 =>
            cnd v2150 (
              R x1937 w2145) (
              pO (ixsO 1 x0 x2108) fun v2153 =>
              pO (ixsO 1 x0 x1937) fun v2154 =>
              l1 v2153 w2145.drew fun v2155 =>
              l1 v2154 w2145.drew fun v2156 =>
              pO (ixsO 1 x0 x1937) fun v2157 =>
              stW 1 v2157 v2155 w2145.drew fun w2158 =>
              pO (ixsO 1 x0 x2108) fun v2159 =>
              stW 1 v2159 v2156 w2158 fun w2160 =>
              pO (arithO .add x1937 (.int .i64 1)) fun v2162 =>
              pO (arithO .sub x2108 (.int .i64 1)) fun v2163 =>
              K1466 (v2162, v2163) w2160))))))
def a45 : Ann := (.two .nil (.two (.planA [(0, .pure), (1, .pure), (2, .pure), (3, .pure), (4, .pure), (5, .pure), (6, .pure), (8, .pure), (9, .pure), (10, .pure), (7, .load), (11, .load), (12, .pure), (13, .hard), (14, .pure), (15, .hard)]) (.two .nil (.two (.loop [29, 30, 31, 32, 33, 34, 35, 36, 37, 38, 39, 40, 41, 42, 43, 44, 45, 9, 46, 47, 48, 49, 50, 51, 52, 53, 54, 55, 56, 57, 58, 59, 60, 61, 10, 62, 63, 64, 65, 66, 67, 68, 69, 70, 71, 72, 73, 74, 75, 76, 77, 78, 79, 80, 81, 82] [9, 10] (.two (.loop [29, 30, 31, 32, 33, 34, 35, 36, 37, 38, 39, 40, 41, 42, 43, 44, 45, 9] [9] (.two (.two (.planA [(0, .pure), (1, .pure), (2, .pure), (3, .pure), (4, .pure), (5, .pure), (6, .pure), (8, .pure), (9, .pure), (10, .pure), (7, .load), (11, .load), (12, .hard), (13, .pure), (14, .pure)]) (.two .nil .nil)) .nil)) (.two (.loop [46, 47, 48, 49, 50, 51, 52, 53, 54, 55, 56, 57, 58, 59, 60, 61, 10] [10] (.two (.two (.planA [(0, .pure), (1, .pure), (2, .pure), (3, .pure), (4, .pure), (5, .pure), (6, .pure), (8, .pure), (9, .pure), (10, .pure), (7, .load), (11, .load), (12, .hard), (13, .pure)]) (.two .nil .nil)) .nil)) (.two (.two .nil (.two .nil .nil)) (.two (.planA [(0, .pure), (1, .pure), (2, .pure), (3, .pure), (4, .pure), (5, .pure), (6, .pure), (8, .pure), (9, .pure), (10, .pure), (7, .load), (11, .load), (12, .pure), (13, .hard), (14, .pure), (15, .hard)]) (.two .nil .nil)))))) (.two .nil .nil)))))
theorem f45_ret {x0 x1 x2 x3 : Value} {w0 : World} {R : Kv} (h : f45 x0 x1 x2 x3 w0 R) : Ret PR 45 #[x0, x1, x2, x3] w0 R :=
  ret_of_vc (fn := Try.f45) (c := body Try.f45) (x := a45) (args := [x0, x1, x2, x3]) follows Try.func45 (body_eq (by kernel_rfl)) (by kernel_rfl) (Nat.le_of_ble_eq_true (by kernel_rfl))
    (Eq.mp (show f45 x0 x1 x2 x3 w0 R = vcF PR Try.f45.results.toList (body Try.f45) a45 [x0, x1, x2, x3] w0 R by kernel_rfl) h)

/-- slices.partitionOrdered[int64] -/
def f46 (x0 x1 x2 x3 : Value) (w0 : World) (R : Kv) : Prop :=
  pO (ixsO 1 x0 x3) fun v2 =>
  pO (ixsO 1 x0 x1) fun v3 =>
  l1 v2 w0.drew fun v4 =>
  l1 v3 w0.drew fun v5 =>
  pO (ixsO 1 x0 x1) fun v6 =>
  stW 1 v6 v4 w0.drew fun w7 =>
  pO (ixsO 1 x0 x3) fun v8 =>
  stW 1 v8 v5 w7 fun w9 =>
  pO (arithO .add x1 (.int .i64 1)) fun v11 =>
  pO (arithO .sub x2 (.int .i64 1)) fun v12 =>
  loopV (X := Value) v11 w9 (fun K15393 x15392 w31 => ∀ _ : Env,
    pO (arithO .leq x15392 v12) fun v15396 =>
    gd v15396 true (fun K15397 =>
      K15397 x0 w31.drew) w31.drew fun v15398 w15399 =>
    gd v15396 true (fun K15400 =>
      K15400 x15392 w15399) w15399 fun v15401 w15402 =>
    gd v15396 true (fun K15403 =>
      pO (ixsO 1 v15398 v15401) fun v15404 =>
      K15403 v15404 w15402) w15402 fun v15405 w15406 =>
    gd v15396 true (fun K15407 =>
      K15407 x0 w15406) w15406 fun v15408 w15409 =>
    gd v15396 true (fun K15410 =>
      K15410 x1 w15409) w15409 fun v15411 w15412 =>
    gd v15396 true (fun K15413 =>
      pO (ixsO 1 v15408 v15411) fun v15414 =>
      K15413 v15414 w15412) w15412 fun v15415 w15416 =>
    gd v15396 true (fun K15417 =>
      l1 v15405 w15416 fun v15418 =>
      K15417 v15418 w15416) w15416 fun v15419 w15420 =>
    gd v15396 true (fun K15421 =>
      l1 v15415 w15420 fun v15422 =>
      K15421 v15422 w15420) w15420 fun v15423 w15424 =>
    gd v15396 true (fun K15425 =>
      Ret PR 37 #[v15419, v15423] w15424 fun v15426 w15427 =>
      K15425 v15426 w15427) w15424 fun v15428 w15429 =>
    pO (pkO v15396 v15428 (.bool false)) fun v15430 =>
    cnd v15430 (
      pO (arithO .add x15392 (.int .i64 1)) fun v15431 =>
      K15393 v15431 w15429) (
      loopV (X := Value) v12 w15429 (fun K20533 x20532 w15451 => ∀ _ : Env,
        pO (arithO .leq x15392 x20532) fun v20536 =>
        gd v20536 true (fun K20537 =>
          K20537 x0 w15451.drew) w15451.drew fun v20538 w20539 =>
        gd v20536 true (fun K20540 =>
          K20540 x20532 w20539) w20539 fun v20541 w20542 =>
        gd v20536 true (fun K20543 =>
          pO (ixsO 1 v20538 v20541) fun v20544 =>
          K20543 v20544 w20542) w20542 fun v20545 w20546 =>
        gd v20536 true (fun K20547 =>
          K20547 x0 w20546) w20546 fun v20548 w20549 =>
        gd v20536 true (fun K20550 =>
          K20550 x1 w20549) w20549 fun v20551 w20552 =>
        gd v20536 true (fun K20553 =>
          pO (ixsO 1 v20548 v20551) fun v20554 =>
          K20553 v20554 w20552) w20552 fun v20555 w20556 =>
        gd v20536 true (fun K20557 =>
          l1 v20545 w20556 fun v20558 =>
          K20557 v20558 w20556) w20556 fun v20559 w20560 =>
        gd v20536 true (fun K20561 =>
          l1 v20555 w20560 fun v20562 =>
          K20561 v20562 w20560) w20560 fun v20563 w20564 =>
        gd v20536 true (fun K20565 =>
          Ret PR 37 #[v20559, v20563] w20564 fun v20566 w20567 =>
          K20565 v20566 w20567) w20564 fun v20568 w20569 =>
        gd v20536 true (fun K20570 =>
          pO (unO .not v20568) fun v20571 =>
          K20570 v20571 w20569) w20569 fun v20572 w20573 =>
        pO (pkO v20536 v20572 (.bool false)) fun v20574 =>
        cnd v20574 (
          pO (arithO .sub x20532 (.int .i64 1)) fun v20575 =>
          K20533 v20575 w20573) (
          pO (arithO .gtr x15392 x20532) fun v20578 =>
          cnd v20578 (
            pO (ixsO 1 x0 x1) fun v20580 =>
            pO (ixsO 1 x0 x20532) fun v20581 =>
            l1 v20580 w20573.drew fun v20582 =>
            l1 v20581 w20573.drew fun v20583 =>
            pO (ixsO 1 x0 x20532) fun v20584 =>
            stW 1 v20584 v20582 w20573.drew fun w20585 =>
            pO (ixsO 1 x0 x1) fun v20586 =>
            stW 1 v20586 v20583 w20585 fun w20587 =>
            R (.tuple #[x20532, (.bool true)]) w20587) (
            pO (ixsO 1 x0 x20532) fun v20590 =>
            pO (ixsO 1 x0 x15392) fun v20591 =>
            l1 v20590 w20573.drew fun v20592 =>
            l1 v20591 w20573.drew fun v20593 =>
            pO (ixsO 1 x0 x15392) fun v20594 =>
            stW 1 v20594 v20592 w20573.drew fun w20595 =>
            pO (ixsO 1 x0 x20532) fun v20596 =>
            stW 1 v20596 v20593 w20595 fun w20597 =>
            pO (arithO .add x15392 (.int .i64 1)) fun v20599 =>
            pO (arithO .sub x20532 (.int .i64 1)) fun v20601 =>
            loopV (X := Value × Value) (v20599, v20601) w20597 (fun K22269 x22268 w20659 => ∀ _ : Env,
              loopV (X := Value) x22268.1 w20659 (fun K22812 x22811 w22288 => ∀ _ : Env,
                pO (arithO .leq x22811 x22268.2) fun v22815 =>
                gd v22815 true (fun K22816 =>
                  K22816 x0 w22288.drew) w22288.drew fun v22817 w22818 =>
                gd v22815 true (fun K22819 =>
                  K22819 x22811 w22818) w22818 fun v22820 w22821 =>
                gd v22815 true (fun K22822 =>
                  pO (ixsO 1 v22817 v22820) fun v22823 =>
                  K22822 v22823 w22821) w22821 fun v22824 w22825 =>
                gd v22815 true (fun K22826 =>
                  K22826 x0 w22825) w22825 fun v22827 w22828 =>
                gd v22815 true (fun K22829 =>
                  K22829 x1 w22828) w22828 fun v22830 w22831 =>
                gd v22815 true (fun K22832 =>
                  pO (ixsO 1 v22827 v22830) fun v22833 =>
                  K22832 v22833 w22831) w22831 fun v22834 w22835 =>
                gd v22815 true (fun K22836 =>
                  l1 v22824 w22835 fun v22837 =>
                  K22836 v22837 w22835) w22835 fun v22838 w22839 =>
                gd v22815 true (fun K22840 =>
                  l1 v22834 w22839 fun v22841 =>
                  K22840 v22841 w22839) w22839 fun v22842 w22843 =>
                gd v22815 true (fun K22844 =>
                  Ret PR 37 #[v22838, v22842] w22843 fun v22845 w22846 =>
                  K22844 v22845 w22846) w22843 fun v22847 w22848 =>
                pO (pkO v22815 v22847 (.bool false)) fun v22849 =>
                cnd v22849 (
                  pO (arithO .add x22811 (.int .i64 1)) fun v22850 =>
                  K22812 v22850 w22848) (
                  loopV (X := Value) x22268.2 w22848 (fun K23006 x23005 w22870 => ∀ _ : Env,
                    pO (arithO .leq x22811 x23005) fun v23009 =>
                    gd v23009 true (fun K23010 =>
                      K23010 x0 w22870.drew) w22870.drew fun v23011 w23012 =>
                    gd v23009 true (fun K23013 =>
                      K23013 x23005 w23012) w23012 fun v23014 w23015 =>
                    gd v23009 true (fun K23016 =>
                      pO (ixsO 1 v23011 v23014) fun v23017 =>
                      K23016 v23017 w23015) w23015 fun v23018 w23019 =>
                    gd v23009 true (fun K23020 =>
                      K23020 x0 w23019) w23019 fun v23021 w23022 =>
                    gd v23009 true (fun K23023 =>
                      K23023 x1 w23022) w23022 fun v23024 w23025 =>
                    gd v23009 true (fun K23026 =>
                      pO (ixsO 1 v23021 v23024) fun v23027 =>
                      K23026 v23027 w23025) w23025 fun v23028 w23029 =>
                    gd v23009 true (fun K23030 =>
                      l1 v23018 w23029 fun v23031 =>
                      K23030 v23031 w23029) w23029 fun v23032 w23033 =>
                    gd v23009 true (fun K23034 =>
                      l1 v23028 w23033 fun v23035 =>
                      K23034 v23035 w23033) w23033 fun v23036 w23037 =>
                    gd v23009 true (fun K23038 =>
                      Ret PR 37 #[v23032, v23036] w23037 fun v23039 w23040 =>
                      K23038 v23039 w23040) w23037 fun v23041 w23042 =>
                    gd v23009 true (fun K23043 =>
                      pO (unO .not v23041) fun v23044 =>
                      K23043 v23044 w23042) w23042 fun v23045 w23046 =>
                    pO (pkO v23009 v23045 (.bool false)) fun v23047 =>
                    cnd v23047 (
                      pO (arithO .sub x23005 (.int .i64 1)) fun v23048 =>
                      K23006 v23048 w23046) (
                      pO (arithO .gtr x22811 x23005) fun v23051 =>
                      cnd v23051 (
                        pO (ixsO 1 x0 x1) fun v23053 =>
                        pO (ixsO 1 x0 x23005) fun v23054 =>
                        l1 v23053 w23046.drew fun v23055 =>
                        l1 v23054 w23046.drew fun v23056 =>
                        pO (ixsO 1 x0 x23005) fun v23057 =>
                        stW 1 v23057 v23055 w23046.drew fun w23058 =>
                        pO (ixsO 1 x0 x1) fun v23059 =>
                        stW 1 v23059 v23056 w23058 fun w23060 =>
                        R (.tuple #[x23005, (.bool false)]) w23060) (
                        pO (ixsO 1 x0 x23005) fun v23063 =>
                        pO (ixsO 1 x0 x22811) fun v23064 =>
                        l1 v23063 w23046.drew fun v23065 =>
                        l1 v23064 w23046.drew fun v23066 =>
                        pO (ixsO 1 x0 x22811) fun v23067 =>
                        stW 1 v23067 v23065 w23046.drew fun w23068 =>
                        pO (ixsO 1 x0 x23005) fun v23069 =>
                        stW 1 v23069 v23066 w23068 fun w23070 =>
                        pO (arithO .add x22811 (.int .i64 1)) fun v23072 =>
                        pO (arithO .sub x23005 (.int .i64 1)) fun v23073 =>
                        K22269 (v23072, v23073) w23070)))))))))))
def a46 : Ann := (.two .nil (.two (.planA [(0, .pure), (1, .pure), (2, .pure), (3, .pure), (4, .pure), (5, .pure), (6, .pure), (8, .pure), (9, .pure), (10, .pure), (7, .load), (11, .load), (12, .pure), (13, .hard), (14, .pure), (15, .hard)]) (.two .nil (.two (.loop [30, 31, 32, 33, 34, 35, 36, 37, 38, 39, 40, 41, 42, 43, 44, 45, 10] [10] (.two (.two (.planA [(0, .pure), (1, .pure), (2, .pure), (3, .pure), (4, .pure), (5, .pure), (6, .pure), (8, .pure), (9, .pure), (10, .pure), (7, .load), (11, .load), (12, .hard), (13, .pure)]) (.two .nil .nil)) .nil)) (.two (.loop [46, 47, 48, 49, 50, 51, 52, 53, 54, 55, 56, 57, 58, 59, 60, 61, 62, 11] [11] (.two (.two (.planA [(0, .pure), (1, .pure), (2, .pure), (3, .pure), (4, .pure), (5, .pure), (6, .pure), (8, .pure), (9, .pure), (10, .pure), (7, .load), (11, .load), (12, .hard), (13, .pure), (14, .pure)]) (.two .nil .nil)) .nil)) (.two (.two .nil (.two (.two (.planA [(0, .pure), (1, .pure), (2, .pure), (3, .pure), (4, .pure), (5, .pure), (6, .pure), (8, .pure), (9, .pure), (10, .pure), (7, .load), (11, .load), (12, .pure), (13, .hard), (14, .pure), (15, .hard)]) (.two .nil .nil)) .nil)) (.two (.planA [(0, .pure), (1, .pure), (2, .pure), (3, .pure), (4, .pure), (5, .pure), (6, .pure), (8, .pure), (9, .pure), (10, .pure), (7, .load), (11, .load), (12, .pure), (13, .hard), (14, .pure), (15, .hard)]) (.two .nil (.two .nil (.two (.loop [99, 100, 101, 102, 103, 104, 105, 106, 107, 108, 109, 110, 111, 112, 113, 114, 10, 115, 116, 117, 118, 119, 120, 121, 122, 123, 124, 125, 126, 127, 128, 129, 130, 131, 11, 132, 133, 134, 135, 136, 137, 138, 139, 140, 141, 142, 143, 144, 145, 146, 147, 148, 149, 150, 151, 152] [10, 11] (.two (.loop [99, 100, 101, 102, 103, 104, 105, 106, 107, 108, 109, 110, 111, 112, 113, 114, 10] [10] (.two (.two (.planA [(0, .pure), (1, .pure), (2, .pure), (3, .pure), (4, .pure), (5, .pure), (6, .pure), (8, .pure), (9, .pure), (10, .pure), (7, .load), (11, .load), (12, .hard), (13, .pure)]) (.two .nil .nil)) .nil)) (.two (.loop [115, 116, 117, 118, 119, 120, 121, 122, 123, 124, 125, 126, 127, 128, 129, 130, 131, 11] [11] (.two (.two (.planA [(0, .pure), (1, .pure), (2, .pure), (3, .pure), (4, .pure), (5, .pure), (6, .pure), (8, .pure), (9, .pure), (10, .pure), (7, .load), (11, .load), (12, .hard), (13, .pure), (14, .pure)]) (.two .nil .nil)) .nil)) (.two (.two .nil (.two .nil .nil)) (.two (.planA [(0, .pure), (1, .pure), (2, .pure), (3, .pure), (4, .pure), (5, .pure), (6, .pure), (8, .pure), (9, .pure), (10, .pure), (7, .load), (11, .load), (12, .pure), (13, .hard), (14, .pure), (15, .hard)]) (.two .nil .nil)))))) (.two (.planA [(0, .pure), (1, .pure), (2, .pure), (3, .pure), (4, .pure), (5, .pure), (6, .pure), (8, .pure), (9, .pure), (10, .pure), (7, .load), (11, .load), (12, .pure), (13, .hard), (14, .pure), (15, .hard)]) (.two .nil .nil))))))))))))
theorem f46_ret {x0 x1 x2 x3 : Value} {w0 : World} {R : Kv} (h : f46 x0 x1 x2 x3 w0 R) : Ret PR 46 #[x0, x1, x2, x3] w0 R :=
  ret_of_vc (fn := Try.f46) (c := body Try.f46) (x := a46) (args := [x0, x1, x2, x3]) follows Try.func46 (body_eq (by kernel_rfl)) (by kernel_rfl) (Nat.le_of_ble_eq_true (by kernel_rfl))
    (Eq.mp (show f46 x0 x1 x2 x3 w0 R = vcF PR Try.f46.results.toList (body Try.f46) a46 [x0, x1, x2, x3] w0 R by kernel_rfl) h)

/-- math/bits.Len32 -/
def f47 (x0 : Value) (w0 : World) (R : Kv) : Prop :=
  join (X := Value × Value) (fun x34 w7 => ∀ _ : Env,
    join (X := Value × Value) (fun x49 w43 => ∀ _ : Env,
      pO (cviO .u8 x49.1) fun v51 =>
      pO (ixstrO (.string ⟨#[0, 1, 2, 2, 3, 3, 3, 3, 4, 4, 4, 4, 4, 4, 4, 4, 5, 5, 5, 5, 5, 5, 5, 5, 5, 5, 5, 5, 5, 5, 5, 5, 6, 6, 6, 6, 6, 6, 6, 6, 6, 6, 6, 6, 6, 6, 6, 6, 6, 6, 6, 6, 6, 6, 6, 6, 6, 6, 6, 6, 6, 6, 6, 6, 7, 7, 7, 7, 7, 7, 7, 7, 7, 7, 7, 7, 7, 7, 7, 7, 7, 7, 7, 7, 7, 7, 7, 7, 7, 7, 7, 7, 7, 7, 7, 7, 7, 7, 7, 7, 7, 7, 7, 7, 7, 7, 7, 7, 7, 7, 7, 7, 7, 7, 7, 7, 7, 7, 7, 7, 7, 7, 7, 7, 7, 7, 7, 7, 8, 8, 8, 8, 8, 8, 8, 8, 8, 8, 8, 8, 8, 8, 8, 8, 8, 8, 8, 8, 8, 8, 8, 8, 8, 8, 8, 8, 8, 8, 8, 8, 8, 8, 8, 8, 8, 8, 8, 8, 8, 8, 8, 8, 8, 8, 8, 8, 8, 8, 8, 8, 8, 8, 8, 8, 8, 8, 8, 8, 8, 8, 8, 8, 8, 8, 8, 8, 8, 8, 8, 8, 8, 8, 8, 8, 8, 8, 8, 8, 8, 8, 8, 8, 8, 8, 8, 8, 8, 8, 8, 8, 8, 8, 8, 8, 8, 8, 8, 8, 8, 8, 8, 8, 8, 8, 8, 8, 8, 8, 8, 8, 8, 8, 8, 8, 8, 8, 8, 8, 8, 8, 8, 8, 8, 8, 8, 8]⟩) v51) fun v52 =>
      pO (cviO .i64 v52) fun v53 =>
      pO (arithO .add x49.2 v53) fun v54 =>
      R v54 w43)
    (fun K55 =>
      pO (arithO .geq x34.1 (.int .u32 256)) fun v57 =>
      cnd v57 (
        pO (arithO .shr x34.1 (.int .u64 8)) fun v59 =>
        pO (arithO .add x34.2 (.int .i64 8)) fun v60 =>
        K55 (v59, v60) w7) (
        K55 (x34.1, x34.2) w7)))
  (fun K61 =>
    pO (arithO .geq x0 (.int .u32 65536)) fun v63 =>
    cnd v63 (
      pO (arithO .shr x0 (.int .u64 16)) fun v65 =>
      K61 (v65, (.int .i64 16)) w0) (
      K61 (x0, (.int .i64 0)) w0))
def a47 : Ann := (.two .nil (.join [3, 4, 5, 6, 0, 2] [0, 2] (.two .nil (.two (.two .nil .nil) .nil)) (.join [7, 8, 9, 10, 0, 11, 12, 2] [0, 2] (.two .nil (.two (.two .nil .nil) .nil)) (.two .nil .nil))))
theorem f47_ret {x0 : Value} {w0 : World} {R : Kv} (h : f47 x0 w0 R) : Ret PR 47 #[x0] w0 R :=
  ret_of_vc (fn := Try.f47) (c := body Try.f47) (x := a47) (args := [x0]) follows Try.func47 (body_eq (by kernel_rfl)) (by kernel_rfl) (Nat.le_of_ble_eq_true (by kernel_rfl))
    (Eq.mp (show f47 x0 w0 R = vcF PR Try.f47.results.toList (body Try.f47) a47 [x0] w0 R by kernel_rfl) h)

/-- math/bits.Len64 -/
def f48 (x0 : Value) (w0 : World) (R : Kv) : Prop :=
  join (X := Value × Value) (fun x76 w7 => ∀ _ : Env,
    join (X := Value × Value) (fun x112 w85 => ∀ _ : Env,
      join (X := Value × Value) (fun x127 w121 => ∀ _ : Env,
        pO (cviO .u8 x127.1) fun v129 =>
        pO (ixstrO (.string ⟨#[0, 1, 2, 2, 3, 3, 3, 3, 4, 4, 4, 4, 4, 4, 4, 4, 5, 5, 5, 5, 5, 5, 5, 5, 5, 5, 5, 5, 5, 5, 5, 5, 6, 6, 6, 6, 6, 6, 6, 6, 6, 6, 6, 6, 6, 6, 6, 6, 6, 6, 6, 6, 6, 6, 6, 6, 6, 6, 6, 6, 6, 6, 6, 6, 7, 7, 7, 7, 7, 7, 7, 7, 7, 7, 7, 7, 7, 7, 7, 7, 7, 7, 7, 7, 7, 7, 7, 7, 7, 7, 7, 7, 7, 7, 7, 7, 7, 7, 7, 7, 7, 7, 7, 7, 7, 7, 7, 7, 7, 7, 7, 7, 7, 7, 7, 7, 7, 7, 7, 7, 7, 7, 7, 7, 7, 7, 7, 7, 8, 8, 8, 8, 8, 8, 8, 8, 8, 8, 8, 8, 8, 8, 8, 8, 8, 8, 8, 8, 8, 8, 8, 8, 8, 8, 8, 8, 8, 8, 8, 8, 8, 8, 8, 8, 8, 8, 8, 8, 8, 8, 8, 8, 8, 8, 8, 8, 8, 8, 8, 8, 8, 8, 8, 8, 8, 8, 8, 8, 8, 8, 8, 8, 8, 8, 8, 8, 8, 8, 8, 8, 8, 8, 8, 8, 8, 8, 8, 8, 8, 8, 8, 8, 8, 8, 8, 8, 8, 8, 8, 8, 8, 8, 8, 8, 8, 8, 8, 8, 8, 8, 8, 8, 8, 8, 8, 8, 8, 8, 8, 8, 8, 8, 8, 8, 8, 8, 8, 8, 8, 8, 8, 8, 8, 8, 8, 8]⟩) v129) fun v130 =>
        pO (cviO .i64 v130) fun v131 =>
        pO (arithO .add x127.2 v131) fun v132 =>
        R v132 w121)
      (fun K133 =>
        pO (arithO .geq x112.1 (.int .u64 256)) fun v135 =>
        cnd v135 (
          pO (arithO .shr x112.1 (.int .u64 8)) fun v137 =>
          pO (arithO .add x112.2 (.int .i64 8)) fun v138 =>
          K133 (v137, v138) w85) (
          K133 (x112.1, x112.2) w85)))
    (fun K139 =>
      pO (arithO .geq x76.1 (.int .u64 65536)) fun v141 =>
      cnd v141 (
        pO (arithO .shr x76.1 (.int .u64 16)) fun v143 =>
        pO (arithO .add x76.2 (.int .i64 16)) fun v144 =>
        K139 (v143, v144) w7) (
        K139 (x76.1, x76.2) w7)))
  (fun K145 =>
    pO (arithO .geq x0 (.int .u64 4294967296)) fun v147 =>
    cnd v147 (
      pO (arithO .shr x0 (.int .u64 32)) fun v149 =>
      K145 (v149, (.int .i64 32)) w0) (
      K145 (x0, (.int .i64 0)) w0))
def a48 : Ann := (.two .nil (.join [3, 4, 5, 6, 0, 2] [0, 2] (.two .nil (.two (.two .nil .nil) .nil)) (.join [7, 8, 9, 10, 0, 11, 12, 2] [0, 2] (.two .nil (.two (.two .nil .nil) .nil)) (.join [13, 14, 15, 16, 0, 17, 18, 2] [0, 2] (.two .nil (.two (.two .nil .nil) .nil)) (.two .nil .nil)))))
theorem f48_ret {x0 : Value} {w0 : World} {R : Kv} (h : f48 x0 w0 R) : Ret PR 48 #[x0] w0 R :=
  ret_of_vc (fn := Try.f48) (c := body Try.f48) (x := a48) (args := [x0]) follows Try.func48 (body_eq (by kernel_rfl)) (by kernel_rfl) (Nat.le_of_ble_eq_true (by kernel_rfl))
    (Eq.mp (show f48 x0 w0 R = vcF PR Try.f48.results.toList (body Try.f48) a48 [x0] w0 R by kernel_rfl) h)

/-- cmp.isNaN[int64] -/
def f49 (x0 : Value) (w0 : World) (R : Kv) : Prop :=
  pO (cmpO true (eqlO x0 x0)) fun v2 =>
  R v2 w0
def a49 : Ann := (.two .nil (.two .nil .nil))
theorem f49_ret {x0 : Value} {w0 : World} {R : Kv} (h : f49 x0 w0 R) : Ret PR 49 #[x0] w0 R :=
  ret_of_vc (fn := Try.f49) (c := body Try.f49) (x := a49) (args := [x0]) follows Try.func49 (body_eq (by kernel_rfl)) (by kernel_rfl) (Nat.le_of_ble_eq_true (by kernel_rfl))
    (Eq.mp (show f49 x0 w0 R = vcF PR Try.f49.results.toList (body Try.f49) a49 [x0] w0 R by kernel_rfl) h)

/-- slices.siftDownOrdered[int64] -/
def f50 (x0 x1 x2 x3 : Value) (w0 : World) (R : Kv) : Prop :=
  loopV (X := Value) x1 w0 (fun K342 x341 w68 => ∀ _ : Env,
    pO (arithO .mul (.int .i64 2) x341) fun v344 =>
    pO (arithO .add v344 (.int .i64 1)) fun v345 =>
    pO (arithO .geq v345 x2) fun v348 =>
    cnd v348 (
      R (.tuple #[]) w68) (
      join (X := Value) (fun x397 w372 => ∀ _ : Env,
        pO (arithO .add x3 x341) fun v400 =>
        pO (ixsO 1 x0 v400) fun v401 =>
        pO (arithO .add x3 x397) fun v402 =>
        pO (ixsO 1 x0 v402) fun v403 =>
        l1 v401 w372.drew fun v404 =>
        l1 v403 w372.drew fun v405 =>
        Ret PR 37 #[v404, v405] w372.drew fun v406 w407 =>
        pO (unO .not v406) fun v408 =>
        cnd v408 (
          R (.tuple #[]) w407) (
          pO (arithO .add x3 x341) fun v410 =>
          pO (arithO .add x3 x397) fun v411 =>
          pO (arithO .add x3 x397) fun v412 =>
          pO (ixsO 1 x0 v412) fun v413 =>
          pO (arithO .add x3 x341) fun v414 =>
          pO (ixsO 1 x0 v414) fun v415 =>
          l1 v413 w407.drew fun v416 =>
          l1 v415 w407.drew fun v417 =>
          pO (ixsO 1 x0 v410) fun v418 =>
          stW 1 v418 v416 w407.drew fun w419 =>
          pO (ixsO 1 x0 v411) fun v420 =>
          stW 1 v420 v417 w419 fun w421 =>
          K342 x397 w421))
      (fun K422 =>
        pO (arithO .add v345 (.int .i64 1)) fun v424 =>
        pO (arithO .lss v424 x2) fun v425 =>
        gd v425 true (fun K426 =>
          K426 x0 w68.drew) w68.drew fun v427 w428 =>
        gd v425 true (fun K429 =>
          K429 x3 w428) w428 fun v430 w431 =>
        gd v425 true (fun K432 =>
          K432 v345 w431) w431 fun v433 w434 =>
        gd v425 true (fun K435 =>
          pO (arithO .add v430 v433) fun v436 =>
          K435 v436 w434) w434 fun v437 w438 =>
        gd v425 true (fun K439 =>
          pO (ixsO 1 v427 v437) fun v440 =>
          K439 v440 w438) w438 fun v441 w442 =>
        gd v425 true (fun K443 =>
          K443 x0 w442) w442 fun v444 w445 =>
        gd v425 true (fun K446 =>
          K446 x3 w445) w445 fun v447 w448 =>
        gd v425 true (fun K449 =>
          K449 v345 w448) w448 fun v450 w451 =>
        gd v425 true (fun K452 =>
          pO (arithO .add v447 v450) fun v453 =>
          K452 v453 w451) w451 fun v454 w455 =>
        gd v425 true (fun K456 =>
          pO (arithO .add v454 (.int .i64 1)) fun v457 =>
          K456 v457 w455) w455 fun v458 w459 =>
        gd v425 true (fun K460 =>
          pO (ixsO 1 v444 v458) fun v461 =>
          K460 v461 w459) w459 fun v462 w463 =>
        gd v425 true (fun K464 =>
          l1 v441 w463 fun v465 =>
          K464 v465 w463) w463 fun v466 w467 =>
        gd v425 true (fun K468 =>
          l1 v462 w467 fun v469 =>
          K468 v469 w467) w467 fun v470 w471 =>
        gd v425 true (fun K472 =>
          Ret PR 37 #[v466, v470] w471 fun v473 w474 =>
          K472 v473 w474) w471 fun v475 w476 =>
        pO (pkO v425 v475 (.bool false)) fun v477 =>
        cnd v477 (
          pO (arithO .add v345 (.int .i64 1)) fun v478 =>
          K422 v478 w476) (
          K422 v345 w476))))
def a50 : Ann := (.two .nil (.loop [11, 12, 13, 9, 14, 15, 16, 17, 18, 19, 20, 21, 22, 23, 24, 25, 26, 27, 28, 29, 30, 31, 32, 33, 34, 35, 36, 37, 38, 39, 40, 41, 42, 43, 44, 45, 46, 47, 48, 49, 50, 51, 52, 53, 54, 55, 56, 57, 58, 59, 60, 61, 62, 63, 64, 65, 66, 67, 68, 69, 70, 71, 72, 73, 74, 75, 8] [8] (.two .nil (.two (.two .nil (.two .nil .nil)) (.join [17, 18, 19, 20, 21, 22, 23, 24, 25, 26, 27, 28, 29, 30, 31, 32, 33, 34, 35, 36, 37, 38, 9] [9] (.two (.planA [(0, .pure), (1, .pure), (2, .pure), (3, .pure), (4, .pure), (5, .pure), (6, .pure), (7, .pure), (8, .pure), (9, .pure), (11, .pure), (12, .pure), (13, .pure), (14, .pure), (15, .pure), (16, .pure), (10, .load), (17, .load), (18, .hard), (19, .pure)]) (.two .nil .nil)) (.two (.two (.planA [(0, .pure), (1, .pure), (2, .pure), (3, .pure), (4, .pure), (6, .pure), (7, .pure), (8, .pure), (9, .pure), (10, .pure), (5, .load), (11, .load), (12, .hard), (13, .pure)]) (.two .nil .nil)) (.two (.planA [(0, .pure), (1, .pure), (2, .pure), (3, .pure), (4, .pure), (5, .pure), (6, .pure), (7, .pure), (8, .pure), (9, .pure), (10, .pure), (11, .pure), (12, .pure), (14, .pure), (15, .pure), (16, .pure), (17, .pure), (18, .pure), (13, .load), (19, .load), (20, .pure), (21, .hard), (22, .pure), (23, .hard)]) .nil)))))))
theorem f50_ret {x0 x1 x2 x3 : Value} {w0 : World} {R : Kv} (h : f50 x0 x1 x2 x3 w0 R) : Ret PR 50 #[x0, x1, x2, x3] w0 R :=
  ret_of_vc (fn := Try.f50) (c := body Try.f50) (x := a50) (args := [x0, x1, x2, x3]) follows Try.func50 (body_eq (by kernel_rfl)) (by kernel_rfl) (Nat.le_of_ble_eq_true (by kernel_rfl))
    (Eq.mp (show f50 x0 x1 x2 x3 w0 R = vcF PR Try.f50.results.toList (body Try.f50) a50 [x0, x1, x2, x3] w0 R by kernel_rfl) h)

/-- slices.nextPowerOfTwo -/
def f51 (x0 : Value) (w0 : World) (R : Kv) : Prop :=
  pO (cviO .u64 x0) fun v2 =>
  Ret PR 36 #[v2] w0 fun v3 w4 =>
  pO (arithO .shl (.int .u64 1) v3) fun v5 =>
  R v5 w4
def a51 : Ann := (.two .nil (.two .nil .nil))
theorem f51_ret {x0 : Value} {w0 : World} {R : Kv} (h : f51 x0 w0 R) : Ret PR 51 #[x0] w0 R :=
  ret_of_vc (fn := Try.f51) (c := body Try.f51) (x := a51) (args := [x0]) follows Try.func51 (body_eq (by kernel_rfl)) (by kernel_rfl) (Nat.le_of_ble_eq_true (by kernel_rfl))
    (Eq.mp (show f51 x0 w0 R = vcF PR Try.f51.results.toList (body Try.f51) a51 [x0] w0 R by kernel_rfl) h)

/-- (*slices.xorshift).Next -/
def f52 (x0 : Value) (w0 : World) (R : Kv) : Prop :=
  pO (ncO x0) fun v2 =>
  pO (ncO x0) fun v3 =>
  l1 v2 w0.drew fun v4 =>
  l1 v3 w0.drew fun v5 =>
  pO (arithO .shl v5 (.int .u64 13)) fun v6 =>
  pO (arithO .xor v4 v6) fun v7 =>
  pO (ncO x0) fun v8 =>
  stW 1 v8 v7 w0.drew fun w9 =>
  pO (ncO x0) fun v11 =>
  pO (ncO x0) fun v12 =>
  l1 v11 w9.drew fun v13 =>
  l1 v12 w9.drew fun v14 =>
  pO (arithO .shr v14 (.int .u64 7)) fun v15 =>
  pO (arithO .xor v13 v15) fun v16 =>
  pO (ncO x0) fun v17 =>
  stW 1 v17 v16 w9.drew fun w18 =>
  pO (ncO x0) fun v20 =>
  pO (ncO x0) fun v21 =>
  l1 v20 w18.drew fun v22 =>
  l1 v21 w18.drew fun v23 =>
  pO (arithO .shl v23 (.int .u64 17)) fun v24 =>
  pO (arithO .xor v22 v24) fun v25 =>
  pO (ncO x0) fun v26 =>
  stW 1 v26 v25 w18.drew fun w27 =>
  pO (ncO x0) fun v29 =>
  l1 v29 w27 fun v30 =>
  R v30 w27
def a52 : Ann := (.two .nil (.two (.planA [(0, .pure), (1, .pure), (3, .pure), (4, .pure), (2, .load), (5, .load), (6, .pureF), (7, .pure), (8, .pure), (9, .hard)]) (.two (.planA [(0, .pure), (1, .pure), (3, .pure), (4, .pure), (2, .load), (5, .load), (6, .pureF), (7, .pure), (8, .pure), (9, .hard)]) (.two (.planA [(0, .pure), (1, .pure), (3, .pure), (4, .pure), (2, .load), (5, .load), (6, .pureF), (7, .pure), (8, .pure), (9, .hard)]) (.two .nil .nil)))))
theorem f52_ret {x0 : Value} {w0 : World} {R : Kv} (h : f52 x0 w0 R) : Ret PR 52 #[x0] w0 R :=
  ret_of_vc (fn := Try.f52) (c := body Try.f52) (x := a52) (args := [x0]) follows Try.func52 (body_eq (by kernel_rfl)) (by kernel_rfl) (Nat.le_of_ble_eq_true (by kernel_rfl))
    (Eq.mp (show f52 x0 w0 R = vcF PR Try.f52.results.toList (body Try.f52) a52 [x0] w0 R by kernel_rfl) h)

/-- slices.medianAdjacentOrdered[int64] -/
def f53 (x0 x1 x2 : Value) (w0 : World) (R : Kv) : Prop :=
  pO (arithO .sub x1 (.int .i64 1)) fun v2 =>
  pO (arithO .add x1 (.int .i64 1)) fun v3 =>
  Ret PR 54 #[x0, v2, x1, v3, x2] w0 fun v4 w5 =>
  R v4 w5
def a53 : Ann := (.two .nil (.two .nil .nil))
theorem f53_ret {x0 x1 x2 : Value} {w0 : World} {R : Kv} (h : f53 x0 x1 x2 w0 R) : Ret PR 53 #[x0, x1, x2] w0 R :=
  ret_of_vc (fn := Try.f53) (c := body Try.f53) (x := a53) (args := [x0, x1, x2]) follows Try.func53 (body_eq (by kernel_rfl)) (by kernel_rfl) (Nat.le_of_ble_eq_true (by kernel_rfl))
    (Eq.mp (show f53 x0 x1 x2 w0 R = vcF PR Try.f53.results.toList (body Try.f53) a53 [x0, x1, x2] w0 R by kernel_rfl) h)

/-- slices.medianOrdered[int64] -/
def f54 (x0 x1 x2 x3 x4 : Value) (w0 : World) (R : Kv) : Prop :=
  Ret PR 55 #[x0, x1, x2, x4] w0 fun v2 w3 =>
  pO (exO v2 0) fun v4 =>
  pO (exO v2 1) fun v5 =>
  Ret PR 55 #[x0, v5, x3, x4] w3 fun v7 w8 =>
  pO (exO v7 0) fun v9 =>
  pO (exO v7 1) fun v10 =>
  Ret PR 55 #[x0, v4, v9, x4] w8 fun v12 w13 =>
  pO (exO v12 0) fun v14 =>
  pO (exO v12 1) fun v15 =>
  R v15 w13
def a54 : Ann := (.two .nil (.two .nil (.two .nil (.two .nil (.two .nil .nil)))))
theorem f54_ret {x0 x1 x2 x3 x4 : Value} {w0 : World} {R : Kv} (h : f54 x0 x1 x2 x3 x4 w0 R) : Ret PR 54 #[x0, x1, x2, x3, x4] w0 R :=
  ret_of_vc (fn := Try.f54) (c := body Try.f54) (x := a54) (args := [x0, x1, x2, x3, x4]) follows Try.func54 (body_eq (by kernel_rfl)) (by kernel_rfl) (Nat.le_of_ble_eq_true (by kernel_rfl))
    (Eq.mp (show f54 x0 x1 x2 x3 x4 w0 R = vcF PR Try.f54.results.toList (body Try.f54) a54 [x0, x1, x2, x3, x4] w0 R by kernel_rfl) h)

/-- slices.order2Ordered[int64] -/
def f55 (x0 x1 x2 x3 : Value) (w0 : World) (R : Kv) : Prop :=
  pO (ixsO 1 x0 x2) fun v3 =>
  pO (ixsO 1 x0 x1) fun v4 =>
  l1 v3 w0.drew fun v5 =>
  l1 v4 w0.drew fun v6 =>
  Ret PR 37 #[v5, v6] w0.drew fun v7 w8 =>
  cnd v7 (
    pO (ncO x3) fun v10 =>
    l1 v10 w8 fun v11 =>
    pO (arithO .add v11 (.int .i64 1)) fun v12 =>
    pO (ncO x3) fun v13 =>
    stW 1 v13 v12 w8 fun w14 =>
    R (.tuple #[x2, x1]) w14) (
    R (.tuple #[x1, x2]) w8)
def a55 : Ann := (.two .nil (.two (.two (.planA [(0, .pure), (1, .pure), (2, .pure), (4, .pure), (5, .pure), (6, .pure), (3, .load), (7, .load), (8, .hard)]) (.two (.two .nil (.two .nil .nil)) .nil)) (.two .nil .nil)))
theorem f55_ret {x0 x1 x2 x3 : Value} {w0 : World} {R : Kv} (h : f55 x0 x1 x2 x3 w0 R) : Ret PR 55 #[x0, x1, x2, x3] w0 R :=
  ret_of_vc (fn := Try.f55) (c := body Try.f55) (x := a55) (args := [x0, x1, x2, x3]) follows Try.func55 (body_eq (by kernel_rfl)) (by kernel_rfl) (Nat.le_of_ble_eq_true (by kernel_rfl))
    (Eq.mp (show f55 x0 x1 x2 x3 w0 R = vcF PR Try.f55.results.toList (body Try.f55) a55 [x0, x1, x2, x3] w0 R by kernel_rfl) h)

end Go.Proofs.Ytopefchiadmpaaa.T
